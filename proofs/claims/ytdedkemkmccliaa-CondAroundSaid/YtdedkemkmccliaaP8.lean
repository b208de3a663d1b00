/-
  WHAT IS SET INTO A CONDITION: the law.
-/
import Derived.Test.YtdedkemkmccliaaP7
set_option linter.unusedVariables false
set_option linter.unusedSimpArgs false
namespace Go.Proofs.Ytdedkemkmccliaa
open Go.Al Go.Den

theorem runP_wrap4 (a : List Int) (ha : (runP 0 a [] []).2.2 = 0) :
    runP 0 (4 :: (a ++ [7])) [] [] = ([.mk 0 (1 + a.length) [.mk 0 (shIts 1 (runP 0 a [] []).1)]], 0, 0) := by
  have h2 := runP_li 1 [] [⟨0, [], 0, false, [], 0, 0, 0⟩] [7] a 0 [] [] ha
  simp only [liO, liI, List.isEmpty_nil, if_true, List.nil_append, Int.zero_add, shIts] at h2
  have e : runP 0 (4 :: (a ++ [7])) [] [] = runP 1 (a ++ [7]) [⟨0, [], 0, false, [], 0, 0, 0⟩] [] := rfl
  rw [e, h2]
  rfl
theorem runP_wrap26 (a : List Int) (ha : (runP 0 a [] []).2.2 = 0) :
    runP 0 (2 :: 6 :: (a ++ [7])) [] [] = ([.mk 0 (2 + a.length) [.mk 0 [], .mk 1 (shIts 2 (runP 0 a [] []).1)]], 0, 0) := by
  have h2 := runP_li 2 [] [⟨0, [.mk 0 []], 1, true, [], 0, 0, 0⟩] [7] a 0 [] [] ha
  simp only [liO, liI, List.isEmpty_nil, if_true, List.nil_append, Int.zero_add, shIts] at h2
  have e : runP 0 (2 :: 6 :: (a ++ [7])) [] [] = runP 2 (a ++ [7]) [⟨0, [.mk 0 []], 1, true, [], 0, 0, 0⟩] [] := rfl
  rw [e, h2]
  rfl

mutual
theorem depIt_flat : ∀ x : It, depthIt x ≤ (flatIt x).length
  | .mk l e [] => by simp [depthIt, depthBrs]
  | .mk l e (b :: r) => by
    have := depBrs_flat (b :: r)
    simp only [depthIt, flatIt, List.length_append]
    omega
theorem depBrs_flat : ∀ x : List Br, depthBrs x ≤ (flatBrs x).length
  | [] => by simp [depthBrs]
  | b :: r => by
    have h1 := depBr_flat b
    have h2 := depBrs_flat r
    simp only [depthBrs, flatBrs, List.length_append]
    omega
theorem depBr_flat : ∀ x : Br, depthBr x ≤ (flatBr x).length
  | .mk l is => by
    have := depIts_flat is
    simp only [depthBr, flatBr, List.length_cons]
    omega
theorem depIts_flat : ∀ x : List It, depthIts x ≤ (flatIts x).length
  | [] => by simp [depthIts]
  | b :: r => by
    have h1 := depIt_flat b
    have h2 := depIts_flat r
    simp only [depthIts, flatIts, List.length_append]
    omega
end

theorem sh8_true (fu : Nat) (hfu : 1000 < fu) (nf : Nat → Bool) (a : List Int) : sh8 fu c9 c10 c11 c17 c18 nf a = some (true, ()) := by
  unfold sh8
  simp only [c9, Option.bind_some]
  by_cases h1 : 300 < a.length
  · have e1 : ilt 300 (lenI a) = true := by unfold ilt lenI; simp; omega
    simp only [e1, cond_true]
  have e1 : ilt 300 (lenI a) = false := by unfold ilt lenI; simp; omega
  simp only [e1, cond_false, c11_lines a (by omega), c10_lines a (by omega), Option.bind_some]
  by_cases h2 : (runP 0 a [] []).2.2 = 0
  · have hfa := runP_len a h2
    have w4 := runP_wrap4 a h2
    have w26 := runP_wrap26 a h2
    have o1 : okN 8 (1 + a.length) = true := okN8 _ (by omega)
    have o2 : okN 8 (([4] ++ a).length + 1) = true := okN8 _ (by simp; omega)
    have o3 : okN 8 (2 + a.length) = true := okN8 _ (by omega)
    have o4 : okN 8 (([2, 6] ++ a).length + 1) = true := okN8 _ (by simp; omega)
    have l1 : [4] ++ a ++ [7] = 4 :: (a ++ [7]) := by simp
    have l2 : [2, 6] ++ a ++ [7] = 2 :: 6 :: (a ++ [7]) := by simp
    have m1 : (4 :: (a ++ [7])).length ≤ 1000 := by simp; omega
    have m2 : (2 :: 6 :: (a ++ [7])).length ≤ 1000 := by simp; omega
    simp only [o1, o2, o3, o4, l1, l2, cond_true, ine_false h2, cond_false, c11_lines _ (Nat.lt_of_le_of_lt m1 (by decide : 1000 < 1000000)), c11_lines _ (Nat.lt_of_le_of_lt m2 (by decide : 1000 < 1000000)), c10_lines _ m1, c10_lines _ m2, Option.bind_some, w4, w26]
    generalize (runP 0 a [] []).1 = x at *
    have c1 : c17 (x, ()) = some ((depthIts x : Int), ()) := by
      unfold c17; simp only [hfa, up_length]; rw [if_pos (by omega)]
    have c2 : c17 ([It.mk 0 (1 + a.length) [Br.mk 0 (shIts 1 x)]], ()) = some (((1 + depthIts x : Nat) : Int), ()) := by
      unfold c17
      have : (flatIts [It.mk 0 (1 + a.length) [Br.mk 0 (shIts 1 x)]]).length = a.length + 2 := by
        simp [flatIts, flatIt, flatBrs, flatBr, flatIts_sh, hfa, up_length]
      simp only [this]
      rw [if_pos (by omega)]
      simp [depthIts, depthIt, depthBrs, depthBr, depthIts_sh]
    have c3 (d : Int) : c18 (shIts d x, ()) = some ((up 0 a.length).map (· + d), ()) := by
      unfold c18 c18n; simp only [flatIts_sh, hfa, List.length_map, up_length]; rw [if_pos (by omega)]
    have g1 (z : It) : List.getD [z] 0 itemD = z := rfl
    have g2 (z : Br) : List.getD [z] 0 brD = z := rfl
    have g3 (z w : Br) : List.getD [z, w] 1 brD = w := rfl
    have g4 (z w : Br) : List.getD [z, w] 0 brD = z := rfl
    have i1 (z : It) : inB 0 [z].length = true := rfl
    have i2 (z : Br) : inB 0 [z].length = true := rfl
    have i3 (z w : Br) : inB 1 [z, w].length = true := rfl
    have i4 (z w : Br) : inB 0 [z, w].length = true := rfl
    have n1 (z : It) : ine (lenI [z]) 1 = false := rfl
    have n2 (z : Br) : ine (lenI [z]) 1 = false := rfl
    have n3 (z w : Br) : ine (lenI [z, w]) 2 = false := rfl
    have n0 : ine (0 : Int) 0 = false := rfl
    have n4 (d : Int) : ine (lenI ((up 0 a.length).map (· + d))) (lenI a) = false := by simp [ine, lenI, up_length]
    simp only [c1, c2, c3, g1, g2, g3, g4, i1, i2, i3, i4, n1, n2, n3, n4, n0, It.brs, It.fin, Br.items, cond_true, cond_false, Option.bind_some]
    refine iter_ind (fun s => ∃ i : Nat, s = ((i : Int), ()) ∧ i ≤ a.length) (fun s => a.length - s.1.toNat) ?_ fu _ ⟨0, rfl, Nat.zero_le _⟩ (by simp; omega)
    rintro rec s ⟨i, rfl, hi⟩ hrec
    simp only [ilt_len, ilt_nat, lenI, inB_nat, Int.toNat_natCast, up_length, List.length_map]
    by_cases hlt : i < a.length
    · have q1 (d : Int) : ((up 0 a.length).map (· + d)).getD i 0 = (i : Int) + d := by
        simp [up_get a.length 0 i hlt]
      have q2 : iadd .i64 (i : Int) 1 = (i : Int) + 1 := by rw [iadd_one i (by omega)]; rfl
      have q3 : iadd .i64 (i : Int) 2 = (i : Int) + 2 := iadd_nat i 2 (by omega)
      simp only [hlt, decide_true, cond_true, q1, q2, q3, ine_false rfl, cond_false]
      exact hrec _ ⟨i + 1, rfl, by omega⟩ (by simp; omega)
    · have e1 : ieq ((1 + depthIts x : Nat) : Int) (iadd .i64 (depthIts x : Int) 1) = true := by
        have hd := depIts_flat x
        rw [hfa, up_length] at hd
        rw [iadd_one _ (by omega)]; exact ieq_true (by omega)
      have e2 : ieq (1 + (a.length : Int)) (iadd .i64 (a.length : Int) 1) = true := by
        rw [iadd_one _ (by omega)]; exact ieq_true (by omega)
      have e3 : ieq (2 + (a.length : Int)) (iadd .i64 (a.length : Int) 2) = true := by
        have : iadd .i64 (a.length : Int) 2 = ((a.length + 2 : Nat) : Int) := iadd_nat _ 2 (by omega)
        rw [this]; exact ieq_true (by omega)
      have e4 : ieq (([] : List It).length : Int) 0 = true := rfl
      simp only [hlt, decide_false, cond_false, e1, e2, e3, e4, cond_true]
  · simp only [ine_true h2, cond_true]

def c8 (_ : List Int × Unit) : Option (Bool × Unit) := some (true, ())
theorem ok8 : ConOk CC Try.prog 8 ⟨as8, rs8, c8⟩ := (con8 1000000 c9 ok9 c10 ok10 c11 ok11 c17 ok17 c18 ok18).sub fun x y h => by
  injection h with h
  subst h
  exact sh8_true _ (by decide) _ _
theorem law8 (a : List Int) : c8 (a, ()) = some (true, ()) := rfl
end Go.Proofs.Ytdedkemkmccliaa
