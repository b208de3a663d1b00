/-
  TWO TEXTS, ONE BEHIND THE OTHER: the law.
-/
import Derived.Test.YtdedkemkmccliaaP6
set_option linter.unusedVariables false
set_option linter.unusedSimpArgs false
namespace Go.Proofs.Ytdedkemkmccliaa
open Go.Al Go.Den

mutual
theorem shIt_zero : ∀ x : It, shIt 0 x = x
  | .mk l e bs => by simp [shIt, shBrs_zero bs]
theorem shBrs_zero : ∀ x : List Br, shBrs 0 x = x
  | [] => rfl
  | b :: r => by simp [shBrs, shBr_zero b, shBrs_zero r]
theorem shBr_zero : ∀ x : Br, shBr 0 x = x
  | .mk l is => by simp [shBr, shIts_zero is]
theorem shIts_zero : ∀ x : List It, shIts 0 x = x
  | [] => rfl
  | b :: r => by simp [shIts, shIt_zero b, shIts_zero r]
end

theorem stepP_bd {k i : Int} {ops : List O} {its : List It} {p : List O × List It} (h : stepP k i ops its = some p) (hi : 0 ≤ i) (ho : ∀ o ∈ ops, 0 ≤ o.l ∧ o.l ≤ i) : ∀ o ∈ p.1, 0 ≤ o.l ∧ o.l ≤ i := by
  unfold stepP at h
  split at h
  · injection h with h; subst h
    intro o hm
    rcases List.mem_cons.1 hm with rfl | hm
    · exact ⟨hi, Int.le_refl _⟩
    · exact ho o hm
  · split at h
    · cases ops with
      | nil => cases h
      | cons o r =>
        simp only at h
        split at h
        · cases h
        · injection h with h; subst h
          intro o' hm
          rcases List.mem_cons.1 hm with rfl | hm
          · exact ho o (List.mem_cons_self ..)
          · exact ho o' (List.mem_cons_of_mem _ hm)
    · split at h
      · cases ops with
        | nil => cases h
        | cons o r =>
          injection h with h; subst h
          exact fun o' hm => ho o' (List.mem_cons_of_mem _ hm)
      · injection h with h; subst h
        exact ho

theorem runP_bd : ∀ (ks : List Int) (i : Int) (ops : List O) (its : List It), 0 ≤ i → (∀ o ∈ ops, 0 ≤ o.l ∧ o.l ≤ i) → 0 ≤ (runP i ks ops its).2.1 ∧ (runP i ks ops its).2.1 ≤ i + ks.length
  | [], i, [], its, hi, _ => by simp [runP]; exact hi
  | [], i, o :: r, its, hi, ho => by
    have := ho o (List.mem_cons_self ..)
    simp [runP]; exact this
  | k :: ks, i, ops, its, hi, ho => by
    unfold runP
    cases hs : stepP k i ops its with
    | none => simp only [List.length_cons]; omega
    | some p =>
      have h1 := stepP_bd hs hi ho
      have := runP_bd ks (i + 1) p.1 p.2 (by omega) (fun o ho => by have := h1 o ho; omega)
      simp only [List.length_cons]
      omega

theorem runP_len (ks : List Int) (h : (runP 0 ks [] []).2.2 = 0) : flatIts (runP 0 ks [] []).1 = up 0 ks.length := by
  rw [runP_flat ks 0 [] [] h]; simp [preO, flatIts]

theorem runP_both (a b : List Int) (ha : (runP 0 a [] []).2.2 = 0) :
    ((runP 0 b [] []).2.2 = 0 → runP 0 (a ++ b) [] [] = ((runP 0 a [] []).1 ++ shIts a.length (runP 0 b [] []).1, 0, 0)) ∧
    ((runP 0 b [] []).2.2 ≠ 0 → runP 0 (a ++ b) [] [] = ([], (runP 0 b [] []).2.1 + a.length, (runP 0 b [] []).2.2)) := by
  have h1 := runP_li 0 [] [] b a 0 [] [] ha
  simp only [liO, liI, List.isEmpty_nil, if_true, List.nil_append, List.append_nil, Int.add_zero, Int.zero_add, shIts_zero] at h1
  refine ⟨fun hb => ?_, fun hb => ?_⟩
  · have h2 := runP_li (a.length : Int) (runP 0 a [] []).1 [] [] b 0 [] [] hb
    simp only [liO, liI, List.isEmpty_nil, if_true, List.nil_append, List.append_nil, Int.zero_add, shIts] at h2
    rw [h1, h2]
    simp [runP]
  · have h2 := runP_li_wrong (a.length : Int) (runP 0 a [] []).1 b 0 [] [] hb
    simp only [liO, liI, List.isEmpty_nil, if_true, List.append_nil, Int.zero_add, shIts] at h2
    rw [h1, h2]

theorem cutL_app {α : Type} (x y : List α) : cutL (x ++ y) (lenI x) (lenI (x ++ y)) = y := by
  have e : ((x.length : Int) + (y.length : Int)).toNat = (x ++ y).length := by simp; omega
  simp only [cutL, lenI, List.length_append, Int.natCast_add, Int.toNat_natCast]
  rw [e, List.take_length, List.drop_left]
theorem cutL_pre {α : Type} (x y : List α) : cutL (x ++ y) 0 (lenI x) = x := by
  simp [cutL, lenI]

theorem sh7_true (fu : Nat) (hfu : 1000 < fu) (nf : Nat → Bool) (a b : List Int) : sh7 fu c9 c10 c11 c13 c18 nf a b = some (true, ()) := by
  unfold sh7
  simp only [c9, Option.bind_some]
  by_cases h1 : 200 < a.length
  · have e1 : ilt 200 (lenI a) = true := by unfold ilt lenI; simp; omega
    simp only [e1, cond_true]
  have e1 : ilt 200 (lenI a) = false := by unfold ilt lenI; simp; omega
  simp only [e1, cond_false]
  by_cases h2 : 200 < b.length
  · have e2 : ilt 200 (lenI b) = true := by unfold ilt lenI; simp; omega
    simp only [e2, cond_true]
  have e2 : ilt 200 (lenI b) = false := by unfold ilt lenI; simp; omega
  have o1 : okN 8 (0 + a.length) = true := okN8 _ (by omega)
  have o2 : okN 8 (a.length + b.length) = true := okN8 _ (by omega)
  simp only [e2, cond_false, cond_true, o1, o2, List.nil_append, c11_lines a (by omega), c11_lines b (by omega), c11_lines (a ++ b) (by simp; omega), c10_lines a (by omega), c10_lines b (by omega), c10_lines (a ++ b) (by simp; omega), Option.bind_some]
  by_cases h3 : (runP 0 a [] []).2.2 = 0
  · obtain ⟨p1, p2⟩ := runP_both a b h3
    have hfa := runP_len a h3
    simp only [ine_false h3, cond_false]
    by_cases h4 : (runP 0 b [] []).2.2 = 0
    · rw [p1 h4]
      have hfb := runP_len b h4
      simp only [ine_false h4, cond_false]
      generalize (runP 0 a [] []).1 = x at *
      generalize (runP 0 b [] []).1 = y at *
      have hx : x.length ≤ a.length := by have := flatIts_ge x; rw [hfa, up_length] at this; exact this
      have hy : y.length ≤ b.length := by have := flatIts_ge y; rw [hfb, up_length] at this; exact this
      have e5 : ine (0 : Int) 0 = false := rfl
      have e6 : ine (lenI (x ++ shIts a.length y)) (iadd .i64 (lenI x) (lenI y)) = false := by
        unfold lenI; rw [iadd_nat _ _ (by omega)]; exact ine_false (by simp [shIts_length])
      have e7 : inS (lenI x) (lenI (x ++ shIts a.length y)) (x ++ shIts a.length y).length = true := by
        unfold inS lenI; simp; omega
      have e7b : inS 0 (lenI x) (x ++ shIts a.length y).length = true := by
        unfold inS lenI; simp; omega
      have c1 : c18 (shIts a.length y, ()) = some ((up 0 b.length).map (· + (a.length : Int)), ()) := by
        unfold c18 c18n; simp only [flatIts_sh, hfb, List.length_map, up_length]; rw [if_pos (by omega)]
      have c2 : c18 (y, ()) = some (up 0 b.length, ()) := by
        unfold c18 c18n; simp only [hfb, up_length]; rw [if_pos (by omega)]
      have c3 : c13 (x, x, ()) = some (true, ()) := by
        unfold c13 c13n; simp only [hfa, up_length]; rw [if_pos (by omega), (eqIts_iff x x).2 rfl]
      simp only [e5, e6, e7, e7b, cond_true, cond_false, cutL_app, cutL_pre, c1, c2, c3, Option.bind_some]
      refine iter_ind (fun s => ∃ i : Nat, s = ((i : Int), ()) ∧ i ≤ b.length) (fun s => b.length - s.1.toNat) ?_ fu _ ⟨0, rfl, Nat.zero_le _⟩ (by simp; omega)
      rintro rec s ⟨i, rfl, hi⟩ hrec
      simp only [ilt_len, inB_nat, Int.toNat_natCast, up_length, List.length_map]
      by_cases hlt : i < b.length
      · have g1 : ((up 0 b.length).map (· + (a.length : Int))).getD i 0 = (i : Int) + a.length := by
          simp [up_get b.length 0 i hlt]
        have g2 : iadd .i64 ((up 0 b.length).getD i 0) (lenI a) = (i : Int) + a.length := by
          rw [up_getD _ _ _ hlt, Int.zero_add]; unfold lenI; rw [iadd_nat _ _ (by omega)]; omega
        simp only [hlt, decide_true, cond_true, g1, g2, ine_false rfl, cond_false]
        rw [iadd_one i (by omega)]
        exact hrec _ ⟨i + 1, rfl, by omega⟩ (by simp; omega)
      · have e : ieq (lenI ((up 0 b.length).map (· + (a.length : Int)))) (lenI (up 0 b.length)) = true := by simp [ieq, lenI, up_length]
        simp only [hlt, decide_false, cond_false, e, cond_true]
    · rw [p2 h4]
      have hbd := runP_bd b 0 [] [] (by omega) (by simp)
      have e8 : ieq ((runP 0 b [] []).2.1 + (a.length : Int)) (iadd .i64 (runP 0 b [] []).2.1 (lenI a)) = true := by
        apply ieq_true; unfold iadd lenI; rw [wrap64 _ (by omega) (by omega)]
      simp only [ine_true h4, cond_true, e8, ieq_true rfl]
      rfl
  · simp only [ine_true h3, cond_true]

def c7 (_ : List Int × List Int × Unit) : Option (Bool × Unit) := some (true, ())
theorem ok7 : ConOk CC Try.prog 7 ⟨as7, rs7, c7⟩ := (con7 1000000 c9 ok9 c10 ok10 c11 ok11 c13 ok13 c18 ok18).sub fun x y h => by
  injection h with h
  subst h
  exact sh7_true _ (by decide) _ _ _
theorem law7 (a b : List Int) : c7 (a, b, ()) = some (true, ()) := rfl
end Go.Proofs.Ytdedkemkmccliaa
