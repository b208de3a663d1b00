/-
  WHAT IS WRONG FIRST STAYS SO: the law.
-/
import Derived.Test.YtdedkemkmccliaaP3
set_option linter.unusedVariables false
set_option linter.unusedSimpArgs false
namespace Go.Proofs.Ytdedkemkmccliaa
open Go.Al Go.Den

theorem c10_lines (xs : List Int) (h : xs.length ≤ 1000) : c10 (xs.map lineK, ()) = some ((runP 0 xs [] []).1, (runP 0 xs [] []).2.1, (runP 0 xs [] []).2.2, ()) := by
  have e : (xs.map lineK).map LineT.kind = xs := by rw [List.map_map]; exact List.map_id'' (fun _ => rfl) xs
  have e2 : (xs.map lineK).all isK = true := by rw [List.all_eq_true]; intro x hx; obtain ⟨k, _, rfl⟩ := List.mem_map.1 hx; rfl
  unfold c10
  simp only [e, e2, List.length_map]
  rw [if_pos ⟨h, trivial⟩]
theorem c11_lines (xs : List Int) (h : xs.length < 1000000) : c11 (xs, ()) = some (xs.map lineK, ()) := if_pos h

theorem runP_pos : ∀ (ks : List Int) (i : Int) (ops : List O) (its : List It), (runP i ks ops its).2.2 = 50 → i ≤ (runP i ks ops its).2.1
  | [], i, [], its, h => by simp [runP] at h
  | [], i, o :: r, its, h => by simp [runP] at h
  | k :: ks, i, ops, its, h => by
    unfold runP at h ⊢
    cases hs : stepP k i ops its with
    | none => simp
    | some p =>
      rw [hs] at h
      have := runP_pos ks (i + 1) p.1 p.2 h
      simp only
      omega

theorem runP_app : ∀ (a : List Int) (i : Int) (ops : List O) (its : List It) (b : List Int),
    ((runP i a ops its).2.2 = 50 → runP i (a ++ b) ops its = runP i a ops its) ∧ ((runP i a ops its).2.2 ≠ 50 → (runP i (a ++ b) ops its).2.2 = 50 → i + a.length ≤ (runP i (a ++ b) ops its).2.1)
  | [], i, ops, its, b => by
    refine ⟨fun h => ?_, fun _ h => ?_⟩
    · cases ops <;> simp [runP] at h
    · have := runP_pos b i ops its h
      simpa using this
  | k :: a, i, ops, its, b => by
    simp only [List.cons_append]
    unfold runP
    cases hs : stepP k i ops its with
    | none => exact ⟨fun _ => rfl, fun h => absurd rfl h⟩
    | some p =>
      obtain ⟨h1, h2⟩ := runP_app a (i + 1) p.1 p.2 b
      refine ⟨h1, fun q1 q2 => ?_⟩
      have := h2 q1 q2
      simp only [List.length_cons]
      omega

theorem sh4_true (fu : Nat) (nf : Nat → Bool) (a b : List Int) : sh4 fu c9 c10 c11 nf a b = some (true, ()) := by
  unfold sh4
  simp only [c9, Option.bind_some]
  by_cases h1 : 200 < a.length
  · have e1 : ilt 200 (lenI a) = true := by unfold ilt lenI; simp; omega
    simp only [e1, cond_true]
  · have e1 : ilt 200 (lenI a) = false := by unfold ilt lenI; simp; omega
    simp only [e1, cond_false]
    by_cases h2 : 200 < b.length
    · have e2 : ilt 200 (lenI b) = true := by unfold ilt lenI; simp; omega
      simp only [e2, cond_true]
    · have e2 : ilt 200 (lenI b) = false := by unfold ilt lenI; simp; omega
      have o1 : okN 8 (0 + a.length) = true := okN_spec' (by omega) (by unfold maxLen; omega)
      have o2 : okN 8 (a.length + b.length) = true := okN_spec' (by omega) (by unfold maxLen; omega)
      simp only [e2, cond_false, cond_true, o1, o2, List.nil_append, c11_lines a (by omega), c11_lines (a ++ b) (by simp; omega), c10_lines a (by omega), c10_lines (a ++ b) (by simp; omega), Option.bind_some]
      obtain ⟨p1, p2⟩ := runP_app a 0 [] [] b
      by_cases h3 : (runP 0 a [] []).2.2 = 50
      · have e3 : ine (runP 0 a [] []).2.2 50 = false := by simp [ine, h3]
        rw [p1 h3]
        have e4 : ieq (runP 0 a [] []).2.2 50 = true := by simp [ieq, h3]
        have e5 : ieq (runP 0 a [] []).2.1 (runP 0 a [] []).2.1 = true := by simp [ieq]
        simp only [e3, e4, e5, cond_true, cond_false]
      · have e3 : ine (runP 0 a [] []).2.2 50 = true := by simp [ine, h3]
        simp only [e3, cond_true]
        by_cases h4 : (runP 0 (a ++ b) [] []).2.2 = 50
        · have e4 : ine (runP 0 (a ++ b) [] []).2.2 50 = false := by simp [ine, h4]
          have := p2 h3 h4
          have e5 : ile (lenI a) (runP 0 (a ++ b) [] []).2.1 = true := by unfold ile lenI; simp; omega
          simp only [e4, e5, cond_false]
        · have e4 : ine (runP 0 (a ++ b) [] []).2.2 50 = true := by simp [ine, h4]
          simp only [e4, cond_true]

def c4 (_ : List Int × List Int × Unit) : Option (Bool × Unit) := some (true, ())
theorem ok4 : ConOk CC Try.prog 4 ⟨as4, rs4, c4⟩ := (con4 0 c9 ok9 c10 ok10 c11 ok11).sub fun x y h => by
  injection h with h
  subst h
  exact sh4_true _ _ _ _
theorem law4 (a b : List Int) : c4 (a, b, ()) = some (true, ()) := rfl
end Go.Proofs.Ytdedkemkmccliaa
