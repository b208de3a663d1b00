/-
  EVERY LINE STANDS ONCE, IN ORDER: the law.
-/
import Derived.Test.YtdedkemkmccliaaP5
set_option linter.unusedVariables false
set_option linter.unusedSimpArgs false
namespace Go.Proofs.Ytdedkemkmccliaa
open Go.Al Go.Den

theorem okN8 (n : Nat) (h : n ≤ 1000000) : okN 8 n = true := okN_spec' (by omega) (by unfold maxLen; omega)
theorem ieq_true {a b : Int} (h : a = b) : ieq a b = true := by simp [ieq, h]
theorem ine_false {a b : Int} (h : a = b) : ine a b = false := by simp [ine, h]
theorem ine_true {a b : Int} (h : a ≠ b) : ine a b = true := by simp [ine, h]
theorem ilt_len {α : Type} (n : Nat) (l : List α) : ilt (n : Int) (lenI l) = decide (n < l.length) := ilt_nat n l.length
theorem up_getD (n : Nat) (i : Int) (k : Nat) (h : k < n) (d : Int) : (up i n).getD k d = i + k := by simp [up_get n i k h]

theorem sh6_true (fu : Nat) (hfu : 1000 < fu) (nf : Nat → Bool) (a : List Int) : sh6 fu c9 c10 c11 c18 nf a = some (true, ()) := by
  unfold sh6
  simp only [c9, Option.bind_some]
  by_cases h1 : 500 < a.length
  · have e1 : ilt 500 (lenI a) = true := by unfold ilt lenI; simp; omega
    simp only [e1, cond_true]
  · have e1 : ilt 500 (lenI a) = false := by unfold ilt lenI; simp; omega
    simp only [e1, cond_false, c11_lines a (by omega), c10_lines a (by omega), Option.bind_some, cond_true]
    by_cases h2 : (runP 0 a [] []).2.2 = 0
    · have hf := runP_flat a 0 [] [] h2
      simp only [preO, flatIts, List.nil_append] at hf
      have hc : c18 ((runP 0 a [] []).1, ()) = some (up 0 a.length, ()) := by
        unfold c18 c18n; simp only [hf, up_length]; rw [if_pos (by omega)]
      simp only [hc, Option.bind_some, ine_false h2, cond_false]
      refine iter_ind (fun s => ∃ i : Nat, s = ((i : Int), ()) ∧ i ≤ a.length) (fun s => a.length - s.1.toNat) ?_ fu _ ⟨0, rfl, Nat.zero_le _⟩ (by simp; omega)
      rintro rec s ⟨i, rfl, hi⟩ hrec
      simp only [ilt_len, inB_nat, Int.toNat_natCast, up_length]
      by_cases hlt : i < a.length
      · simp only [hlt, decide_true, cond_true]
        rw [up_getD _ _ _ hlt]
        simp only [ine_false (Int.zero_add (i : Int)), cond_false]
        rw [iadd_one i (by omega)]
        exact hrec _ ⟨i + 1, rfl, by omega⟩ (by simp; omega)
      · have e : ieq (lenI (up 0 a.length)) (lenI a) = true := by simp [ieq, lenI, up_length]
        simp only [hlt, decide_false, cond_false, e]
    · have hw := runP_wrong a 0 [] [] h2
      have hc : c18 ((runP 0 a [] []).1, ()) = some ([], ()) := by rw [hw]; rfl
      simp only [hc, Option.bind_some, ine_true h2, cond_true, hw]
      rfl

def c6 (_ : List Int × Unit) : Option (Bool × Unit) := some (true, ())
theorem ok6 : ConOk CC Try.prog 6 ⟨as6, rs6, c6⟩ := (con6 1000000 c9 ok9 c10 ok10 c11 ok11 c18 ok18).sub fun x y h => by
  injection h with h
  subst h
  exact sh6_true _ (by decide) _ _
theorem law6 (a : List Int) : c6 (a, ()) = some (true, ()) := rfl
end Go.Proofs.Ytdedkemkmccliaa
