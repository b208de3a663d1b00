/-
  Numbers that are written in digits. Plain Lean.
-/
import Derived.Lib.AtoiAll
import Derived.Lib.ItoaNum
import Derived.Lib.ItoaMem
set_option linter.unusedVariables false
set_option linter.unusedSimpArgs false
namespace Go.Proofs.YtegibhjgldpndaaDoor

def isD (c : UInt8) : Bool := decide (48 ≤ c.toNat) && decide (c.toNat ≤ 57)
/-- The digits that a text begins with. -/
def dgs (s : List UInt8) : List UInt8 := s.takeWhile isD
def stepD (a : Nat) (c : UInt8) : Nat := a * 10 + (c.toNat - 48)
def valF (a : Nat) (l : List UInt8) : Nat := l.foldl stepD a
theorem valF_nil (a : Nat) : valF a [] = a := by unfold valF; rw [List.foldl_nil]
theorem valF_cons (a : Nat) (c : UInt8) (r : List UInt8) : valF a (c :: r) = valF (a * 10 + (c.toNat - 48)) r := by unfold valF; rw [List.foldl_cons, stepD]
def allD (l : List UInt8) : Prop := ∀ c ∈ l, isD c = true
/-- A number that is written as it should be, within bounds. -/
def numOk (l : List UInt8) (lo hi : Nat) : Bool := !l.isEmpty && ((l.length == 1) || !(l.head? == some 48)) && (decide (lo ≤ valF 0 l) && decide (valF 0 l ≤ hi))

theorem isD_iff {c : UInt8} : isD c = true ↔ 48 ≤ c.toNat ∧ c.toNat ≤ 57 := by simp [isD]
theorem allD_dgs (s : List UInt8) : allD (dgs s) := fun c hc => by
  unfold dgs at hc
  induction s with
  | nil => simp at hc
  | cons x r ih =>
    rw [List.takeWhile_cons] at hc
    split at hc
    · rename_i hx
      rcases List.mem_cons.1 hc with rfl | hc
      · exact hx
      · exact ih hc
    · simp at hc
theorem dgs_len (s : List UInt8) : (dgs s).length ≤ s.length := by unfold dgs; exact (List.takeWhile_sublist _).length_le
theorem dgs_split (s : List UInt8) : dgs s ++ s.drop (dgs s).length = s := by
  unfold dgs
  induction s with
  | nil => simp
  | cons x r ih =>
    rw [List.takeWhile_cons]
    split
    · simp only [List.length_cons, List.drop_succ_cons, List.cons_append, ih]
    · simp
/-- Behind them stands no digit. -/
theorem dgs_behind (s : List UInt8) : (s.drop (dgs s).length).head?.all (fun c => !isD c) = true := by
  unfold dgs
  induction s with
  | nil => simp
  | cons x r ih =>
    rw [List.takeWhile_cons]
    split
    · simpa only [List.length_cons, List.drop_succ_cons] using ih
    · rename_i h; simp [h]
theorem dgs_of {s : List UInt8} {i : Nat} (hi : i ≤ s.length) (h1 : ∀ k (h : k < i), isD (s[k]'(by omega)) = true) (h2 : ∀ h : i < s.length, isD s[i] = false) : dgs s = s.take i := by
  unfold dgs
  induction s generalizing i with
  | nil => simp
  | cons x r ih =>
    cases i with
    | zero =>
      have := h2 (by simp)
      simp only [List.getElem_cons_zero] at this
      simp [this]
    | succ i =>
      have h0 := h1 0 (by omega)
      simp only [List.getElem_cons_zero] at h0
      rw [List.takeWhile_cons, if_pos h0, List.take_succ_cons]
      congr 1
      exact ih (by simpa using hi) (fun k hk => by simpa using h1 (k + 1) (by omega)) (fun h => by have h3 := h2 (by simp only [List.length_cons]; omega); simpa only [List.getElem_cons_succ] using h3)
/-- Digits, and what is none behind them. -/
theorem dgs_app (l r : List UInt8) (h : allD l) (hr : r.head?.all (fun c => !isD c) = true) : dgs (l ++ r) = l := by
  unfold dgs
  induction l with
  | nil =>
    cases r with
    | nil => rfl
    | cons x r => simp at hr; simp [hr]
  | cons x l ih =>
    rw [List.cons_append, List.takeWhile_cons, if_pos (h x (by simp)), ih (fun c hc => h c (by simp [hc]))]

theorem valF_ge (l : List UInt8) : ∀ (a : Nat), a ≤ valF a l := by
  induction l with
  | nil => intro a; rw [valF_nil]; exact Nat.le_refl _
  | cons c r ih => intro a; rw [valF_cons]; exact Nat.le_trans (Nat.le_trans (Nat.le_mul_of_pos_right a (by decide)) (Nat.le_add_right _ _)) (ih _)
theorem valF_app (l r : List UInt8) (a : Nat) : valF a (l ++ r) = valF (valF a l) r := by unfold valF; rw [List.foldl_append]
theorem valF_pow (l : List UInt8) : ∀ (a : Nat), a * 10 ^ l.length ≤ valF a l := by
  induction l with
  | nil => intro a; rw [valF_nil]; simp
  | cons c r ih =>
    intro a
    rw [valF_cons, List.length_cons]
    refine Nat.le_trans ?_ (ih _)
    rw [Nat.pow_succ, Nat.add_mul, Nat.mul_comm (10 ^ r.length) 10, ← Nat.mul_assoc]
    exact Nat.le_add_right _ _
theorem valF_lt (l : List UInt8) : ∀ (a : Nat), allD l → valF a l < (a + 1) * 10 ^ l.length := by
  induction l with
  | nil => intro a _; rw [valF_nil]; simp
  | cons c r ih =>
    intro a h
    have h1 := isD_iff.1 (h c (by simp))
    rw [valF_cons, List.length_cons]
    refine Nat.lt_of_lt_of_le (ih _ (fun x hx => h x (by simp [hx]))) ?_
    rw [Nat.pow_succ, Nat.mul_comm (10 ^ r.length) 10, ← Nat.mul_assoc]
    refine Nat.mul_le_mul_right _ ?_
    generalize c.toNat = k at *
    omega

theorem pU : ∀ (l : List UInt8) (a : Nat), allD l → a < 18446744073709551616 →
    (valF a l < 18446744073709551616 ∧ Lib.parseUint10 a l = .ok (valF a l)) ∨ (18446744073709551616 ≤ valF a l ∧ Lib.parseUint10 a l = .range)
  | [], a, _, ha => .inl ⟨by rw [valF_nil]; exact ha, by rw [valF_nil]; rfl⟩
  | c :: r, a, h, ha => by
    have h1 := isD_iff.1 (h c (by simp))
    have hr : allD r := fun x hx => h x (by simp [hx])
    have hg := valF_ge r (a * 10 + (c.toNat - 48))
    rw [valF_cons]
    unfold Lib.parseUint10
    rw [if_pos h1]
    by_cases h2 : 1844674407370955162 ≤ a
    · rw [if_pos h2]; exact .inr ⟨by omega, rfl⟩
    · rw [if_neg h2]
      by_cases h3 : 18446744073709551616 ≤ a * 10 + (c.toNat - 48)
      · rw [if_pos h3]; exact .inr ⟨by omega, rfl⟩
      · rw [if_neg h3]; exact pU r _ hr (by omega)

/-- What Atoi gives: the number, and whether there is an error. -/
def atoiR (s : List UInt8) : Int × Bool := match Lib.atoiAll s with
  | .ok v => (v, false)
  | .range => (Lib.atoiSat s, true)
  | _ => (0, true)

theorem atoiR_nil : atoiR [] = (0, true) := rfl
theorem atoiR_dgs {l : List UInt8} (hne : l ≠ []) (h : allD l) : atoiR l = if valF 0 l < 9223372036854775808 then ((valF 0 l : Int), false) else (9223372036854775807, true) := by
  cases l with
  | nil => exact absurd rfl hne
  | cons c r =>
    have h1 := isD_iff.1 (h c (by simp))
    have e45 : ¬ c.toNat = 45 := by omega
    have e43 : ¬ (c.toNat = 43 ∨ c.toNat = 45) := by omega
    have hsat : Lib.atoiSat (c :: r) = 9223372036854775807 := by
      unfold Lib.atoiSat
      rw [if_neg (by simpa using e45)]
    have hm : Lib.parseMag (c :: r) = Lib.parseUint10 0 (c :: r) := by unfold Lib.parseMag; rw [if_neg (by simp)]
    have e43' : ¬ c.toNat = 43 := fun e => e43 (.inl e)
    rcases pU (c :: r) 0 h (by omega) with ⟨q1, q2⟩ | ⟨q1, q2⟩
    · have ha : Lib.atoiAll (c :: r) = if 9223372036854775808 ≤ valF 0 (c :: r) then .range else .ok (valF 0 (c :: r) : Int) := by
        unfold Lib.atoiAll
        simp only [if_neg e43, hm, q2, e45, not_false_eq_true, true_and, false_and, if_false, or_false, e43', if_neg]
      unfold atoiR
      rw [ha]
      by_cases q3 : 9223372036854775808 ≤ valF 0 (c :: r)
      · simp only [if_pos q3, hsat]; rw [if_neg (by omega)]
      · simp only [if_neg q3]; rw [if_pos (by omega)]
    · have ha : Lib.atoiAll (c :: r) = .range := by
        unfold Lib.atoiAll
        simp only [if_neg e43, hm, q2, e45, not_false_eq_true, true_and, false_and, if_false, or_false, e43', if_neg]
      unfold atoiR
      rw [ha]
      simp only [hsat]
      rw [if_neg (by omega)]

theorem dec_back : ∀ (l : List UInt8) (c : UInt8), allD (l ++ [c]) → (l = [] ∨ l.head? ≠ some 48) → Lib.decDigits (valF 0 (l ++ [c])) = l ++ [c] := by
  intro l
  induction hn : l.length generalizing l with
  | zero =>
    intro c h _
    have : l = [] := List.length_eq_zero_iff.1 hn
    subst this
    have h1 := isD_iff.1 (h c (by simp))
    simp only [List.nil_append, valF_cons, valF_nil, Nat.zero_mul, Nat.zero_add]
    rw [Lib.decDigits_one (by omega)]
    congr 1
    have : 48 + (c.toNat - 48) = c.toNat := by omega
    rw [this]; simp
  | succ n ih =>
    intro c h hh
    have hne : l ≠ [] := fun e => by simp [e] at hn
    obtain ⟨m, x, rfl⟩ : ∃ m x, l = m ++ [x] := ⟨l.dropLast, l.getLast hne, (List.dropLast_concat_getLast hne).symm⟩
    have hlen : m.length = n := by simpa using hn
    have h1 := isD_iff.1 (h c (by simp))
    have hD : allD (m ++ [x]) := fun y hy => h y (by rw [List.mem_append]; exact .inl hy)
    have hm : m = [] ∨ m.head? ≠ some 48 := by
      cases m with
      | nil => exact .inl rfl
      | cons a m =>
        right
        rcases hh with hh | hh
        · simp at hh
        · simpa using hh
    have hi := ih m hlen x hD hm
    -- the first digits are not nought
    have hpos : 1 ≤ valF 0 (m ++ [x]) := by
      cases m with
      | nil =>
        have hx := isD_iff.1 (hD x (by simp))
        have : x ≠ 48 := by
          rcases hh with hh | hh
          · simp at hh
          · simpa using hh
        have hx2 : x.toNat ≠ 48 := fun e => this (UInt8.toNat_inj.1 (by rw [e]; rfl))
        simp only [List.nil_append, valF_cons, valF_nil]; omega
      | cons a m =>
        have ha := isD_iff.1 (hD a (by simp))
        have : a ≠ 48 := by
          rcases hh with hh | hh
          · simp at hh
          · simpa using hh
        have ha2 : a.toNat ≠ 48 := fun e => this (UInt8.toNat_inj.1 (by rw [e]; rfl))
        have := valF_ge (m ++ [x]) (0 * 10 + (a.toNat - 48))
        simp only [List.cons_append, valF_cons]; omega
    rw [valF_app]
    generalize hv : valF 0 (m ++ [x]) = v at *
    rw [valF_cons, valF_nil]
    rw [Lib.decDigits, dif_neg (by omega)]
    have e1 : (v * 10 + (c.toNat - 48)) / 10 = v := by omega
    have e2 : 48 + (v * 10 + (c.toNat - 48)) % 10 = c.toNat := by omega
    rw [e1, e2, hi]
    simp

/-- What is written as it should be is printed as it is written. -/
theorem itoa_numOk {l : List UInt8} {lo hi : Nat} (h : allD l) (hk : numOk l lo hi = true) : Lib.itoa (valF 0 l : Int) = l := by
  unfold numOk at hk
  simp only [Bool.and_eq_true, Bool.not_eq_true', Bool.or_eq_true, beq_iff_eq] at hk
  obtain ⟨⟨h1, h2⟩, _⟩ := hk
  have hne : l ≠ [] := by intro e; rw [e] at h1; simp at h1
  obtain ⟨m, x, rfl⟩ : ∃ m x, l = m ++ [x] := ⟨l.dropLast, l.getLast hne, (List.dropLast_concat_getLast hne).symm⟩
  rw [Lib.itoa_nonneg]
  refine dec_back m x h ?_
  cases m with
  | nil => exact .inl rfl
  | cons a m =>
    right
    rcases h2 with h2 | h2
    · simp at h2
    · simpa using h2
end Go.Proofs.YtegibhjgldpndaaDoor
