/-
  Small facts on what is printed. General.
-/
import Derived.Test.YtegibhjgldpndaaDoorD12
set_option linter.unusedVariables false
set_option linter.unusedSimpArgs false
namespace Go.Den
open Go.Al
theorem wrap64 (n : Int) (h1 : -9223372036854775808 ≤ n) (h2 : n ≤ 9223372036854775807) : IntKind.i64.wrap n = n := IntWalk.i64_in n (by omega)
theorem iadd_of (a b : Int) (h1 : -9223372036854775808 ≤ a + b) (h2 : a + b ≤ 9223372036854775807) : iadd .i64 a b = a + b := wrap64 _ h1 h2
theorem isub_of (a b : Int) (h1 : -9223372036854775808 ≤ a - b) (h2 : a - b ≤ 9223372036854775807) : isub .i64 a b = a - b := wrap64 _ h1 h2
theorem imul_of (a b : Int) (h1 : -9223372036854775808 ≤ a * b) (h2 : a * b ≤ 9223372036854775807) : imul .i64 a b = a * b := wrap64 _ h1 h2
theorem iadd_nat (i k : Nat) (h : i + k < 9223372036854775808) : iadd .i64 (i : Int) (k : Int) = ((i + k : Nat) : Int) := by
  unfold iadd; rw [wrap64 _ (by omega) (by omega)]; omega
theorem iadd_one (i : Nat) (h : i + 1 < 9223372036854775808) : iadd .i64 (i : Int) 1 = ((i + 1 : Nat) : Int) := iadd_nat i 1 h
theorem ilt_nat (a b : Nat) : ilt (a : Int) (b : Int) = decide (a < b) := by unfold ilt; simp
theorem ile_nat (a b : Nat) : ile (a : Int) (b : Int) = decide (a ≤ b) := by unfold ile; simp
theorem inB_nat (i n : Nat) : inB (i : Int) n = decide (i < n) := by unfold inB; simp
theorem inS_nat (a b n : Nat) : inS (a : Int) (b : Int) n = (decide (a ≤ b) && decide (b ≤ n)) := by unfold inS; simp
theorem getD_lt {α : Type} (l : List α) (i : Nat) (d : α) (h : i < l.length) : l.getD i d = l[i] := by simp [h]
theorem okN_spec' {b n : Nat} (h : n * b ≤ 140737488355328) (h2 : n ≤ maxLen) : okN b n = true := by simp [okN, h, h2]
theorem okS_of {n : Nat} (h : n ≤ 9223372036854775807) : okS n = true := Nat.ble_eq_true_of_le h
theorem ieq_dec (a b : Int) : ieq a b = decide (a = b) := by unfold ieq; by_cases h : a = b <;> simp [h]
theorem ine_dec (a b : Int) : ine a b = !decide (a = b) := by unfold ine; by_cases h : a = b <;> simp [h]
theorem ieq_true {a b : Int} (h : a = b) : ieq a b = true := by simp [ieq, h]
theorem ieq_false {a b : Int} (h : a ≠ b) : ieq a b = false := by simp [ieq, h]
theorem ine_false {a b : Int} (h : a = b) : ine a b = false := by simp [ine, h]
theorem ine_true {a b : Int} (h : a ≠ b) : ine a b = true := by simp [ine, h]
theorem seq_dec (a b : List UInt8) : seq a b = decide (a = b) := by unfold seq; by_cases h : a = b <;> simp [h]
theorem lenI_nat {α : Type} (l : List α) : lenI l = (l.length : Int) := rfl
theorem cutL_pre {α : Type} (l : List α) (n : Nat) : cutL l 0 (n : Int) = l.take n := by unfold cutL; simp
theorem cutL_suf {α : Type} (l : List α) (n : Nat) : cutL l (n : Int) (lenI l) = l.drop n := by unfold cutL lenI; simp
theorem byteAt_lt (s : List UInt8) (i : Nat) (h : i < s.length) : byteAt s (i : Int) = (s[i].toNat : Int) := by unfold byteAt; simp [h]
theorem iter_indP {σ R : Type} {F : (σ → Option R) → σ → Option R} (P : Option R → Prop) (I : σ → Prop) (μ : σ → Nat) (step : ∀ (rec : σ → Option R) s, I s → (∀ s', I s' → μ s' < μ s → P (rec s')) → P (F rec s)) :
    ∀ (n : Nat) (s : σ), I s → μ s < n → P (iter n F s) := by
  intro n
  induction n with
  | zero => intro s _ h; omega
  | succ n ih =>
    intro s hs hn
    simp only [iter]
    exact step _ s hs fun s' hs' hlt => ih s' hs' (by omega)
end Go.Den
