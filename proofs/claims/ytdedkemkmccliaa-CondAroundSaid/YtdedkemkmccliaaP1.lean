/-
  What the simple functions work out; contracts of those that were walked by hand.
-/
import Derived.Test.YtdedkemkmccliaaS1
import Derived.Test.YtdedkemkmccliaaW4
import Derived.Test.YtdedkemkmccliaaW5
set_option linter.unusedVariables false
set_option linter.unusedSimpArgs false
namespace Go.Proofs.Ytdedkemkmccliaa
open Go.Al Go.Den

theorem wrap64 (n : Int) (h1 : -9223372036854775808 ≤ n) (h2 : n ≤ 9223372036854775807) : IntKind.i64.wrap n = n := IntWalk.i64_in n (by omega)
theorem iadd_nat (i k : Nat) (h : i + k < 9223372036854775808) : iadd .i64 (i : Int) (k : Int) = ((i + k : Nat) : Int) := by
  unfold iadd; rw [wrap64 _ (by omega) (by omega)]; omega
theorem iadd_one (i : Nat) (h : i + 1 < 9223372036854775808) : iadd .i64 (i : Int) 1 = ((i + 1 : Nat) : Int) := iadd_nat i 1 h
theorem ilt_nat (a b : Nat) : ilt (a : Int) (b : Int) = decide (a < b) := by unfold ilt; simp
theorem inB_nat (i n : Nat) : inB (i : Int) n = decide (i < n) := by unfold inB; simp
theorem getD_lt {α : Type} (l : List α) (i : Nat) (d : α) (h : i < l.length) : l.getD i d = l[i] := by simp [h]
theorem okN_spec' {b n : Nat} (h : n * b ≤ 140737488355328) (h2 : n ≤ maxLen) : okN b n = true := by simp [okN, h, h2]

theorem sh15_spec (fu : Nat) (nf : Nat → Bool) (a b : List Int) (h : a.length < fu) (h2 : a.length < 4611686018427387904) : sh15 fu nf a b = some (decide (a = b), ()) := by
  unfold sh15
  by_cases hl : a.length = b.length
  · have e0 : ine (lenI a) (lenI b) = false := by simp [ine, lenI, hl]
    rw [e0]
    simp only [cond_false]
    refine iter_ind (fun s => ∃ i : Nat, s = ((i : Int), ()) ∧ i ≤ a.length ∧ a.take i = b.take i) (fun s => a.length - s.1.toNat) ?_ fu _ ⟨0, rfl, Nat.zero_le _, by simp⟩ (by simp; omega)
    rintro rec s ⟨i, rfl, hi, heq⟩ hrec
    simp only [lenI, ilt_nat, inB_nat, Int.toNat_natCast]
    by_cases hlt : i < a.length
    · have hltb : i < b.length := by omega
      simp only [hlt, hltb, decide_true, cond_true, getD_lt _ _ _ hlt, getD_lt _ _ _ hltb]
      by_cases he : a[i] = b[i]
      · have e1 : ine a[i] b[i] = false := by simp [ine, he]
        simp only [e1, cond_false]
        rw [iadd_one i (by omega)]
        refine hrec _ ⟨i + 1, rfl, by omega, ?_⟩ (by simp; omega)
        rw [List.take_succ_eq_append_getElem hlt, List.take_succ_eq_append_getElem hltb, heq, he]
      · have e1 : ine a[i] b[i] = true := by simp [ine, he]
        have hne : a ≠ b := fun e => by subst e; exact he rfl
        simp [e1, hne]
    · have hia : i = a.length := by omega
      have : a = b := by rw [hia, List.take_length] at heq; rw [heq, hl, List.take_length]
      simp only [hlt, decide_false, cond_false]
      rw [decide_eq_true this]
  · have e0 : ine (lenI a) (lenI b) = true := by simp [ine, lenI]; omega
    have hne : a ≠ b := fun e => hl (by rw [e])
    simp [e0, hne]

/-- A line of a kind. -/
def lineK (k : Int) : LineT := ⟨k, 0, 0, []⟩

theorem sh11_spec (fu : Nat) (nf : Nat → Bool) (a : List Int) (h : a.length < fu) (h2 : a.length < 1000000) : sh11 fu nf a = some (a.map lineK, ()) := by
  unfold sh11
  refine iter_ind (fun s => ∃ i : Nat, s = ((a.take i).map lineK, (i : Int), ()) ∧ i ≤ a.length) (fun s => a.length - s.2.1.toNat) ?_ fu _ ⟨0, rfl, Nat.zero_le _⟩ (by simp; omega)
  rintro rec s ⟨i, rfl, hi⟩ hrec
  simp only [lenI, ilt_nat, inB_nat, Int.toNat_natCast]
  by_cases hlt : i < a.length
  · have hok : okN 48 (((a.take i).map lineK).length + [LineT.mk a[i] 0 0 []].length) = true := okN_spec' (by simp; omega) (by simp [maxLen]; omega)
    simp only [hlt, decide_true, cond_true, getD_lt _ _ _ hlt, hok]
    rw [iadd_one i (by omega)]
    refine hrec _ ⟨i + 1, ?_, by omega⟩ (by simp; omega)
    rw [List.take_succ_eq_append_getElem hlt, List.map_append]
    rfl
  · have hia : i = a.length := by omega
    simp [hlt, hia]

abbrev as10 : List (AK UU) := [.dl TI.line]
abbrev rs10 : List (AK UU) := [.dl TI.item, .int .i64, .int .i64]
abbrev as17 : List (AK UU) := [.dl TI.item]
abbrev rs17 : List (AK UU) := [.int .i64]

/-- Are lines of kinds alone? -/
def isK (l : LineT) : Bool := l.first == 0 && l.n == 0 && l.toks.isEmpty
theorem isK_spec {l : LineT} (h : isK l = true) : l = lineK l.kind := by
  obtain ⟨k, f, n, t⟩ := l
  simp [isK] at h
  obtain ⟨⟨rfl, rfl⟩, rfl⟩ := h
  rfl

/-- The contracts that are used. -/
def c15 (x : List Int × List Int × Unit) : Option (Bool × Unit) := if x.1.length < 1000000 then some (decide (x.1 = x.2.1), ()) else none
def c11 (x : List Int × Unit) : Option (List LineT × Unit) := if x.1.length < 1000000 then some (x.1.map lineK, ()) else none
def c10 (x : List LineT × Unit) : Option (List It × Int × Int × Unit) :=
  if x.1.length ≤ 1000 ∧ x.1.all isK = true then some ((runP 0 (x.1.map LineT.kind) [] []).1, (runP 0 (x.1.map LineT.kind) [] []).2.1, (runP 0 (x.1.map LineT.kind) [] []).2.2, ()) else none
def c17 (x : List It × Unit) : Option (Int × Unit) := if (flatIts x.1).length ≤ 1000000 then some ((depthIts x.1 : Int), ()) else none

theorem ok15 : ConOk CC Try.prog 15 ⟨as15, rs15, c15⟩ := (con15 1000000).sub fun x y h => by
  unfold c15 at h
  split at h
  · rename_i h1
    injection h with h
    subst h
    exact sh15_spec _ _ _ _ h1 (Nat.lt_trans h1 (by decide))
  · cases h
theorem ok11 : ConOk CC Try.prog 11 ⟨as11, rs11, c11⟩ := (con11 1000000).sub fun x y h => by
  unfold c11 at h
  split at h
  · rename_i h1
    injection h with h
    subst h
    exact sh11_spec _ _ _ h1 h1
  · cases h

theorem lines_tr (l : List LineT) (h : l.all isK = true) : l.map eV_line = (l.map LineT.kind).map lineV := by
  rw [List.map_map]
  refine List.map_congr_left fun x hx => ?_
  rw [List.all_eq_true] at h
  rw [isK_spec (h x hx)]
  rfl

theorem ok10 : ConOk CC Try.prog 10 ⟨as10, rs10, c10⟩ := by
  intro x y hx vs hvs
  replace hx : c10 x = some y := hx
  unfold c10 at hx
  split at hx
  · rename_i h1
    injection hx with hx
    subst hx
    obtain ⟨v, vs', rfl, h2, rfl⟩ := hvs
    have e : v = sl ((x.1.map LineT.kind).map lineV) := by
      rw [← lines_tr _ h1.2]; exact h2
    rw [e]
    exact cparse_spec (x.1.map LineT.kind) (Nat.le_trans (Nat.le_of_eq (List.length_map _)) h1.1)
  · cases hx
theorem ok17 : ConOk CC Try.prog 17 ⟨as17, rs17, c17⟩ := by
  intro x y hx vs hvs
  replace hx : c17 x = some y := hx
  unfold c17 at hx
  split at hx
  · rename_i h1
    injection hx with hx
    subst hx
    obtain ⟨v, vs', rfl, h2, rfl⟩ := hvs
    have e : v = sl (x.1.map encIt) := h2
    rw [e]
    exact depth_spec _ x.1 (Nat.le_refl _) h1
  · cases hx
end Go.Proofs.Ytdedkemkmccliaa
