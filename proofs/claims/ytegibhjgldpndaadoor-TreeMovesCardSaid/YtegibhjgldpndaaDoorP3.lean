/-
  What the readers of numbers work out.
-/
import Derived.Test.YtegibhjgldpndaaDoorU
import Derived.Test.YtegibhjgldpndaaDoorS1
import Derived.Test.YtegibhjgldpndaaDoorSL
import Derived.Test.YtegibhjgldpndaaDoorP2
set_option linter.unusedVariables false
set_option linter.unusedSimpArgs false
namespace Go.Proofs.YtegibhjgldpndaaDoor
open Go.Al Go.Den

theorem sh30_spec (fu : Nat) (nf : Nat → Bool) (s p : List UInt8) : sh30 fu nf s p = some (p.isPrefixOf s, ()) := by
  unfold sh30
  simp only [lenI_nat, ile_nat, cutL_pre, seq_dec]
  by_cases h : p.length ≤ s.length
  · have h1 : inS 0 (p.length : Int) s.length = true := by have := inS_nat 0 p.length s.length; simpa [h] using this
    simp only [h, decide_true, cond_true, h1]
    have : p.isPrefixOf s = decide (s.take p.length = p) := by
      rw [Bool.eq_iff_iff, List.isPrefixOf_iff_prefix, List.prefix_iff_eq_take, decide_eq_true_eq]
      exact ⟨fun e => e.symm, fun e => e.symm⟩
    rw [this]
  · simp only [h, decide_false, cond_false]
    have : p.isPrefixOf s = false := by
      cases hh : p.isPrefixOf s with
      | false => rfl
      | true => exact absurd (List.isPrefixOf_iff_prefix.1 hh).length_le h
    rw [this]
def c30 (x : List UInt8 × List UInt8 × Unit) : Option (Bool × Unit) := some (x.2.1.isPrefixOf x.1, ())
theorem ok30 : ConOk CC Tryd.prog 30 ⟨as30, rs30, c30⟩ := (con30 0).sub fun x y h => by
  unfold c30 at h
  injection h with h
  subst h
  exact sh30_spec _ _ _ _
theorem sh32_spec (fu : Nat) (nf : Nat → Bool) (s p : List UInt8) : sh32 fu nf s p = some (if p.isPrefixOf s = true then s.drop p.length else s, ()) := by
  unfold sh32
  simp only [lenI_nat, ile_nat, cutL_pre, seq_dec]
  by_cases h : p.length ≤ s.length
  · have h1 : inS 0 (p.length : Int) s.length = true := by have := inS_nat 0 p.length s.length; simpa [h] using this
    have h2 : inS (p.length : Int) (s.length : Int) s.length = true := by rw [inS_nat]; simp [h]
    have h3 : cutL s (p.length : Int) (s.length : Int) = s.drop p.length := cutL_suf s p.length
    simp only [h, decide_true, cond_true, h1, h2, h3]
    have : p.isPrefixOf s = decide (s.take p.length = p) := by
      rw [Bool.eq_iff_iff, List.isPrefixOf_iff_prefix, List.prefix_iff_eq_take, decide_eq_true_eq]
      exact ⟨fun e => e.symm, fun e => e.symm⟩
    rw [this]
    by_cases h4 : s.take p.length = p
    · simp [h4]
    · simp [h4]
  · simp only [h, decide_false, cond_false]
    have : p.isPrefixOf s = false := by
      cases hh : p.isPrefixOf s with
      | false => rfl
      | true => exact absurd (List.isPrefixOf_iff_prefix.1 hh).length_le h
    rw [this]; simp
def c32 (x : List UInt8 × List UInt8 × Unit) : Option (List UInt8 × Unit) := some (if x.2.1.isPrefixOf x.1 = true then x.1.drop x.2.1.length else x.1, ())
theorem ok32 : ConOk CC Tryd.prog 32 ⟨as32, rs32, c32⟩ := (con32 0).sub fun x y h => by
  unfold c32 at h
  injection h with h
  subst h
  exact sh32_spec _ _ _ _

theorem isD_of (c : UInt8) : isD c = (ile 48 (c.toNat : Int) && ile (c.toNat : Int) 57) := by
  have h1 := ile_nat 48 c.toNat
  have h2 := ile_nat c.toNat 57
  unfold isD
  rw [← h1, ← h2]; rfl

/-- What the program's reader of a number gives. -/
def num31 (s : List UInt8) (lo hi : Int) : Int × List UInt8 × Bool × Unit :=
  ((atoiR (dgs s)).1, s.drop (dgs s).length, !(atoiR (dgs s)).2 && (ile lo (atoiR (dgs s)).1 && (ile (atoiR (dgs s)).1 hi && (decide ((dgs s).length = 1) || ine (byteAt s 0) 48))), ())

set_option maxHeartbeats 1000000 in
theorem sh31_spec (fu : Nat) (nf : Nat → Bool) (s : List UInt8) (lo hi : Int) (h : s.length < fu) (h2 : s.length ≤ 1000000) : sh31 fu c38 nf s lo hi = some (num31 s lo hi) := by
  unfold sh31
  refine iter_ind (fun t => ∃ i : Nat, t = ((i : Int), ()) ∧ i ≤ s.length ∧ ∀ k (hk : k < s.length), k < i → isD s[k] = true) (fun t => s.length - t.1.toNat) ?_ fu _ ⟨0, rfl, Nat.zero_le _, fun k _ h => by omega⟩ (by simp; omega)
  rintro rec t ⟨i, rfl, hle, hd⟩ hrec
  have k1 : inS 0 (i : Int) s.length = true := by have := inS_nat 0 i s.length; simpa [hle] using this
  have k2 : inS (i : Int) (s.length : Int) s.length = true := by rw [inS_nat]; simp [hle]
  have k3 : cutL s (i : Int) (s.length : Int) = s.drop i := cutL_suf s i
  have k4 : c38 (s.take i, ()) = some ((atoiR (s.take i)).1, (atoiR (s.take i)).2, ()) := if_pos (by rw [List.length_take]; omega)
  -- behind the digits
  have fin : dgs s = s.take i → ∀ (q : Option (Int × List UInt8 × Bool × Unit)), (q = cond (atoiR (s.take i)).2 (some ((atoiR (s.take i)).1, s.drop i, false, ())) (cond (ile lo (atoiR (s.take i)).1) (cond (ile (atoiR (s.take i)).1 hi) (cond (ieq (i : Int) 1) (some ((atoiR (s.take i)).1, s.drop i, true, ())) (cond (inB 0 s.length) (some ((atoiR (s.take i)).1, s.drop i, ine (byteAt s 0) 48, ())) none)) (some ((atoiR (s.take i)).1, s.drop i, false, ()))) (some ((atoiR (s.take i)).1, s.drop i, false, ())))) → q = some (num31 s lo hi) := by
    intro e q hq
    rw [hq]
    unfold num31
    rw [e]
    have e2 : (s.take i).length = i := by rw [List.length_take]; omega
    rw [e2]
    cases hb : (atoiR (s.take i)).2 with
    | true => simp only [cond_true, Bool.not_true, Bool.false_and]
    | false =>
      have hpos : 0 < s.length := by
        rcases Nat.eq_zero_or_pos s.length with h0 | h0
        · have : s.take i = [] := by simp [List.length_eq_zero_iff.1 h0]
          rw [this, atoiR_nil] at hb; cases hb
        · exact h0
      have k5 : inB 0 s.length = true := by have := inB_nat 0 s.length; simpa [hpos] using this
      have k6 : ieq (i : Int) 1 = decide (i = 1) := by rw [ieq_dec]; exact decide_eq_decide.2 ⟨fun h => by omega, fun h => by omega⟩
      simp only [cond_false, Bool.not_false, Bool.true_and, k5, k6, cond_true]
      cases ile lo (atoiR (s.take i)).1 <;> cases ile (atoiR (s.take i)).1 hi <;> cases decide (i = 1) <;> simp
  simp only [lenI_nat, ilt_nat, inB_nat, k1, k2, k3, cutL_pre, k4, Option.bind_some, cond_true]
  by_cases hlt : i < s.length
  · have k5 := isD_of s[i]
    have k6 : iadd .i64 (i : Int) 1 = ((i + 1 : Nat) : Int) := iadd_one i (by omega)
    simp only [hlt, decide_true, cond_true, byteAt_lt s i hlt, k6]
    by_cases hc : isD s[i] = true
    · rw [hc] at k5
      have k7 := k5.symm
      simp only [Bool.and_eq_true] at k7
      simp only [k7.1, k7.2, cond_true]
      exact hrec _ ⟨i + 1, rfl, by omega, fun k hk hki => by
        rcases Nat.lt_or_ge k i with h | h
        · exact hd k hk h
        · have : k = i := by omega
          subst this; exact hc⟩ (by simp; omega)
    · have hc : isD s[i] = false := by simpa using hc
      have hdg : dgs s = s.take i := dgs_of hle (fun k hk => hd k (by omega) hk) (fun _ => hc)
      rw [hc] at k5
      have k7 := k5.symm
      cases h7 : ile 48 (s[i].toNat : Int) with
      | true =>
        rw [h7, Bool.true_and] at k7
        simp only [k7, cond_true, cond_false]
        exact fin hdg _ rfl
      | false =>
        simp only [cond_false]
        exact fin hdg _ rfl
  · have hie : i = s.length := by omega
    have hdg : dgs s = s.take i := dgs_of hle (fun k hk => hd k (by omega) hk) (fun h => absurd h hlt)
    simp only [hlt, decide_false, cond_false]
    exact fin hdg _ rfl

def c31 (x : List UInt8 × Int × Int × Unit) : Option (Int × List UInt8 × Bool × Unit) := if x.1.length ≤ 1000000 then some (num31 x.1 x.2.1 x.2.2.1) else none
theorem ok31 : ConOk CC Tryd.prog 31 ⟨as31, rs31, c31⟩ := (con31 1000001 c38 ok38).sub fun x y h => by
  unfold c31 at h
  split at h
  · rename_i h1
    injection h with h
    subst h
    exact sh31_spec _ _ _ _ _ (by omega) h1
  · cases h

/-- It is one just if it is written as it should be. -/
theorem num31_ok (s : List UInt8) (lo hi : Nat) (hhi : hi < 9223372036854775807) : (num31 s lo hi).2.2.1 = numOk (dgs s) lo hi ∧ (numOk (dgs s) lo hi = true → (num31 s lo hi).1 = (valF 0 (dgs s) : Int)) := by
  unfold num31 numOk
  simp only
  by_cases h0 : dgs s = []
  · rw [h0, atoiR_nil]; simp
  · rw [atoiR_dgs h0 (allD_dgs s)]
    have hne : (dgs s).isEmpty = false := by cases h : dgs s with | nil => exact absurd h h0 | cons _ _ => rfl
    have hb : ine (byteAt s 0) 48 = !((dgs s).head? == some 48) := by
      have hsp := dgs_split s
      cases hd : dgs s with
      | nil => exact absurd hd h0
      | cons c r =>
        rw [hd] at hsp
        have : s = c :: (r ++ s.drop (c :: r).length) := by rw [List.cons_append] at hsp; exact hsp.symm
        rw [this]
        unfold byteAt
        simp only [Int.toNat_zero, List.getD_cons_zero, List.head?_cons]
        rw [ine_dec]
        congr 1
        rw [Bool.eq_iff_iff, decide_eq_true_eq, beq_iff_eq, Option.some.injEq]
        constructor
        · intro e; exact UInt8.toNat_inj.1 (by have : c.toNat = 48 := by omega
                                               rw [this]; rfl)
        · intro e; rw [e]; decide
    rw [hb, hne]
    have hbeq : ((dgs s).length == 1) = decide ((dgs s).length = 1) := by by_cases h : (dgs s).length = 1 <;> simp [h]
    rw [hbeq]
    by_cases hv : valF 0 (dgs s) < 9223372036854775808
    · rw [if_pos hv]
      simp only [Bool.not_false, Bool.true_and, ile_nat]
      refine ⟨?_, fun _ => trivial⟩
      cases decide ((dgs s).length = 1) <;> cases ((dgs s).head? == some 48) <;> cases decide (lo ≤ valF 0 (dgs s)) <;> cases decide (valF 0 (dgs s) ≤ hi) <;> rfl
    · rw [if_neg hv]
      have : decide (valF 0 (dgs s) ≤ hi) = false := decide_eq_false (by omega)
      rw [this]
      simp
end Go.Proofs.YtegibhjgldpndaaDoor
