/-
  What the program's reader of trees works out.
-/
import Derived.Test.YtegibhjgldpndaaDoorP3
set_option linter.unusedVariables false
set_option linter.unusedSimpArgs false
namespace Go.Proofs.YtegibhjgldpndaaDoor
open Go.Al Go.Den

theorem nd_eta (t : Nd) : Nd.mk t.kind t.tok t.kids = t := by cases t; rfl
theorem pre1 (c : UInt8) (s : List UInt8) : [c].isPrefixOf s = decide (s.head? = some c) := by
  cases s with
  | nil => simp
  | cons x r =>
    simp only [List.isPrefixOf, List.head?_cons, Option.some.injEq, Bool.and_true]
    rw [Bool.eq_iff_iff, beq_iff_eq, decide_eq_true_eq]
    exact ⟨fun e => e.symm, fun e => e.symm⟩
theorem imax_nat (a b : Nat) : imax (a : Int) (b : Int) = ((max a b : Nat) : Int) := by unfold imax; split <;> omega

def c25n : Nat → List UInt8 × Unit → Option (Nd × List UInt8 × Int × Bool × Unit)
  | 0, _ => none
  | n + 1, x => sh25 1000001 (c25n n) c30 c31 c32 (fun _ => false) x.1
theorem ok25n : ∀ n, ConOk CC Tryd.prog 25 ⟨as25, rs25, c25n n⟩
  | 0 => fun x y h => by simp [c25n] at h
  | n + 1 => con25 1000001 (c25n n) (ok25n n) c30 ok30 c31 ok31 c32 ok32

/-- What a reading gives: the tree, if there is one. -/
def Gives (s : List UInt8) (q : Option (Nd × List UInt8 × Int × Bool × Unit)) : Prop :=
  ∃ (t : Nd) (r : List UInt8) (d : Nat) (b : Bool), q = some (t, r, (d : Int), b, ()) ∧ r.length ≤ s.length ∧ d ≤ s.length ∧ (b = true → rdTq s = some (t, r, d)) ∧ (b = false → rdTq s = none)

set_option maxHeartbeats 1000000 in
theorem c25_spec : ∀ n (s : List UInt8), s.length < n → s.length ≤ 4000 → Gives s (c25n n (s, ()))
  | 0, s, h, _ => by omega
  | n + 1, s, h, h4 => by
    have ih := c25_spec n
    have e30 : ∀ (x : List UInt8) (c : UInt8), c30 (x, [c], ()) = some (decide (x.head? = some c), ()) := fun x c => by unfold c30; rw [pre1]
    have e32 : ∀ (x : List UInt8), ∃ r, c32 (x, [41], ()) = some (r, ()) ∧ r.length ≤ x.length ∧ (x.head? = some 41 → r = x.tail) := fun x => by
      unfold c32
      refine ⟨_, rfl, ?_, fun hx => ?_⟩
      · simp only; split
        · rw [List.length_drop]; omega
        · exact Nat.le_refl _
      · simp only [pre1, hx, decide_true, if_true]
        cases x <;> simp
    show Gives s (sh25 1000001 (c25n n) c30 c31 c32 (fun _ => false) s)
    unfold sh25
    simp only [e30, Option.bind_some]
    by_cases h40 : s.head? = some 40
    · have ht := tail_lt h40
      have hl1 : s.tail.length = s.length - 1 := by simp
      have k1 : inS 1 (lenI s) s.length = true := by have := inS_nat 1 s.length s.length; rw [lenI_nat]; rw [show ((1 : Int)) = ((1 : Nat) : Int) from rfl, this]; simp; omega
      have k2 : cutL s 1 (lenI s) = s.tail := by have := cutL_suf s 1; rw [show ((1 : Int)) = ((1 : Nat) : Int) from rfl, this]; simp
      have k3 : c31 (s.tail, 1, 99, ()) = some (num31 s.tail 1 99) := if_pos (by show s.tail.length ≤ 1000000; omega)
      obtain ⟨n1, n2⟩ := num31_ok s.tail 1 99 (by omega)
      have n3 : (num31 s.tail 1 99).2.1.length ≤ s.tail.length := by show (s.tail.drop _).length ≤ _; rw [List.length_drop]; omega
      have n4 : (num31 s.tail 1 99).2.1 = s.tail.drop (dgs s.tail).length := rfl
      simp only [h40, decide_true, Bool.not_true, cond_false, cond_true, k1, k2, k3, Option.bind_some]
      replace n1 : (num31 s.tail 1 99).2.2.1 = numOk (dgs s.tail) 1 99 := n1
      replace n2 : numOk (dgs s.tail) 1 99 = true → (num31 s.tail 1 99).1 = (valF 0 (dgs s.tail) : Int) := n2
      have hrd := rdTq_eq s
      rw [if_pos h40] at hrd
      rw [← n4] at hrd
      generalize hN : num31 s.tail 1 99 = N at *
      obtain ⟨k, r0, b0, u⟩ := N
      simp only at n1 n2 n3 n4 hrd ⊢
      refine iter_indP (Gives s) (fun t => ∃ (s' : List UInt8) (ks : List Nd) (dp : Nat) (b : Bool), t = (s', (k, 0, ks, ()), (dp : Int), b, ()) ∧ s'.length ≤ s.tail.length ∧ dp ≤ s.tail.length ∧ ks.length + s'.length ≤ s.length ∧
        (b = true → rdTq s = match rdKq s' with | none => none | some (ks', r, d') => some (.mk k 0 (ks ++ ks'), r, max dp d' + 1)) ∧ (b = false → rdTq s = none)) (fun t => t.1.length) ?_ 1000001 _ ⟨r0, [], 0, b0, rfl, n3, Nat.zero_le _, by simp only [List.length_nil]; omega, fun hb => ?_, fun hb => ?_⟩ (by simp only; omega)
      · rintro rec t ⟨s', ks, dp, b, rfl, hs', hdp, hks, hb1, hb2⟩ hrec
        have k5 : iadd .i64 (dp : Int) 1 = ((dp + 1 : Nat) : Int) := iadd_one dp (by omega)
        obtain ⟨r2, q1, q2, q3⟩ := e32 s'
        simp only [q1, k5, Option.bind_some]
        cases b with
        | false =>
          simp only [cond_false]
          exact ⟨_, _, dp + 1, false, rfl, by omega, by omega, (fun h => by cases h), fun _ => hb2 rfl⟩
        | true =>
          have hb := hb1 rfl
          rw [rdKq_eq] at hb
          simp only [cond_true]
          by_cases h32 : s'.head? = some 32
          · have ht' := tail_lt h32
            have hl2 : s'.tail.length = s'.length - 1 := by simp
            have k6 : inS 1 (lenI s') s'.length = true := by have := inS_nat 1 s'.length s'.length; rw [lenI_nat]; rw [show ((1 : Int)) = ((1 : Nat) : Int) from rfl, this]; simp; omega
            have k7 : cutL s' 1 (lenI s') = s'.tail := by have := cutL_suf s' 1; rw [show ((1 : Int)) = ((1 : Nat) : Int) from rfl, this]; simp
            obtain ⟨t1, r1, d1, b1, p1, p2, p3, p4, p5⟩ := ih s'.tail (by omega) (by omega)
            have k8 : okN 40 (ks.length + 1) = true := okN_spec' (by omega) (by unfold maxLen; omega)
            simp only [h32, decide_true, cond_true, k6, k7, p1, Option.bind_some, List.length_cons, List.length_nil, Nat.zero_add, k8, nd_eta, imax_nat]
            rw [if_pos h32] at hb
            refine hrec _ ⟨r1, ks ++ [t1], max dp d1, b1, rfl, by omega, by omega, by simp only [List.length_append, List.length_cons, List.length_nil]; omega, fun hb1 => ?_, fun hb1 => ?_⟩ (by simp only; omega)
            · rw [p4 hb1] at hb
              simp only at hb
              rw [hb]
              cases rdKq r1 with
              | none => rfl
              | some p =>
                obtain ⟨ks', r', d'⟩ := p
                simp only
                have e1 : max dp (max d1 d') = max (max dp d1) d' := by omega
                rw [e1]; simp
            · rw [p5 hb1] at hb
              exact hb
          · rw [if_neg h32] at hb
            simp only [h32, decide_false, cond_false]
            by_cases h41 : s'.head? = some 41
            · rw [if_pos h41] at hb
              simp only [h41, decide_true]
              simp only [List.append_nil, Nat.max_zero] at hb
              refine ⟨_, _, dp + 1, true, rfl, by omega, by omega, fun _ => ?_, (fun h => by cases h)⟩
              rw [hb, q3 h41]
            · rw [if_neg h41] at hb
              simp only [h41, decide_false]
              exact ⟨_, _, dp + 1, false, rfl, by omega, by omega, (fun h => by cases h), fun _ => hb⟩
      · rw [hb] at n1
        rw [if_pos n1.symm] at hrd
        rw [hrd, n2 n1.symm]
        cases rdKq r0 with
        | none => rfl
        | some p =>
          obtain ⟨ks', r', d'⟩ := p
          simp
      · rw [hb] at n1
        rw [if_neg (by rw [← n1]; simp)] at hrd
        exact hrd
    · have k3 : c31 (s, 0, 9999, ()) = some (num31 s 0 9999) := if_pos (by show s.length ≤ 1000000; omega)
      obtain ⟨n1, n2⟩ := num31_ok s 0 9999 (by omega)
      simp only [h40, decide_false, Bool.not_false, cond_true, k3, Option.bind_some]
      have hrd := rdTq_eq s
      rw [if_neg h40] at hrd
      refine ⟨_, _, 0, _, rfl, ?_, Nat.zero_le _, fun hb => ?_, fun hb => ?_⟩
      · show (s.drop _).length ≤ _; rw [List.length_drop]; omega
      · have n1' : (num31 s 0 9999).2.2.1 = numOk (dgs s) 0 9999 := n1
        rw [n1'] at hb
        rw [if_pos hb] at hrd
        rw [hrd]
        have n2' : (num31 s 0 9999).1 = (valF 0 (dgs s) : Int) := n2 hb
        rw [n2']
        rfl
      · have n1' : (num31 s 0 9999).2.2.1 = numOk (dgs s) 0 9999 := n1
        rw [n1'] at hb
        rw [if_neg (by rw [hb]; simp)] at hrd
        exact hrd
def c25 : List UInt8 × Unit → Option (Nd × List UInt8 × Int × Bool × Unit) := c25n 4001
theorem ok25 : ConOk CC Tryd.prog 25 ⟨as25, rs25, c25⟩ := ok25n 4001

/-- What Read gives: the tree; or what is wrong. -/
def readR (s : List UInt8) : Nd × Int := if 4000 < s.length then (.mk 0 0 [], 2) else match rdTq s with
  | none => (.mk 0 0 [], 150)
  | some (t, r, d) => if r ≠ [] then (.mk 0 0 [], 150) else if 100 < d then (.mk 0 0 [], 151) else (t, 0)
theorem sh10_spec (fu : Nat) (nf : Nat → Bool) (s : List UInt8) : sh10 fu c25 nf s = some ((readR s).1, (readR s).2, ()) := by
  unfold sh10 readR
  have k1 : ilt 4000 (lenI s) = decide (4000 < s.length) := ilt_nat 4000 s.length
  rw [k1]
  by_cases h : 4000 < s.length
  · simp only [h, decide_true, cond_true, if_true]
  · obtain ⟨t, r, d, b, p1, p2, p3, p4, p5⟩ := c25_spec 4001 s (by omega) (by omega)
    have p1' : c25 (s, ()) = some (t, r, (d : Int), b, ()) := p1
    have k2 : ilt 100 (d : Int) = decide (100 < d) := ilt_nat 100 d
    simp only [h, decide_false, cond_false, if_false, p1', Option.bind_some, k2, nd_eta, seq_dec]
    cases b with
    | false => rw [p5 rfl]; rfl
    | true =>
      rw [p4 rfl]
      by_cases h2 : r = []
      · by_cases h3 : 100 < d
        · simp [h2, h3]
        · simp [h2, h3]
      · simp [h2]
def c10 (x : List UInt8 × Unit) : Option (Nd × Int × Unit) := some ((readR x.1).1, (readR x.1).2, ())
theorem ok10 : ConOk CC Tryd.prog 10 ⟨as10, rs10, c10⟩ := (con10 0 c25 ok25).sub fun x y h => by
  unfold c10 at h
  injection h with h
  subst h
  exact sh10_spec _ _ _

/-- What is read: its text, and that it is well made. -/
theorem readR_ok {s : List UInt8} (h : (readR s).2 = 0) : s.length ≤ 4000 ∧ prT (readR s).1 = s ∧ wfT (readR s).1 ∧ ∃ d, rdTq s = some ((readR s).1, [], d) := by
  unfold readR at *
  split at h
  · simp at h
  · rename_i h1
    cases hr : rdTq s with
    | none => rw [hr] at h; simp at h
    | some p =>
      obtain ⟨t, r, d⟩ := p
      rw [hr] at h
      simp only at h
      split at h
      · simp at h
      · rename_i h2
        split at h
        · simp at h
        · rename_i h3
          rw [if_neg h1]
          simp only
          rw [if_neg h2, if_neg h3]
          have h2' : r = [] := Classical.not_not.1 h2
          subst h2'
          obtain ⟨q1, q2⟩ := (rd_print (s.length + 1)).1 s t [] d hr
          exact ⟨by omega, by rw [List.append_nil] at q1; exact q1.symm, q2, d, rfl⟩
theorem readR_bad {s : List UInt8} (h : (readR s).2 ≠ 0) : (readR s).1 = .mk 0 0 [] := by
  unfold readR at *
  split
  · rfl
  · rename_i h1
    rw [if_neg h1] at h
    cases hr : rdTq s with
    | none => rfl
    | some p =>
      obtain ⟨t, r, d⟩ := p
      rw [hr] at h
      simp only at h ⊢
      split
      · rfl
      · rename_i h2
        rw [if_neg h2] at h
        split
        · rfl
        · rename_i h3
          rw [if_neg h3] at h
          exact absurd rfl h
end Go.Proofs.YtegibhjgldpndaaDoor
