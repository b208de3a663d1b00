/-
  The chapter's examples are as they should be; and the statements on what is read, and on what is like.
-/
import Derived.Test.YtegibhjgldpndaaDoorR5
set_option linter.unusedVariables false
set_option linter.unusedSimpArgs false
namespace Go.Proofs.YtegibhjgldpndaaDoor
open Go.Al Go.Den

def tX : Nd := .mk 3 0 [.mk 0 0 [], .mk 4 0 [], .mk 0 12 []]
theorem rd1 : readR [40, 51, 32, 48, 32, 40, 52, 41, 32, 49, 50, 41] = (tX, 0) := by rfl
theorem rd2 : readR [53] = (.mk 0 5 [], 0) := by rfl
theorem rd3 : (readR [40, 48, 41]).2 = 150 := by rfl
theorem rd4 : (readR [40, 51, 32, 32, 48, 41]).2 = 150 := by rfl
theorem rd5 : (readR [40, 49, 48, 48, 41]).2 = 150 := by rfl
theorem rd6 : (readR [40, 51, 32, 48, 48, 41]).2 = 150 := by rfl

theorem seq_self (s : List UInt8) : seq s s = true := by unfold seq; exact beq_self_eq_true s
theorem wfX : wfT tX ∧ prT tX = [40, 51, 32, 48, 32, 40, 52, 41, 32, 49, 50, 41] := by
  have := readR_ok (s := [40, 51, 32, 48, 32, 40, 52, 41, 32, 49, 50, 41]) (by rw [rd1])
  rw [rd1] at this
  exact ⟨this.2.2.1, this.2.1⟩
theorem sh9_true (fu : Nat) (nf : Nat → Bool) : sh9 fu c10 c12 c13 c14 c15 c16 c20 c21 c24 nf = some (true, ()) := by
  have e24 : ∀ x, c24 (x, ()) = some (.mk 0 x [], ()) := fun x => rfl
  have e21 : ∀ k l, c21 (k, l, ()) = some (.mk k 0 l, ()) := fun k l => rfl
  have e10 : ∀ s, c10 (s, ()) = some ((readR s).1, (readR s).2, ()) := fun s => rfl
  have e12 : c12 (tX, ()) = some ([40, 51, 32, 48, 32, 40, 52, 41, 32, 49, 50, 41], ()) := by
    rw [c12_of wfX.1 (by decide) (by rw [wfX.2]; decide), wfX.2]
  have e13 : c13 (tX, ()) = some ([0, 12], ()) := rfl
  have e14 : c14 (tX, 12, ()) = some ([3], ()) := rfl
  have e15 : c15 (tX, 4, ()) = some ([.mk 4 0 []], ()) := rfl
  have e16 : c16 ([0, 12], [0, 12], ()) = some (true, ()) := rfl
  have e16' : c16 ([3], [3], ()) = some (true, ()) := rfl
  have e20 : c20 (tX, tX, ()) = some (true, ()) := rfl
  unfold sh9
  simp only [e24, e21, Option.bind_some, nd_eta, e10, rd1, rd2, rd3, rd4, rd5, rd6]
  rw [show (Nd.mk 3 0 [Nd.mk 0 0 [], Nd.mk 4 0 [], Nd.mk 0 12 []]) = tX from rfl, e12]
  simp only [Option.bind_some, e13, e14, e15, e16, e16', e20, nd_eta, seq_self, ieq_dec, Nd.tok, decide_true, cond_true]
  rfl
def c9 (_ : Unit) : Option (Bool × Unit) := some (true, ())
theorem ok9 : ConOk CC Tryd.prog 9 ⟨as9, rs9, c9⟩ := (con9 0 c10 ok10 c12 ok12 c13 ok13 c14 ok14 c15 ok15 c16 ok16 c20 ok20 c21 ok21 c24 ok24).sub fun x y h => by
  have h2 : y = (true, ()) := by injection h with h; exact h.symm
  rw [h2]
  exact sh9_true 0 _

/- What is read. -/
theorem sh3_true (fu : Nat) (nf : Nat → Bool) (s : List UInt8) : sh3 fu c9 c10 c11 c12 nf s = some (true, ()) := by
  have e10 : c10 (s, ()) = some ((readR s).1, (readR s).2, ()) := rfl
  have e11 : c11 (s, ()) = some ((readR s).2, ()) := rfl
  unfold sh3
  simp only [c9, e10, e11, Option.bind_some, nd_eta, ine_dec, decide_true, Bool.not_true, cond_false, cond_true]
  by_cases h : (readR s).2 = 0
  · have ht := isTree_of h
    have hs := ht.sz
    have hl := ht.len
    have e12 : c12 ((readR s).1, ()) = some (s, ()) := by
      rw [c12_of ht.wf (by omega) (by rw [ht.pr]; omega), ht.pr]
    simp only [h, decide_true, Bool.not_true, cond_false, e12, Option.bind_some, seq_self]
  · have hb := readR_bad h
    simp only [h, decide_false, Bool.not_false, cond_true, hb, Nd.kind, Nd.tok, Nd.kids, ieq_dec, decide_true]
    rfl
theorem ok3 : ConOk CC Tryd.prog 3 ⟨as3, rs3, fun _ => some (true, ())⟩ := (con3 0 c9 ok9 c10 ok10 c11 ok11 c12 ok12).sub fun x y h => by
  have h2 : y = (true, ()) := by injection h with h; exact h.symm
  rw [h2]
  exact sh3_true 0 _ x.1

/- What is like. -/
theorem sh5_true (fu : Nat) (nf : Nat → Bool) (s t : List UInt8) : sh5 fu c9 c10 c20 nf s t = some (true, ()) := by
  have e10 : ∀ s, c10 (s, ()) = some ((readR s).1, (readR s).2, ()) := fun s => rfl
  unfold sh5
  simp only [c9, e10, Option.bind_some, nd_eta, ine_dec]
  by_cases h : (readR s).2 = 0
  · by_cases h' : (readR t).2 = 0
    · have ht := isTree_of h
      have ht' := isTree_of h'
      have hs := ht.sz
      have e20 : ∀ y, c20 ((readR s).1, y, ()) = some (eqT (readR s).1 y, ()) := fun y => by unfold c20 c20n; exact if_pos (by show szT (readR s).1 < 1000000; omega)
      have eo : eqT (readR s).1 (readR s).1 = true := (eqT_iff _ _).2 rfl
      have eq : eqT (readR s).1 (readR t).1 = seq s t := by
        unfold seq
        rw [Bool.eq_iff_iff, eqT_iff, beq_iff_eq]
        refine ⟨fun e => ?_, fun e => by rw [e]⟩
        rw [← ht.pr, e, ht'.pr]
      simp only [h, h', decide_true, Bool.not_true, cond_false, e20, Option.bind_some, eo, cond_true, eq]
      unfold beqB
      rw [beq_self_eq_true]
    · simp only [h, h', decide_true, decide_false, Bool.not_true, Bool.not_false, cond_false, cond_true]
  · simp only [h, decide_false, Bool.not_false, cond_true]
theorem ok5 : ConOk CC Tryd.prog 5 ⟨as5, rs5, fun _ => some (true, ())⟩ := (con5 0 c9 ok9 c10 ok10 c20 ok20).sub fun x y h => by
  have h2 : y = (true, ()) := by injection h with h; exact h.symm
  rw [h2]
  exact sh5_true 0 _ x.1 x.2.1
end Go.Proofs.YtegibhjgldpndaaDoor
