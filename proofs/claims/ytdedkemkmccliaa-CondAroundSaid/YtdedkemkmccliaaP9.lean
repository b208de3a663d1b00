/-
  WHAT IS WRONG FIRST, of the document: its walk is that of the machine.
-/
import Derived.Test.YtdedkemkmccliaaP8
import Derived.Test.YtdedkemkmccliaaS4
set_option linter.unusedVariables false
set_option linter.unusedSimpArgs false
namespace Go.Proofs.Ytdedkemkmccliaa
open Go.Al Go.Den

theorem takeL_all {α : Type} (xs : List α) : takeL xs.length xs = xs := List.take_length
theorem takeL_of {α : Type} (n : Nat) (xs : List α) (h : xs.length = n) : takeL n xs = xs := by subst h; exact List.take_length
theorem eqN_self (n : Nat) : eqN n n = true := by simp [eqN]
theorem ble_self (n : Nat) : Nat.ble n n = true := by simp

/-- The two lists that stand for what is open. -/
def R23 (ops : List O) (a : Option (List Int)) (b : Option (List Bool)) : Prop :=
  (a = none ∧ b = none ∧ ops = []) ∨ (a = some (ops.reverse.map O.l) ∧ b = some (ops.reverse.map O.last))

theorem stepP_len {k i : Int} {ops : List O} {its : List It} {p : List O × List It} (h : stepP k i ops its = some p) : p.1.length ≤ ops.length + 1 := by
  unfold stepP at h
  split at h
  · injection h with h; subst h; simp
  · split at h
    · cases ops with
      | nil => cases h
      | cons o r =>
        simp only at h
        split at h
        · cases h
        · injection h with h; subst h; simp
    · split at h
      · cases ops with
        | nil => cases h
        | cons o r => injection h with h; subst h; simp; omega
      · injection h with h; subst h; simp

theorem runP_drop (ks : List Int) (i : Nat) (h : i < ks.length) (ops : List O) (its : List It) : runP i (ks.drop i) ops its = match stepP ks[i] i ops its with | none => ([], (i : Int), 50) | some (ops', its') => runP ((i + 1 : Nat) : Int) (ks.drop (i + 1)) ops' its' := by
  rw [List.drop_eq_getElem_cons h]; rfl

theorem k_cases (k : Int) : k = 2 ∨ k = 3 ∨ k = 4 ∨ k = 5 ∨ k = 6 ∨ k = 7 ∨ (k ≠ 2 ∧ k ≠ 3 ∧ k ≠ 4 ∧ k ≠ 5 ∧ k ≠ 6 ∧ k ≠ 7) := by omega
theorem ieq_dec (a b : Int) : ieq a b = decide (a = b) := by unfold ieq; by_cases h : a = b <;> simp [h]
theorem ieq_false {a b : Int} (h : a ≠ b) : ieq a b = false := by simp [ieq, h]

set_option maxHeartbeats 4000000 in
theorem sh23_spec (fu : Nat) (nf : Nat → Bool) (ls : List LineT) (h : ls.length < fu) (h2 : ls.length ≤ 1000) :
    sh23 fu nf ls = some ((runP 0 (ls.map LineT.kind) [] []).2.1, (runP 0 (ls.map LineT.kind) [] []).2.2, ()) := by
  unfold sh23
  refine iter_ind (fun s => ∃ (i : Nat) (ops : List O) (its : List It), s.2.2 = ((i : Int), ()) ∧ i ≤ ls.length ∧ R23 ops s.1 s.2.1 ∧ ops.length ≤ i ∧ runP i ((ls.map LineT.kind).drop i) ops its = runP 0 (ls.map LineT.kind) [] []) (fun s => ls.length - s.2.2.1.toNat) ?_ fu _ ⟨0, [], [], rfl, Nat.zero_le _, Or.inl ⟨rfl, rfl, rfl⟩, Nat.le_refl _, rfl⟩ (by simp; omega)
  rintro rec ⟨a, b, s⟩ ⟨i, ops, its, hs, hi, hR, hl, hrun⟩ hrec
  simp only at hs hR
  subst hs
  by_cases hlt : i < ls.length
  · have hg : (ls.getD i lineD).kind = (ls.map LineT.kind)[i]'(by simp; exact hlt) := by simp [hlt]
    have hk := runP_drop (ls.map LineT.kind) i (by simp; exact hlt) ops its
    rw [hrun, ← hg] at hk
    have hstep : ∀ (a' : Option (List Int)) (b' : Option (List Bool)) (ops' : List O) (its' : List It), stepP (ls.getD i lineD).kind i ops its = some (ops', its') → R23 ops' a' b' → rec (a', b', ((i + 1 : Nat) : Int), ()) = some ((runP 0 (ls.map LineT.kind) [] []).2.1, (runP 0 (ls.map LineT.kind) [] []).2.2, ()) := by
      intro a' b' ops' its' e1 e2
      have := stepP_len e1
      rw [e1] at hk
      exact hrec _ ⟨i + 1, ops', its', rfl, by omega, e2, by simp only at this; omega, hk.symm⟩ (by simp; omega)
    have hnone : stepP (ls.getD i lineD).kind i ops its = none → some ((i : Int), (50 : Int), ()) = some ((runP 0 (ls.map LineT.kind) [] []).2.1, (runP 0 (ls.map LineT.kind) [] []).2.2, ()) := by
      intro e1; rw [e1] at hk; rw [hk]
    clear hk hrun hrec
    have j1 : ilt (i : Int) (lenI ls) = true := by simp [ilt, lenI]; omega
    have j2 : inB (i : Int) ls.length = true := by simp [inB] <;> omega
    have j3 : iadd .i64 (i : Int) 1 = ((i + 1 : Nat) : Int) := iadd_one i (by omega)
    generalize hk0 : (ls.getD i lineD).kind = k at *
    have oN : ∀ {α β : Type} (u : β) (f : α → β), oCase none u f = u := fun _ _ => rfl
    have oS : ∀ {α β : Type} (x : α) (u : β) (f : α → β), oCase (some x) u f = f x := fun _ _ _ => rfl
    have k1 : okN 8 1 = true := okN8 _ (by omega)
    rcases hR with ⟨rfl, rfl, rfl⟩ | ⟨rfl, rfl⟩
    · simp only [oN, oS, j1, j2, j3, cond_true, Int.toNat_natCast, joinC, hk0]
      rcases k_cases k with rfl | rfl | rfl | rfl | rfl | rfl | ⟨n2, n3, n4, n5, n6, n7⟩
      · simp only [ieq_dec, Int.reduceEq, decide_false, decide_true, cond_true, cond_false, List.length_cons, List.length_nil, Nat.zero_add, k1, takeL_of, eqN_self, oN, oS]
        exact hstep (some [(i : Int)]) (some [false]) [⟨i, [], i, false, its, 0, 0, 0⟩] [] rfl (Or.inr ⟨rfl, rfl⟩)
      · simp only [ieq_dec, Int.reduceEq, decide_false, decide_true, cond_true, cond_false, List.length_cons, List.length_nil, Nat.zero_add, k1, takeL_of, eqN_self, oN, oS]
        exact hstep (some [(i : Int)]) (some [false]) [⟨i, [], i, false, its, 0, 0, 0⟩] [] rfl (Or.inr ⟨rfl, rfl⟩)
      · simp only [ieq_dec, Int.reduceEq, decide_false, decide_true, cond_true, cond_false, List.length_cons, List.length_nil, Nat.zero_add, k1, takeL_of, eqN_self, oN, oS]
        exact hstep (some [(i : Int)]) (some [false]) [⟨i, [], i, false, its, 0, 0, 0⟩] [] rfl (Or.inr ⟨rfl, rfl⟩)
      · simp only [ieq_dec, Int.reduceEq, decide_false, decide_true, cond_true, cond_false, List.length_cons, List.length_nil, Nat.zero_add, k1, takeL_of, eqN_self, oN, oS]
        exact hnone rfl
      · simp only [ieq_dec, Int.reduceEq, decide_false, decide_true, cond_true, cond_false, List.length_cons, List.length_nil, Nat.zero_add, k1, takeL_of, eqN_self, oN, oS]
        exact hnone rfl
      · simp only [ieq_dec, Int.reduceEq, decide_false, decide_true, cond_true, cond_false, List.length_cons, List.length_nil, Nat.zero_add, k1, takeL_of, eqN_self, oN, oS]
        exact hnone rfl
      · simp only [decide_false, decide_true, cond_true, cond_false, List.length_cons, List.length_nil, Nat.zero_add, k1, takeL_of, eqN_self, oN, oS, ieq_false n2, ieq_false n3, ieq_false n4, ieq_false n5, ieq_false n6, ieq_false n7]
        exact hstep none none [] (its ++ [.mk i i []]) (by unfold stepP; rw [if_neg (by omega), if_neg (by omega), if_neg (by omega)]) (Or.inl ⟨rfl, rfl, rfl⟩)
    · have lr : (ops.reverse.map O.l).length = ops.length := by simp
      have lr2 : (ops.reverse.map O.last).length = ops.length := by simp
      have kn : okN 8 (ops.length + 1) = true := okN8 _ (by omega)
      have kn1 : okN 1 (ops.length + 1) = true := okN_spec' (by omega) (by unfold maxLen; omega)
      have tk : ∀ {α : Type} (f : O → α), List.take ops.length (ops.reverse.map f) = ops.reverse.map f := fun f => List.take_of_length_le (by simp)
      have ta : ∀ {α : Type} (f : O → α) (x : α), takeL (ops.length + 1) (ops.reverse.map f ++ [x]) = ops.reverse.map f ++ [x] := fun f x => takeL_of _ _ (by simp)
      have tb : ∀ {α : Type} (f : O → α), takeL ops.length (ops.reverse.map f) = ops.reverse.map f := fun f => takeL_of _ _ (by simp)
      simp only [oN, oS, j1, j2, j3, cond_true, Int.toNat_natCast, joinC, hk0]
      rcases k_cases k with rfl | rfl | rfl | rfl | rfl | rfl | ⟨n2, n3, n4, n5, n6, n7⟩
      · simp only [ta, tb, tk, kn1, ieq_dec, Int.reduceEq, decide_false, decide_true, cond_true, cond_false, lr, lr2, ble_self, Bool.and_self, kn, Bool.true_and, List.length_append, List.length_cons, List.length_nil, Nat.zero_add, List.take_length, takeL_all, takeL_of, eqN_self, oN, oS]
        exact hstep _ _ (⟨i, [], i, false, its, 0, 0, 0⟩ :: ops) [] rfl (Or.inr ⟨by simp, by simp⟩)
      · simp only [ta, tb, tk, kn1, ieq_dec, Int.reduceEq, decide_false, decide_true, cond_true, cond_false, lr, lr2, ble_self, Bool.and_self, kn, Bool.true_and, List.length_append, List.length_cons, List.length_nil, Nat.zero_add, List.take_length, takeL_all, takeL_of, eqN_self, oN, oS]
        exact hstep _ _ (⟨i, [], i, false, its, 0, 0, 0⟩ :: ops) [] rfl (Or.inr ⟨by simp, by simp⟩)
      · simp only [ta, tb, tk, kn1, ieq_dec, Int.reduceEq, decide_false, decide_true, cond_true, cond_false, lr, lr2, ble_self, Bool.and_self, kn, Bool.true_and, List.length_append, List.length_cons, List.length_nil, Nat.zero_add, List.take_length, takeL_all, takeL_of, eqN_self, oN, oS]
        exact hstep _ _ (⟨i, [], i, false, its, 0, 0, 0⟩ :: ops) [] rfl (Or.inr ⟨by simp, by simp⟩)
      · cases ops with
        | nil => exact hnone rfl
        | cons o r =>
          have is1 : isub .i64 (Int.ofNat (r.length + 1)) 1 = (r.length : Int) := by
            unfold isub; rw [wrap64 _ (by simp at hl ⊢ <;> omega) (by simp at hl ⊢ <;> omega)]; simp
          have q0 : ¬ Int.ofNat (r.length + 1) = 0 := by simp <;> omega
          have q1 : inB (r.length : Int) (r.length + 1) = true := by simp [inB] <;> omega
          have q2 : Nat.blt r.length (r.length + 1) = true := by simp
          have q3 : (List.map O.last (o :: r).reverse).getD r.length false = o.last := by simp
          have q4 : (List.map O.last (o :: r).reverse).set r.length true = List.map O.last r.reverse ++ [true] := by simp
          have q5 : takeL (r.length + 1) (List.map O.last r.reverse ++ [true]) = List.map O.last r.reverse ++ [true] := takeL_of _ _ (by simp)
          have q6 : inS 0 (r.length : Int) (r.length + 1) = true := by simp [inS]; omega
          have q7 : ∀ {α : Type} (f : O → α), takeL r.length (List.map f (o :: r).reverse) = List.map f r.reverse := fun f => by simp [takeL]
          have q8 : ∀ {α : Type} (f : O → α), (List.map f r.reverse).length = r.length := fun f => by simp
          simp only [ta, tb, tk, kn1, is1, q0, q1, q2, q3, q4, q5, q6, q7, q8, Int.toNat_natCast, ieq_dec, Int.reduceEq, decide_false, decide_true, cond_true, cond_false, lr, lr2, ble_self, Bool.and_self, kn, Bool.true_and, List.length_append, List.length_cons, List.length_nil, Nat.zero_add, List.take_length, takeL_all, takeL_of, eqN_self, oN, oS]
          cases ho : o.last with
          | true => simp only [cond_true]; exact hnone (by simp [stepP, ho])
          | false =>
            simp only [cond_false]
            exact hstep _ _ (⟨o.l, o.brs ++ [.mk o.cur its], i, false, o.ah, 0, 0, 0⟩ :: r) [] (by simp [stepP, ho]) (Or.inr ⟨by simp, by simp [ho]⟩)
      · cases ops with
        | nil => exact hnone rfl
        | cons o r =>
          have is1 : isub .i64 (Int.ofNat (r.length + 1)) 1 = (r.length : Int) := by
            unfold isub; rw [wrap64 _ (by simp at hl ⊢ <;> omega) (by simp at hl ⊢ <;> omega)]; simp
          have q0 : ¬ Int.ofNat (r.length + 1) = 0 := by simp <;> omega
          have q1 : inB (r.length : Int) (r.length + 1) = true := by simp [inB] <;> omega
          have q2 : Nat.blt r.length (r.length + 1) = true := by simp
          have q3 : (List.map O.last (o :: r).reverse).getD r.length false = o.last := by simp
          have q4 : (List.map O.last (o :: r).reverse).set r.length true = List.map O.last r.reverse ++ [true] := by simp
          have q5 : takeL (r.length + 1) (List.map O.last r.reverse ++ [true]) = List.map O.last r.reverse ++ [true] := takeL_of _ _ (by simp)
          have q6 : inS 0 (r.length : Int) (r.length + 1) = true := by simp [inS]; omega
          have q7 : ∀ {α : Type} (f : O → α), takeL r.length (List.map f (o :: r).reverse) = List.map f r.reverse := fun f => by simp [takeL]
          have q8 : ∀ {α : Type} (f : O → α), (List.map f r.reverse).length = r.length := fun f => by simp
          simp only [ta, tb, tk, kn1, is1, q0, q1, q2, q3, q4, q5, q6, q7, q8, Int.toNat_natCast, ieq_dec, Int.reduceEq, decide_false, decide_true, cond_true, cond_false, lr, lr2, ble_self, Bool.and_self, kn, Bool.true_and, List.length_append, List.length_cons, List.length_nil, Nat.zero_add, List.take_length, takeL_all, takeL_of, eqN_self, oN, oS]
          cases ho : o.last with
          | true => simp only [cond_true]; exact hnone (by simp [stepP, ho])
          | false =>
            simp only [cond_false]
            exact hstep _ _ (⟨o.l, o.brs ++ [.mk o.cur its], i, true, o.ah, 0, 0, 0⟩ :: r) [] (by simp [stepP, ho]) (Or.inr ⟨by simp, by simp⟩)
      · cases ops with
        | nil => exact hnone rfl
        | cons o r =>
          have is1 : isub .i64 (Int.ofNat (r.length + 1)) 1 = (r.length : Int) := by
            unfold isub; rw [wrap64 _ (by simp at hl ⊢ <;> omega) (by simp at hl ⊢ <;> omega)]; simp
          have q0 : ¬ Int.ofNat (r.length + 1) = 0 := by simp <;> omega
          have q1 : inB (r.length : Int) (r.length + 1) = true := by simp [inB] <;> omega
          have q2 : Nat.blt r.length (r.length + 1) = true := by simp
          have q3 : (List.map O.last (o :: r).reverse).getD r.length false = o.last := by simp
          have q4 : (List.map O.last (o :: r).reverse).set r.length true = List.map O.last r.reverse ++ [true] := by simp
          have q5 : takeL (r.length + 1) (List.map O.last r.reverse ++ [true]) = List.map O.last r.reverse ++ [true] := takeL_of _ _ (by simp)
          have q6 : inS 0 (r.length : Int) (r.length + 1) = true := by simp [inS]; omega
          have q7 : ∀ {α : Type} (f : O → α), takeL r.length (List.map f (o :: r).reverse) = List.map f r.reverse := fun f => by simp [takeL]
          have q8 : ∀ {α : Type} (f : O → α), (List.map f r.reverse).length = r.length := fun f => by simp
          simp only [ta, tb, tk, kn1, is1, q0, q1, q2, q3, q4, q5, q6, q7, q8, Int.toNat_natCast, ieq_dec, Int.reduceEq, decide_false, decide_true, cond_true, cond_false, lr, lr2, ble_self, Bool.and_self, kn, Bool.true_and, List.length_append, List.length_cons, List.length_nil, Nat.zero_add, List.take_length, takeL_all, takeL_of, eqN_self, oN, oS]
          exact hstep _ _ r (o.ah ++ [.mk o.l i (o.brs ++ [.mk o.cur its])]) (by simp [stepP]) (Or.inr ⟨rfl, rfl⟩)
      · simp only [ta, tb, tk, kn1, decide_false, decide_true, cond_true, cond_false, lr, lr2, ble_self, Bool.and_self, kn, Bool.true_and, List.length_append, List.length_cons, List.length_nil, Nat.zero_add, List.take_length, takeL_all, takeL_of, eqN_self, oN, oS, ieq_false n2, ieq_false n3, ieq_false n4, ieq_false n5, ieq_false n6, ieq_false n7]
        exact hstep _ _ ops (its ++ [.mk i i []]) (by unfold stepP; rw [if_neg (by omega), if_neg (by omega), if_neg (by omega)]) (Or.inr ⟨rfl, rfl⟩)
  · have hie : i = ls.length := by omega
    have j1 : ilt (i : Int) (lenI ls) = false := by simp [ilt, lenI]; omega
    have hd : (ls.map LineT.kind).drop i = [] := by simp [hie]
    rw [hd] at hrun
    rw [← hrun]
    have oN : ∀ {α β : Type} (u : β) (f : α → β), oCase none u f = u := fun _ _ => rfl
    have oS : ∀ {α β : Type} (x : α) (u : β) (f : α → β), oCase (some x) u f = f x := fun _ _ _ => rfl
    rcases hR with ⟨rfl, rfl, rfl⟩ | ⟨rfl, rfl⟩
    · simp only [oN, oS, j1, cond_false]
      rfl
    · simp only [oN, oS, j1, cond_false]
      cases ops with
      | nil => rfl
      | cons o r =>
        have is1 : isub .i64 (Int.ofNat (r.length + 1)) 1 = (r.length : Int) := by
          unfold isub; rw [wrap64 _ (by simp at hl ⊢ <;> omega) (by simp at hl ⊢ <;> omega)]; simp
        have lr : (List.map O.l (o :: r).reverse).length = r.length + 1 := by simp
        have q0 : ilt 0 (Int.ofNat (r.length + 1)) = true := by simp [ilt] <;> omega
        have q1 : inB (r.length : Int) (r.length + 1) = true := by simp [inB] <;> omega
        have q2 : Nat.blt r.length (r.length + 1) = true := by simp
        have q3 : (List.map O.l (o :: r).reverse).getD r.length 0 = o.l := by simp
        simp only [lr, is1, q0, q1, q2, q3, Int.toNat_natCast, cond_true, cond_false]
        rfl
def c23 (x : List LineT × Unit) : Option (Int × Int × Unit) := if x.1.length ≤ 1000 then some ((runP 0 (x.1.map LineT.kind) [] []).2.1, (runP 0 (x.1.map LineT.kind) [] []).2.2, ()) else none
theorem ok23 : ConOk CC Try.prog 23 ⟨as23, rs23, c23⟩ := (con23 1000000).sub fun x y h => by
  unfold c23 at h
  split at h
  · rename_i h1
    injection h with h
    subst h
    exact sh23_spec _ _ _ (by omega) h1
  · cases h
end Go.Proofs.Ytdedkemkmccliaa
