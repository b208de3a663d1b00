/-
  Around, of the document, and the law.
-/
import Derived.Test.YtdedkemkmccliaaP11
set_option linter.unusedVariables false
set_option linter.unusedSimpArgs false
namespace Go.Proofs.Ytdedkemkmccliaa
open Go.Al Go.Den

/-- What the walk over the lines has. -/
def R16 (ops : List O) (a : Option (List Int)) : Prop := (a = none ∧ ops = []) ∨ a = some (curs ops)

set_option maxHeartbeats 4000000 in
theorem sh116_spec (fu : Nat) (nf : Nat → Bool) (ls : List LineT) (ln : Nat) (h : ls.length + 1 < fu) (h2 : ls.length ≤ 1000) (hln : ln < ls.length) (hok : (runP 0 (ls.map LineT.kind) [] []).2.2 = 0) :
    ∃ b, sh116 fu nf ls ln = some ((b, arIts ln (runP 0 (ls.map LineT.kind) [] []).1), ()) := by
  have hK : (ls.map LineT.kind).length = ls.length := by simp
  have hg : ∀ i : Nat, (h : i < ls.length) → (ls.getD i lineD).kind = (ls.map LineT.kind)[i]'(by rw [hK]; exact h) := fun i h => by simp [h]
  generalize hKK : ls.map LineT.kind = K at *
  generalize hF : (runP 0 K [] []).1 = F at *
  unfold sh116
  refine iter_indP (fun r => ∃ b, r = some ((b, arIts ln F), ())) (fun s => ∃ (i : Nat), s.2 = ((i : Int), ()) ∧
    ((i ≤ ln ∧ ∃ (ops : List O) (its : List It), R16 ops s.1 ∧ ops.length ≤ i ∧ runP i (K.drop i) ops its = runP 0 K [] [] ∧ Fr ln ops its) ∨ (i = ln + 1 ∧ ((s.1 = none ∧ arIts ln F = []) ∨ s.1 = some (arIts ln F))))) (fun s => ls.length + 1 - s.2.1.toNat) ?_ fu _ ⟨0, rfl, .inl ⟨by omega, [], [], .inl ⟨rfl, rfl⟩, Nat.le_refl _, rfl, .nil _⟩⟩ (by simp; omega)
  rintro rec ⟨a, s⟩ ⟨i, hs, hor⟩ hrec
  simp only at hs hor
  subst hs
  have oN : ∀ {α β : Type} (u : β) (f : α → β), oCase none u f = u := fun _ _ => rfl
  have oS : ∀ {α β : Type} (x : α) (u : β) (f : α → β), oCase (some x) u f = f x := fun _ _ _ => rfl
  rcases hor with ⟨hi, ops, its, hR, hl, hrun, hfr⟩ | ⟨hi, ha⟩
  · have hlt : i < ls.length := by omega
    have hltK : i < K.length := by omega
    have hk := runP_drop K i hltK ops its
    rw [hrun, ← hg i hlt] at hk
    have j0 : ile (i : Int) (ln : Int) = true := by simp [ile]; omega
    have j1 : ilt (i : Int) (lenI ls) = true := by simp [ilt, lenI]; omega
    have j2 : inB (i : Int) ls.length = true := by simp [inB] <;> omega
    have j3 : iadd .i64 (i : Int) 1 = ((i + 1 : Nat) : Int) := iadd_one i (by omega)
    have j4 : ilt (i : Int) (ln : Int) = decide (i < ln) := ilt_nat i ln
    -- the next round
    have next : ∀ (a' : Option (List Int)) (p : List O × List It), stepP (ls.getD i lineD).kind i ops its = some p → p.1.length ≤ i + 1 →
        (i < ln → R16 p.1 a') → (i = ln → (a' = none ∧ outA (ls.getD i lineD).kind i ops = []) ∨ a' = some (outA (ls.getD i lineD).kind i ops)) → ∃ b, rec (a', ((i + 1 : Nat) : Int), ()) = some ((b, arIts ln F), ()) := by
      intro a' p hs hlen h3 h4
      rw [hs] at hk
      simp only at hk
      refine hrec _ ⟨i + 1, rfl, ?_⟩ (by simp; omega)
      by_cases hil : i < ln
      · exact .inl ⟨hil, p.1, p.2, h3 hil, hlen, hk.symm, hfr.step (by omega) hs⟩
      · have e : i = ln := by omega
        subst e
        refine .inr ⟨rfl, ?_⟩
        have hp := runP_past (i : Int) (K.drop (i + 1)) ((i + 1 : Nat) : Int) p.1 p.2 (by omega) (by rw [← hk]; exact hok)
        rw [← hk, hF, stI_at hfr hs] at hp
        show (a' = none ∧ arIts i F = []) ∨ a' = some (arIts i F)
        rw [hp]
        exact h4 rfl
    have bad : stepP (ls.getD i lineD).kind i ops its = none → False := fun e => by rw [e] at hk; rw [hk] at hok; simp at hok
    clear hk hrun hrec
    generalize hk0 : (ls.getD i lineD).kind = k at *
    have k1 : okN 8 1 = true := okN8 _ (by omega)
    have cl : (curs ops).length = ops.length := by simp [curs]
    rcases hR with ⟨rfl, rfl⟩ | rfl
    · simp only [oN, oS, j0, j1, j2, j3, j4, cond_true, Int.toNat_natCast, joinC, hk0]
      have o1 : ∀ q : Int, (q = 2 ∨ q = 3 ∨ q = 4) → outA q i [] = [(i : Int)] := fun q hq => by unfold outA; rw [if_pos hq]; rfl
      rcases k_cases k with rfl | rfl | rfl | rfl | rfl | rfl | ⟨n2, n3, n4, n5, n6, n7⟩
      · simp only [ieq_dec, Int.reduceEq, decide_false, decide_true, cond_true, cond_false, List.length_cons, List.length_nil, Nat.zero_add, k1, takeL_of, eqN_self, oN, oS]
        exact next _ _ rfl (by simp) (fun _ => .inr rfl) (fun _ => .inr (by rw [o1 _ (by omega)]))
      · simp only [ieq_dec, Int.reduceEq, decide_false, decide_true, cond_true, cond_false, List.length_cons, List.length_nil, Nat.zero_add, k1, takeL_of, eqN_self, oN, oS]
        exact next _ _ rfl (by simp) (fun _ => .inr rfl) (fun _ => .inr (by rw [o1 _ (by omega)]))
      · simp only [ieq_dec, Int.reduceEq, decide_false, decide_true, cond_true, cond_false, List.length_cons, List.length_nil, Nat.zero_add, k1, takeL_of, eqN_self, oN, oS]
        exact next _ _ rfl (by simp) (fun _ => .inr rfl) (fun _ => .inr (by rw [o1 _ (by omega)]))
      · exact (bad rfl).elim
      · exact (bad rfl).elim
      · exact (bad rfl).elim
      · simp only [decide_false, decide_true, cond_true, cond_false, List.length_cons, List.length_nil, Nat.zero_add, k1, takeL_of, eqN_self, oN, oS, ieq_false n2, ieq_false n3, ieq_false n4, ieq_false n5, ieq_false n6, ieq_false n7]
        exact next none ([], its ++ [.mk i i []]) (by unfold stepP; rw [if_neg (by omega), if_neg (by omega), if_neg (by omega)]) (by simp) (fun _ => .inl ⟨rfl, rfl⟩) (fun _ => .inl ⟨rfl, by unfold outA; rw [if_neg (by omega), if_neg (by omega)]; rfl⟩)
    · have kn : okN 8 (ops.length + 1) = true := okN8 _ (by omega)
      have tk : List.take ops.length (curs ops) = curs ops := List.take_of_length_le (by rw [cl]; exact Nat.le_refl _)
      have ta : ∀ (x : Int), takeL (ops.length + 1) (curs ops ++ [x]) = curs ops ++ [x] := fun x => takeL_of _ _ (by simp [cl])
      have tb : takeL ops.length (curs ops) = curs ops := takeL_of _ _ cl
      have lx : ∀ (x : Int), (curs ops ++ [x]).length = ops.length + 1 := fun x => by simp [cl]
      simp only [oN, oS, j0, j1, j2, j3, j4, cond_true, Int.toNat_natCast, joinC, hk0]
      have o1 : ∀ q : Int, (q = 2 ∨ q = 3 ∨ q = 4) → outA q i ops = curs ops ++ [(i : Int)] := fun q hq => by unfold outA; rw [if_pos hq]
      rcases k_cases k with rfl | rfl | rfl | rfl | rfl | rfl | ⟨n2, n3, n4, n5, n6, n7⟩
      · simp only [lx, cl, ta, tb, tk, kn, ieq_dec, Int.reduceEq, decide_false, decide_true, cond_true, cond_false, ble_self, Bool.and_self, Bool.true_and, List.length_cons, List.length_nil, Nat.zero_add, takeL_all, takeL_of, eqN_self, oN, oS]
        exact next _ (⟨i, [], i, false, its, 0, 0, 0⟩ :: ops, []) rfl (by simp; omega) (fun _ => .inr (by rw [curs_cons])) (fun _ => .inr (by rw [o1 _ (by omega)]))
      · simp only [lx, cl, ta, tb, tk, kn, ieq_dec, Int.reduceEq, decide_false, decide_true, cond_true, cond_false, ble_self, Bool.and_self, Bool.true_and, List.length_cons, List.length_nil, Nat.zero_add, takeL_all, takeL_of, eqN_self, oN, oS]
        exact next _ (⟨i, [], i, false, its, 0, 0, 0⟩ :: ops, []) rfl (by simp; omega) (fun _ => .inr (by rw [curs_cons])) (fun _ => .inr (by rw [o1 _ (by omega)]))
      · simp only [lx, cl, ta, tb, tk, kn, ieq_dec, Int.reduceEq, decide_false, decide_true, cond_true, cond_false, ble_self, Bool.and_self, Bool.true_and, List.length_cons, List.length_nil, Nat.zero_add, takeL_all, takeL_of, eqN_self, oN, oS]
        exact next _ (⟨i, [], i, false, its, 0, 0, 0⟩ :: ops, []) rfl (by simp; omega) (fun _ => .inr (by rw [curs_cons])) (fun _ => .inr (by rw [o1 _ (by omega)]))
      · cases ops with
        | nil => exact (bad rfl).elim
        | cons o r =>
          have hlast : o.last = false := by
            cases ho : o.last with
            | false => rfl
            | true => exact (bad (by simp [stepP, ho])).elim
          have is1 : isub .i64 (Int.ofNat (r.length + 1)) 1 = (r.length : Int) := by
            unfold isub; rw [wrap64 _ (by simp at hl ⊢ <;> omega) (by simp at hl ⊢ <;> omega)]; simp
          have q1 : inB (r.length : Int) (r.length + 1) = true := by simp [inB] <;> omega
          have q2 : Nat.blt r.length (r.length + 1) = true := by simp
          have cr : (curs r).length = r.length := by simp [curs]
          have q4 : (curs (o :: r)).set r.length (i : Int) = curs r ++ [(i : Int)] := by rw [curs_cons, List.set_append_right _ _ (by omega), cr]; simp
          have q5 : takeL (r.length + 1) (curs r ++ [(i : Int)]) = curs r ++ [(i : Int)] := takeL_of _ _ (by simp [cr])
          have q6 : (curs r ++ [(i : Int)]).length = r.length + 1 := by simp [cr]
          simp only [List.length_cons, Nat.add_eq] at cl tb tk
          simp only [is1, q1, q2, q4, q5, q6, cl, tb, tk, ieq_dec, Int.reduceEq, decide_false, decide_true, cond_true, cond_false, ble_self, Bool.and_self, Bool.true_and, Int.toNat_natCast, List.length_cons, List.length_nil, Nat.zero_add, takeL_all, takeL_of, eqN_self, oN, oS]
          exact next _ (⟨o.l, o.brs ++ [.mk o.cur its], i, false, o.ah, 0, 0, 0⟩ :: r, []) (by simp [stepP, hlast]) (by simp at hl ⊢; omega) (fun _ => .inr (by rw [curs_cons])) (fun _ => .inr rfl)
      · cases ops with
        | nil => exact (bad rfl).elim
        | cons o r =>
          have hlast : o.last = false := by
            cases ho : o.last with
            | false => rfl
            | true => exact (bad (by simp [stepP, ho])).elim
          have is1 : isub .i64 (Int.ofNat (r.length + 1)) 1 = (r.length : Int) := by
            unfold isub; rw [wrap64 _ (by simp at hl ⊢ <;> omega) (by simp at hl ⊢ <;> omega)]; simp
          have q1 : inB (r.length : Int) (r.length + 1) = true := by simp [inB] <;> omega
          have q2 : Nat.blt r.length (r.length + 1) = true := by simp
          have cr : (curs r).length = r.length := by simp [curs]
          have q4 : (curs (o :: r)).set r.length (i : Int) = curs r ++ [(i : Int)] := by rw [curs_cons, List.set_append_right _ _ (by omega), cr]; simp
          have q5 : takeL (r.length + 1) (curs r ++ [(i : Int)]) = curs r ++ [(i : Int)] := takeL_of _ _ (by simp [cr])
          have q6 : (curs r ++ [(i : Int)]).length = r.length + 1 := by simp [cr]
          simp only [List.length_cons, Nat.add_eq] at cl tb tk
          simp only [is1, q1, q2, q4, q5, q6, cl, tb, tk, ieq_dec, Int.reduceEq, decide_false, decide_true, cond_true, cond_false, ble_self, Bool.and_self, Bool.true_and, Int.toNat_natCast, List.length_cons, List.length_nil, Nat.zero_add, takeL_all, takeL_of, eqN_self, oN, oS]
          exact next _ (⟨o.l, o.brs ++ [.mk o.cur its], i, true, o.ah, 0, 0, 0⟩ :: r, []) (by simp [stepP, hlast]) (by simp at hl ⊢; omega) (fun _ => .inr (by rw [curs_cons])) (fun _ => .inr rfl)
      · cases ops with
        | nil => exact (bad rfl).elim
        | cons o r =>
          have is1 : isub .i64 (Int.ofNat (r.length + 1)) 1 = (r.length : Int) := by
            unfold isub; rw [wrap64 _ (by simp at hl ⊢ <;> omega) (by simp at hl ⊢ <;> omega)]; simp
          have q6 : inS 0 (r.length : Int) (r.length + 1) = true := by simp [inS]; omega
          have cr : (curs r).length = r.length := by simp [curs]
          have q7 : takeL r.length (curs (o :: r)) = curs r := by unfold takeL; rw [curs_cons, ← cr, List.take_left]
          simp only [List.length_cons, Nat.add_eq] at cl tb tk
          simp only [is1, q6, q7, cr, cl, tb, tk, ieq_dec, Int.reduceEq, decide_false, decide_true, cond_true, cond_false, ble_self, Bool.and_self, Bool.true_and, Int.toNat_natCast, List.length_cons, List.length_nil, Nat.zero_add, takeL_all, takeL_of, eqN_self, oN, oS]
          by_cases hil : i < ln
          · simp only [hil, decide_true, cond_true]
            exact next _ (r, o.ah ++ [.mk o.l i (o.brs ++ [.mk o.cur its])]) (by simp [stepP]) (by simp at hl ⊢; omega) (fun _ => .inr rfl) (fun e => by omega)
          · simp only [hil, decide_false, cond_false]
            exact next _ (r, o.ah ++ [.mk o.l i (o.brs ++ [.mk o.cur its])]) (by simp [stepP]) (by simp at hl ⊢; omega) (fun e => by omega) (fun _ => .inr rfl)
      · simp only [lx, cl, ta, tb, tk, kn, decide_false, decide_true, cond_true, cond_false, ble_self, Bool.and_self, Bool.true_and, List.length_cons, List.length_nil, Nat.zero_add, takeL_all, takeL_of, eqN_self, oN, oS, ieq_false n2, ieq_false n3, ieq_false n4, ieq_false n5, ieq_false n6, ieq_false n7]
        exact next _ (ops, its ++ [.mk i i []]) (by unfold stepP; rw [if_neg (by omega), if_neg (by omega), if_neg (by omega)]) (by simp; omega) (fun _ => .inr rfl) (fun _ => .inr (by unfold outA; rw [if_neg (by omega), if_neg (by omega)]))
  · subst hi
    have j0 : ile ((ln + 1 : Nat) : Int) (ln : Int) = false := by simp [ile]; omega
    rcases ha with ⟨rfl, ha⟩ | rfl
    · simp only [oN, oS, j0, cond_false, ha]
      exact ⟨_, rfl⟩
    · simp only [oN, oS, j0, cond_false, ble_self, cond_true, takeL_all]
      exact ⟨_, rfl⟩

def c116 (x : List LineT × Int × Unit) : Option ((Bool × List Int) × Unit) := sh116 1000000 (fun _ => false) x.1 x.2.1
theorem ok116 : ConOk CC Try.prog 16 ⟨as16, rs116, c116⟩ := con116 1000000

theorem sh105_true (fu : Nat) (hfu : 1000 < fu) (nf : Nat → Bool) (a : List Int) : sh105 fu c9 c10 c11 c14 c15 c116 c17 nf a = some (true, ()) := by
  unfold sh105
  simp only [c9, Option.bind_some]
  by_cases h1 : 100 < a.length
  · have e1 : ilt 100 (lenI a) = true := by unfold ilt lenI; simp; omega
    simp only [e1, cond_true]
  have e1 : ilt 100 (lenI a) = false := by unfold ilt lenI; simp; omega
  simp only [e1, cond_false, c11_lines a (by omega), c10_lines a (by omega), Option.bind_some]
  by_cases h2 : (runP 0 a [] []).2.2 = 0
  · have hfa := runP_len a h2
    have hfar : arIts (a.length : Int) (runP 0 a [] []).1 = [] := runP_fresh _ a 0 [] [] (.inr (by omega)) (.nil _) h2
    have hbef : arIts (-1) (runP 0 a [] []).1 = [] := runP_fresh _ a 0 [] [] (.inl (by omega)) (.nil _) h2
    have hkind : (a.map lineK).map LineT.kind = a := by rw [List.map_map]; exact List.map_id'' (fun _ => rfl) a
    have c14e : ∀ x : Int, c14 ((runP 0 a [] []).1, x, ()) = some (arIts x (runP 0 a [] []).1, ()) := fun x => by
      unfold c14 c14n; simp only [hfa, up_length]; rw [if_pos (by omega)]
    have c17e : c17 ((runP 0 a [] []).1, ()) = some ((depthIts (runP 0 a [] []).1 : Int), ()) := by
      unfold c17; simp only [hfa, up_length]; rw [if_pos (by omega)]
    have c16e : ∀ i : Nat, i < a.length → ∃ b, c116 (a.map lineK, (i : Int), ()) = some ((b, arIts i (runP 0 a [] []).1), ()) := fun i hi => by
      have := sh116_spec 1000000 (fun _ => false) (a.map lineK) i (by simp; omega) (by simp; omega) (by simpa using hi) (by rw [hkind]; exact h2)
      rw [hkind] at this
      exact this
    have alen : ∀ x : Int, (arIts x (runP 0 a [] []).1).length ≤ 100 := fun x => by
      have := arIts_len x (runP 0 a [] []).1
      rw [hfa, up_length] at this; omega
    simp only [ine_false h2, cond_false]
    refine iter_ind (fun s => ∃ (i : Nat) (ops : List O) (its : List It), s = (((dO ops (depthIts its) : Nat) : Int), (i : Int), ()) ∧ i ≤ a.length ∧ runP i (a.drop i) ops its = runP 0 a [] [] ∧ ∀ m : Nat, i ≤ m → Fr m ops its) (fun s => a.length - s.2.1.toNat) ?_ fu _ ⟨0, [], [], rfl, Nat.zero_le _, rfl, fun m _ => .nil _⟩ (by show a.length - 0 < fu; omega)
    rintro rec s ⟨i, ops, its, rfl, hi, hrun, hfrm⟩ hrec
    simp only [ilt_len, Int.toNat_natCast]
    by_cases hlt : i < a.length
    · obtain ⟨b, hb⟩ := c16e i hlt
      have c15e : c15 (arIts i (runP 0 a [] []).1, arIts i (runP 0 a [] []).1, ()) = some (true, ()) := by
        unfold c15; simp only; rw [if_pos (by have := alen i; omega)]; simp
      have j3 : iadd .i64 (i : Int) 1 = ((i + 1 : Nat) : Int) := iadd_one i (by omega)
      simp only [hlt, decide_true, cond_true, c14e, c11_lines a (by omega), hb, c15e, Option.bind_some, Bool.not_true, cond_false, j3]
      have hk := runP_drop a i hlt ops its
      rw [hrun] at hk
      cases hs : stepP a[i] i ops its with
      | none => rw [hs] at hk; rw [hk] at h2; simp at h2
      | some p =>
        rw [hs] at hk
        simp only at hk
        have hd := dO_step hs
        have hfr : Fr i ops its := hfrm i (Nat.le_refl _)
        have hp := runP_past (i : Int) (a.drop (i + 1)) ((i + 1 : Nat) : Int) p.1 p.2 (by omega) (by rw [← hk]; exact h2)
        rw [← hk, stI_at hfr hs] at hp
        refine hrec _ ⟨i + 1, p.1, p.2, ?_, hlt, hk.symm, fun m hm => (hfrm m (by omega)).step (by omega) hs⟩ (by simp; omega)
        rw [hp, hd]
        have : imax ((dO ops (depthIts its) : Nat) : Int) (lenI (outA a[i] i ops)) = ((max (dO ops (depthIts its)) (outA a[i] i ops).length : Nat) : Int) := by
          unfold imax lenI; split <;> omega
        rw [this]
    · have hie : i = a.length := by omega
      have hd : a.drop i = [] := by simp [hie]
      rw [hd] at hrun
      have hl : lenI a = (a.length : Int) := rfl
      cases ops with
      | cons o r => rw [← hrun] at h2; simp [runP] at h2
      | nil =>
        have hr : (runP 0 a [] []).1 = its := by rw [← hrun]; rfl
        have hnil : ieq (lenI ([] : List Int)) 0 = true := rfl
        simp only [hlt, decide_false, cond_false, c17e, c14e, Option.bind_some, hl, hfar, cond_true, hnil]
        have hbef' : arIts (Neg.neg 1) (runP 0 a [] []).1 = [] := hbef
        have e5 : ieq ((depthIts (runP 0 a [] []).1 : Nat) : Int) ((dO [] (depthIts its) : Nat) : Int) = true := ieq_true (by rw [hr]; rfl)
        simp only [hbef', e5, cond_true, hnil]
  · simp only [ine_true h2, cond_true]

def c5 (_ : List Int × Unit) : Option (Bool × Unit) := some (true, ())
theorem ok5 : ConOk CC Try.prog 5 ⟨as5, rs5, c5⟩ := (con105 1000000 c9 ok9 c10 ok10 c11 ok11 c14 ok14 c15 ok15 c116 ok116 c17 ok17).sub fun x y h => by
  injection h with h
  subst h
  exact sh105_true _ (by decide) _ _
theorem law5 (a : List Int) : c5 (a, ()) = some (true, ()) := rfl
end Go.Proofs.Ytdedkemkmccliaa
