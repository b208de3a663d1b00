/-
  AL, part 12: calls; EVERY OPERATION IS SOUND. General: no program in sight.
-/
import Derived.Test.YtdedkemkmccliaaAl11
set_option linter.unusedVariables false
set_option linter.unusedSimpArgs false
namespace Go.Al
open Go.RowKit

section
variable {P : Program} {L : Pol} {X : Cx} {g : Gh} {w : World} {a : Act} {o : Oper} {e : Env} {st : S} {K : V → S → Prop} {KP : List PanicEntry → S → Prop}

theorem RV1_named {x : V} {u : Value} (h : RV1 g.bare w x u) : RV1 g w x u := let ⟨us, h1, h2⟩ := h; ⟨us, RC_named g w x us h1, h2⟩
theorem RVs_named {xs : List V} {us : List Value} (h : RVs g.bare w xs us) : RVs g w xs us := by
  induction h with
  | nil => exact .nil
  | cons h _ ih => exact .cons (RV1_named h) ih
theorem RV_named {x : V} {u : Value} (h : RV g.bare w x u) : RV g w x u := by
  cases x with
  | any => trivial
  | tup vs => obtain ⟨us, h1, h2⟩ := h; exact ⟨us, RVs_named h1, h2⟩
  | _ => exact RV1_named h

theorem args_bare (hr : Rel X g e st a w) : ∀ (xs : List Operand), (∀ x ∈ xs.map e.ev, allOne x.flat) → RVs g.bare w ((xs.map e.ev).map V.untag) (xs.map a.eval)
  | [], _ => .nil
  | x :: xs, h => by
    obtain ⟨us, h1, _, h3⟩ := RV_cells (hr.ev x) (h _ (by simp))
    exact .cons ⟨us, RC_untag_bare h1 (h _ (by simp)), by rw [h3, pack_untag]⟩ (args_bare hr xs fun y hy => h y (by simp only [List.map_cons, List.mem_cons]; exact .inr hy))

theorem RVs_append {xs ys : List V} {us vs : List Value} (h : RVs g w xs us) (h' : RVs g w ys vs) : RVs g w (xs ++ ys) (us ++ vs) := by
  induction h with
  | nil => exact h'
  | cons h _ ih => exact .cons h ih

theorem RVs_of_RCs_one : ∀ {xs : List V} {us : List Value}, allOne xs → RCs g w xs us → RVs g w xs us
  | [], us, _, h => by simp only [RCs] at h; subst h; exact .nil
  | x :: xs, us, h1, h => by
    simp only [allOne, List.all_cons, Bool.and_eq_true] at h1
    simp only [RCs] at h
    obtain ⟨u1, u2, rfl, h2, h3⟩ := h
    obtain ⟨u, rfl⟩ := RC_single h2 h1.1
    refine .cons ⟨[u], h2, ?_⟩ (RVs_of_RCs_one h1.2 h3)
    cases x <;> simp [V.isOne] at h1 <;> rfl

theorem args_raw (hr : Rel X g e st a w) : ∀ (xs : List Operand), (∀ x ∈ xs.map e.ev, allOne x.flat) → RVs g w (xs.map e.ev) (xs.map a.eval)
  | [], _ => .nil
  | x :: xs, h => by
    obtain ⟨us, h1, _, h3⟩ := RV_cells (hr.ev x) (h _ (by simp))
    exact .cons ⟨us, h1, h3⟩ (args_raw hr xs fun y hy => h y (by simp only [List.map_cons, List.mem_cons]; exact .inr hy))

theorem RVs_sub {xs as : List V} (h : Sub xs as) : ∀ {us : List Value}, RVs g w xs us → RVs g.bare w (xs.map V.untag) us → RVs g w as us := by
  induction h with
  | nil => intro us h _; exact h
  | keep _ ih =>
    intro us h h'
    cases h with
    | cons p q => cases h' with
      | cons p' q' => exact .cons p (ih q q')
  | drop _ ih =>
    intro us h h'
    cases h with
    | cons p q => cases h' with
      | cons p' q' => exact .cons (RV1_named p') (ih q q')

/-- What a contract without memory gives to a caller. -/
theorem pure_call (hr : Rel X g e st a w) {f : FuncId} {args : List V} {r : V} (h : PureF P f args r) {vs : List Value} (hv : RVs g.bare w args vs) :
    Calls P f vs.toArray w fun en w' => ∃ v g', en = .returned v ∧ Out X.B g w g' st w' ∧ RV g' w' r v := by
  refine (h g.wm w vs hr.inv.fresh hv).mono ?_
  rintro en w' ⟨v, wm', rfl, h1, h2, h3⟩
  have hbase := hr.inv.base
  have hl : Later g w ⟨wm', g.tb⟩ w' := ⟨h2.later.wm, fun _ _ e => e, h2.later.cell⟩
  refine ⟨v, ⟨wm', g.tb⟩, rfl, ⟨⟨hl, h2.below.mono hbase, h2.fz, fun b hb => h2.wmB b (by omega)⟩, hr.inv.grow hl h2.below.size (fun b hb => h2.below.block b hb) (fun b hb => h2.wmB b hb) h1 rfl⟩, RV_named (g := ⟨wm', g.tb⟩) h3⟩

theorem run_callFunc {n : FuncId} (h : isCode P n = true) (args : Array Value) : (callFunc n args).run P w = .ok (.enter n args) w := by
  unfold isCode at h
  cases hf : P.funcs[n]? with
  | none => simp [hf] at h
  | some fn =>
    simp only [hf, Bool.and_eq_true, bne_iff_ne, ne_eq] at h
    have hb : fn.body.isNone = false := by cases hq : fn.body <;> simp [hq] at h ⊢
    have hb' : fn.body ≠ none := by intro e; rw [e] at hb; cases hb
    simp [callFunc, hf, h.1, hb']

theorem call_sound {c : Call} {f : Operand} (hop : o.op = .call c) (hc : c.callee = .value f) (hr : Rel X g e st a w) (h : aCall P L (e.ev f) (c.args.toList.map e.ev) st K KP) :
    o.wp P a w (OpOut X g w o a K) (OpPan X g w a KP) := by
  unfold aCall at h
  split at h
  · rename_i n caps hfe
    obtain ⟨hcode, hargs0, hcap, h⟩ := h
    have hargs : ∀ x ∈ c.args.toList.map e.ev, allOne x.flat := fun x hx => List.all_eq_true.1 hargs0 x hx
    have hf := hr.ev f
    rw [hfe] at hf
    obtain ⟨ds, hds, hfv⟩ := RV_clo hf
    have hrun : (execOp a.eval o).run P w = .ok (.enter n ((c.args.toList.map a.eval ++ ds).toArray)) w := by
      unfold execOp
      rw [hop]
      simp only [resolve, hc, hfv, Deferred.ofValue, Sem.run_bind, Sem.run_pure, Result.andThen_ok, invoke]
      rw [run_callFunc hcode]
      congr 2
      apply Array.ext'
      simp
    have hav := args_bare hr c.args.toList hargs
    unfold Oper.wp Oper.upon
    rw [hrun]
    simp only
    split at h
    · obtain ⟨rfl, r, hp, hk⟩ := h
      simp only [RCs] at hds
      subst hds
      rw [List.append_nil]
      refine (pure_call hr hp hav).mono ?_
      rintro en w' ⟨v, g', rfl, h1, h2⟩
      exact ⟨v, r, g', st, rfl, h1, h2, hk⟩
    · obtain ⟨as, hsub, h⟩ := h
      have hvs : RVs g w (as ++ caps) (c.args.toList.map a.eval ++ ds) := by
        exact RVs_append (RVs_sub hsub (args_raw hr c.args.toList hargs) hav) (RVs_of_RCs_one hcap (RCs_named g w _ _ hds))
      refine (h X.B g w _ hr.inv hvs).mono ?_
      rintro en w' ⟨g', st', h1, h2, h3⟩
      cases en with
      | returned v => obtain ⟨r, h4, h5⟩ := h3; exact ⟨v, r, g', st', rfl, ⟨h1, h2⟩, h4, h5⟩
      | panicked ch => exact ⟨ch, g', st', rfl, rfl, ⟨h1, h2⟩, h3⟩
      | outgrown => exact h3.elim
  · cases h

theorem parts_of (hr : Rel X g e st a w) : ∀ (ps : List (Nat × Operand)), Parts g w (ps.map fun p => (p.1, e.ev p.2)) (ps.map fun p => (p.1, a.eval p.2))
  | [] => .nil
  | p :: ps => .cons (hr.ev p.2) (parts_of hr ps)

theorem aop_sound (h : aop P L e st o K KP) (hr : Rel X g e st a w) : o.wp P a w (OpOut X g w o a K) (OpPan X g w a KP) := by
  unfold aop at h
  split at h
  · rename_i x hop
    exact still_op hr.inv (by unfold execOp; rw [hop]; rfl) (hr.ev x) h
  · rename_i x hop
    exact still_op hr.inv (by unfold execOp; rw [hop]; rfl) (hr.ev x) h
  · rename_i c x y hop
    obtain ⟨v, t, hk, hc, hv⟩ := aPick_spec h (hr.ev c) (hr.ev x) (hr.ev y)
    exact still_op hr.inv (u := if t then a.eval x else a.eval y) (by unfold execOp; rw [hop]; simp [hc, asBool]) hv hk
  · rename_i op t x y yt hop
    obtain ⟨v, hk, h1, hrun⟩ := aBin_spec (P := P) h (hr.ev x) (hr.ev y) x y
    exact still_op hr.inv (by unfold execOp; rw [hop]; exact run_v hrun) (RV_at_mk h1) hk
  · rename_i op t x hop
    obtain ⟨v, hk, h1, hrun⟩ := aUn_spec (P := P) h (hr.ev x)
    exact still_op hr.inv (by unfold execOp; rw [hop]; exact run_v hrun) (RV_at_mk h1) hk
  · rename_i x i hop
    obtain ⟨v, u, hk, hv, hrun⟩ := aExtract_spec (P := P) h (hr.ev x)
    exact still_op hr.inv (by unfold execOp; rw [hop]; exact run_v hrun) hv hk
  · rename_i t x f hop
    obtain ⟨v, u, hk, hv, hrun⟩ := aField_spec h (hr.ev x)
    exact still_op hr.inv (by unfold execOp; rw [hop]; exact run_v hrun) hv hk
  · rename_i t x f hop
    obtain ⟨v, u, hk, hv, hrun⟩ := aFieldAddr_spec h (hr.ev x)
    exact still_op hr.inv (by unfold execOp; rw [hop]; exact run_v hrun) hv hk
  · rename_i t x i hop
    obtain ⟨v, u, hk, hv, hrun⟩ := aIndexAddr_spec h (hr.ev x) (hr.ev i)
    exact still_op hr.inv (by unfold execOp; rw [hop]; exact run_v hrun) hv hk
  · rename_i t x i hop
    obtain ⟨v, u, hk, hv, hrun⟩ := aIndex_spec h (hr.ev x) (hr.ev i)
    exact still_op hr.inv (by unfold execOp; rw [hop]; exact run_v hrun) hv hk
  · rename_i t x hop
    obtain ⟨v, u, hk, hv, hrun⟩ := aLoad_spec h hr.inv (hr.ev x)
    exact still_op hr.inv (by unfold execOp; rw [hop]; exact run_v hrun) hv hk
  · rename_i t x y hop
    obtain ⟨st', w', hk, ho, hrun⟩ := aStore_spec h hr.inv (hr.ev x) (hr.ev y)
    exact wp_of_skip (by unfold execOp; rw [hop]; exact run_u hrun) ⟨undef, .any, g, st', rfl, ho, trivial, hk⟩
  · rename_i t hop
    obtain ⟨v, u, g', st', w', hk, ho, hv, hrun⟩ := aAlloc_spec h hr.inv (.tuple #[])
    exact wp_of_value (by unfold execOp; rw [hop]; exact run_v hrun) ⟨u, v, g', st', rfl, ho, hv, hk⟩
  · rename_i t x hop
    obtain ⟨v, u, g', st', w', hk, ho, hv, hrun⟩ := aBox_spec (P := P) (t := t) h hr.inv (hr.ev x)
    exact wp_of_value (by unfold execOp; rw [hop]; exact run_v hrun) ⟨u, v, g', st', rfl, ho, hv, hk⟩
  · rename_i t parts hop
    obtain ⟨v, u, hk, hv, hrun⟩ := aBuild_spec h (parts_of hr parts.toList)
    refine still_op hr.inv ?_ hv hk
    unfold execOp; rw [hop]
    refine run_v ?_
    have : (parts.map fun x => (x.1, a.eval x.2)) = (parts.toList.map fun p => (p.1, a.eval p.2)).toArray := by apply Array.ext'; simp
    rw [← hrun, ← this]
  · rename_i t n parts hop
    obtain ⟨v, u, g', st', w', hk, ho, hv, hrun⟩ := aBuildSlice_spec h hr.inv (parts_of hr parts.toList)
    refine wp_of_value ?_ ⟨u, v, g', st', rfl, ho, hv, hk⟩
    unfold execOp; rw [hop]
    refine run_v ?_
    have : (parts.map fun x => (x.1, a.eval x.2)) = (parts.toList.map fun p => (p.1, a.eval p.2)).toArray := by apply Array.ext'; simp
    rw [← hrun, ← this]
  · rename_i x hop
    obtain ⟨hk, ad, hu⟩ := aNilCheck_spec h (hr.ev x)
    refine still_op hr.inv (u := a.eval x) ?_ (hr.ev x) hk
    unfold execOp; rw [hop]; simp [hu]
  · rename_i t x lo hi mx hop
    obtain ⟨hmx, h⟩ := h
    have hmx' : mx = none := by simpa using hmx
    subst hmx'
    obtain ⟨v, u, hk, hv, hrun⟩ := aSlice_spec h (hr.ev x) (bound_ops hr lo) (bound_ops hr hi)
    exact still_op hr.inv (by unfold execOp; rw [hop]; exact run_v hrun) hv hk
  · rename_i c hop
    split at h
    · rename_i f hc
      exact call_sound hop hc hr h
    · rename_i b hc
      unfold aBuiltin at h
      have hex : ∀ {u w'}, (builtin b c.argTypes o.type (c.args.map fun | .const _ => true | _ => false) (c.args.toList.map a.eval).toArray).run P w = .ok (.value u) w' → (execOp a.eval o).run P w = .ok (.value u) w' := by
        intro u w' hh
        unfold execOp; rw [hop]
        simp only [resolve, hc, Sem.run_bind, Sem.run_pure, Result.andThen_ok, invoke]
        rw [← hh]
        congr 2
        apply Array.ext'; simp
      split at h
      · rename_i t ts x hts hargs
        have ha : ∃ ox, c.args.toList = [ox] ∧ e.ev ox = x := by
          cases hq : c.args.toList with
          | nil => simp [hq] at hargs
          | cons ox rest => cases rest with
            | nil => simp [hq] at hargs; exact ⟨ox, rfl, hargs⟩
            | cons _ _ => simp [hq] at hargs
        obtain ⟨ox, hox, rfl⟩ := ha
        obtain ⟨v, hk, h1, hrun⟩ := aLen_spec (P := P) h (hr.ev ox) ts o.type
        refine still_op hr.inv (hex ?_) (RV_at_mk h1) hk
        have e1 : c.argTypes = (t :: ts).toArray := by apply Array.ext'; simpa using hts
        rw [hox, e1]
        exact run_v hrun
      · rename_i x y hargs
        have ha : ∃ ox oy, c.args.toList = [ox, oy] ∧ e.ev ox = x ∧ e.ev oy = y := by
          cases hq : c.args.toList with
          | nil => simp [hq] at hargs
          | cons ox rest => cases rest with
            | nil => simp [hq] at hargs
            | cons oy rest => cases rest with
              | nil => simp [hq] at hargs; exact ⟨ox, oy, rfl, hargs.1, hargs.2⟩
              | cons _ _ => simp [hq] at hargs
        obtain ⟨ox, oy, hox, rfl, rfl⟩ := ha
        obtain ⟨v, hk, h1, hrun⟩ := aMax_spec (P := P) h (hr.ev ox) (hr.ev oy) c.argTypes o.type
        refine still_op hr.inv (hex ?_) (RV_at_mk h1) hk
        rw [hox]
        exact run_v hrun
      · rename_i t t2 x y hts hargs
        have ha : ∃ ox oy, c.args.toList = [ox, oy] ∧ e.ev ox = x ∧ e.ev oy = y := by
          cases hq : c.args.toList with
          | nil => simp [hq] at hargs
          | cons ox rest => cases rest with
            | nil => simp [hq] at hargs
            | cons oy rest => cases rest with
              | nil => simp [hq] at hargs; exact ⟨ox, oy, rfl, hargs.1, hargs.2⟩
              | cons _ _ => simp [hq] at hargs
        obtain ⟨ox, oy, hox, rfl, rfl⟩ := ha
        obtain ⟨v, u, g', st', w', hk, ho, hv, hrun⟩ := aAppend_spec (P := P) h hr.inv (hr.ev ox) (hr.ev oy) o.type
        refine wp_of_value (hex ?_) ⟨u, v, g', st', rfl, ho, hv, hk⟩
        have e1 : c.argTypes = #[t, t2] := by apply Array.ext'; simpa using hts
        have e2 : t2 = t := by
          unfold aAppend at h
          split at h
          · exact h.1
          · exact h.1
          · cases h
        subst e2
        rw [hox, e1]
        exact run_v hrun
      · cases h
    · cases h
  · cases h

end
end Go.Al
