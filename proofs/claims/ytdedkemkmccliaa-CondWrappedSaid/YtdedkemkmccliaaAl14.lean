/-
  AL, part 14: a function's contract out of its body. General: no program in sight.
-/
import Derived.Test.YtdedkemkmccliaaAl13
set_option linter.unusedVariables false
set_option linter.unusedSimpArgs false
namespace Go.Al
open Go.RowKit

def aResults (P : Program) : List ResultVar → Env → S → (List V → Prop) → Prop
  | [], _, _, K => K []
  | .tmp t :: rs, e, st, K => allOne (e.get t).flat ∧ aResults P rs e st fun xs => K ((e.get t).untag :: xs)
  | .cell p t :: rs, e, st, K => aLoad P st t (e.get p) fun v => allOne v.flat ∧ aResults P rs e st fun xs => K (v.untag :: xs)

def finV : List V → V
  | [x] => x
  | xs => .tup xs

def argsE : Nat → List V → Env
  | _, [] => []
  | n, x :: xs => (n, x) :: argsE (n + 1) xs

/-- What holds where a function ends. -/
def retE (P : Program) (rs : List ResultVar) (Q : Outc → S → Prop) : Exit → Env → S → Prop
  | .normal, e, st | .ret, e, st => aResults P rs e st fun xs => Q (.ret (finV xs)) st
  | .panic c, _, st => Q (.pan c) st
  | _, _, _ => False

/-- The same, of a contract over a store: results with their names; of the store what is wanted. -/
def aResultsR (P : Program) : List ResultVar → Env → S → (List V → Prop) → Prop
  | [], _, _, K => K []
  | .tmp t :: rs, e, st, K => allOne (e.get t).flat ∧ aResultsR P rs e st fun xs => K (e.get t :: xs)
  | .cell p t :: rs, e, st, K => aLoad P st t (e.get p) fun v => allOne v.flat ∧ aResultsR P rs e st fun xs => K (v :: xs)

def retER (P : Program) (rs : List ResultVar) (Q : Outc → S → Prop) : Exit → Env → S → Prop
  | .normal, e, st | .ret, e, st => aResultsR P rs e st fun xs => ∃ s0, st.sub s0 ∧ Q (.ret (finV xs)) s0
  | .panic c, _, st => Q (.pan c) st
  | _, _, _ => False

section
variable {P : Program} {X : Cx} {g : Gh} {w : World} {a : Act} {e : Env} {st : S}

theorem argsE_get : ∀ (xs : List V) (n k : Nat), (argsE n xs).get k = if n ≤ k ∧ k < n + xs.length then xs.getD (k - n) .any else .any
  | [], n, k => by simp [argsE, Env.get]
  | x :: xs, n, k => by
    simp only [argsE, Env.get]
    by_cases h : n = k
    · subst h; simp
    · rw [if_neg h, argsE_get xs (n + 1) k]
      by_cases h1 : n + 1 ≤ k ∧ k < n + 1 + xs.length
      · rw [if_pos h1, if_pos (by simp; omega)]
        have : k - n = (k - (n + 1)) + 1 := by omega
        rw [this]; simp
      · rw [if_neg h1, if_neg (by simp; omega)]

theorem enter_rel {B N : Nat} {args : List V} {vs : List Value} (hi : Inv B g st w) (hv : RVs g w args vs) (hN : args.length ≤ N) :
    Rel ⟨B, N⟩ g (argsE 0 args) st { tmps := vs.toArray ++ Array.replicate (N - vs.toArray.size) undef, defers := [] } w := by
  have hl := hv.length
  refine ⟨hi, fun k => ?_, by simp; omega, rfl⟩
  rw [argsE_get]
  split
  · rename_i h
    have hk : k < args.length := by omega
    obtain ⟨u, hu, hr⟩ := hv.get k args[k] (List.getElem?_eq_getElem hk)
    have hk2 : k < vs.length := by omega
    have e1 : args.getD (k - 0) .any = args[k] := by simp [hk]
    rw [e1]
    have e2 : (vs.toArray ++ Array.replicate (N - vs.toArray.size) undef).getD k undef = u := by
      rw [List.getElem?_eq_getElem hk2] at hu
      injection hu with hu
      rw [Array.getD_eq_getD_getElem?, Array.getElem?_append_left (by simpa using hk2)]
      simp [hk2, hu]
    rw [e2]
    exact RV.of_RV1 hr
  · trivial

theorem RVs_bare_mk {x : V} {u : Value} (h : RV g w x u) (h1 : allOne x.flat) : RV1 g.bare w x.untag u := by
  obtain ⟨us, h2, _, h4⟩ := RV_cells h h1
  exact ⟨us, RC_untag_bare h2 h1, by rw [h4, pack_untag]⟩

def resOf (tmps : Array Value) : ResultVar → Sem Value
  | .tmp t => pure (tmps.getD t undef)
  | .cell p t => do loadVar t (← asAddr (tmps.getD p undef))

theorem aResults_spec : ∀ {rs : List ResultVar} {K : List V → Prop} (_ : aResults P rs e st K) (_ : Rel X g e st a w), ∃ xs us, K xs ∧ RVs g.bare w xs us ∧
    (rs.mapM (resOf a.tmps)).run P w = .ok us w
  | [], K, h, hr => ⟨[], [], h, .nil, by simp⟩
  | .tmp t :: rs, K, h, hr => by
    obtain ⟨h1, h2⟩ := h
    obtain ⟨xs, us, k1, k2, k3⟩ := aResults_spec h2 hr
    refine ⟨_, a.tmps.getD t undef :: us, k1, .cons (RVs_bare_mk (hr.env t) h1) k2, ?_⟩
    simp only [List.mapM_cons, Sem.run_bind, resOf, Sem.run_pure, Result.andThen_ok]
    rw [k3]; rfl
  | .cell p t :: rs, K, h, hr => by
    obtain ⟨v, u, ⟨h1, h2⟩, hv, hrun⟩ := aLoad_spec h hr.inv (hr.env p)
    obtain ⟨xs, us, k1, k2, k3⟩ := aResults_spec h2 hr
    have hptr : ∃ ad, a.tmps.getD p undef = .pointer (some ad) := by
      have hp := hr.env p
      replace h : aLoad P st t (e.get p) (fun v => allOne v.flat ∧ aResults P rs e st fun xs => K (v.untag :: xs)) := h
      unfold aLoad at h
      split at h
      · rename_i y hy; rw [hy] at hp; obtain ⟨b, o, ds, e1, _⟩ := RV_rptr hp; exact ⟨_, e1⟩
      · rename_i b o hy; rw [hy] at hp; exact ⟨_, RV_at hp⟩
      · cases h
    obtain ⟨ad, had⟩ := hptr
    refine ⟨_, u :: us, k1, .cons (RVs_bare_mk hv h1) k2, ?_⟩
    rw [had] at hrun
    simp only [Instr.loadAt, Instr.sureAddr, Sem.run_bind, Sem.run_pure, Result.andThen_ok] at hrun
    simp only [List.mapM_cons, Sem.run_bind, resOf, had, asAddr, Sem.run_pure, Result.andThen_ok, hrun]
    rw [k3]; rfl

theorem RV_fin {xs : List V} {us : List Value} (h : RVs g w xs us) : RV g w (finV xs) (if h : us.toArray.size = 1 then us.toArray[0] else .tuple us.toArray) := by
  cases h with
  | nil => simp [finV]; exact ⟨[], .nil, rfl⟩
  | cons h hs =>
    cases hs with
    | nil => simp [finV]; exact RV.of_RV1 h
    | cons h2 hs =>
      simp [finV]
      exact ⟨_, .cons h (.cons h2 hs), rfl⟩

theorem results_run {fn : Func} {us : List Value} (h : (fn.results.toList.mapM (resOf a.tmps)).run P w = .ok us w) :
    (results fn a.tmps).run P w = .ok (if h : us.toArray.size = 1 then us.toArray[0] else .tuple us.toArray) w := by
  have e : results fn a.tmps = (do let vs ← fn.results.mapM (resOf a.tmps); pure (if h : vs.size = 1 then vs[0] else .tuple vs)) := by
    unfold results
    congr 1
  rw [e, Array.mapM_eq_mapM_toList]
  have : (Functor.map List.toArray (fn.results.toList.mapM (resOf a.tmps))).run P w = .ok us.toArray w := by
    rw [← bind_pure_comp, Sem.run_bind, h]; rfl
  rw [Sem.run_bind, this]
  rfl

theorem RVs_mk_raw {x : V} {u : Value} (h : RV g w x u) (h1 : allOne x.flat) : RV1 g w x u := by
  obtain ⟨us, h2, _, h4⟩ := RV_cells h h1
  exact ⟨us, h2, h4⟩

theorem aResultsR_spec : ∀ {rs : List ResultVar} {K : List V → Prop} (_ : aResultsR P rs e st K) (_ : Rel X g e st a w), ∃ xs us, K xs ∧ RVs g w xs us ∧
    (rs.mapM (resOf a.tmps)).run P w = .ok us w
  | [], K, h, hr => ⟨[], [], h, .nil, by simp⟩
  | .tmp t :: rs, K, h, hr => by
    obtain ⟨h1, h2⟩ := h
    obtain ⟨xs, us, k1, k2, k3⟩ := aResultsR_spec h2 hr
    refine ⟨_, a.tmps.getD t undef :: us, k1, .cons (RVs_mk_raw (hr.env t) h1) k2, ?_⟩
    simp only [List.mapM_cons, Sem.run_bind, resOf, Sem.run_pure, Result.andThen_ok]
    rw [k3]; rfl
  | .cell p t :: rs, K, h, hr => by
    obtain ⟨v, u, ⟨h1, h2⟩, hv, hrun⟩ := aLoad_spec h hr.inv (hr.env p)
    obtain ⟨xs, us, k1, k2, k3⟩ := aResultsR_spec h2 hr
    have hptr : ∃ ad, a.tmps.getD p undef = .pointer (some ad) := by
      have hp := hr.env p
      replace h : aLoad P st t (e.get p) (fun v => allOne v.flat ∧ aResultsR P rs e st fun xs => K (v :: xs)) := h
      unfold aLoad at h
      split at h
      · rename_i y hy; rw [hy] at hp; obtain ⟨b, o, ds, e1, _⟩ := RV_rptr hp; exact ⟨_, e1⟩
      · rename_i b o hy; rw [hy] at hp; exact ⟨_, RV_at hp⟩
      · cases h
    obtain ⟨ad, had⟩ := hptr
    refine ⟨_, u :: us, k1, .cons (RVs_mk_raw hv h1) k2, ?_⟩
    rw [had] at hrun
    simp only [Instr.loadAt, Instr.sureAddr, Sem.run_bind, Sem.run_pure, Result.andThen_ok] at hrun
    simp only [List.mapM_cons, Sem.run_bind, resOf, had, asAddr, Sem.run_pure, Result.andThen_ok, hrun]
    rw [k3]; rfl

/-- A contract over a store, out of the body. -/
theorem FnC_intro {f : FuncId} {fn : Func} {c : Code} {args : List V} {Q : Outc → S → Prop} {N : Nat} {rs : List ResultVar} (hf : P.funcs[f]? = some fn) (hb : fn.body = some c) (hn : fn.ntmps = N) (hrs : fn.results = rs.toArray) (hN : args.length ≤ N)
    (h : ∀ B, awp P ⟨B, N⟩ c (retER P rs Q) (argsE 0 args) st) : FnC P f args st Q := by
  intro B g w vs hi hv
  refine calls_of_wp hf hb ?_
  have hr := enter_rel (N := N) hi hv hN
  rw [hn]
  refine wp_mono (h B g _ w hr) ?_
  rintro ex a' w' ⟨g', e', st', h1, h2, h3⟩
  have hrs' : fn.results.toList = rs := by rw [hrs]
  subst hrs'
  have hret : aResultsR P fn.results.toList e' st' (fun xs => ∃ s0, st'.sub s0 ∧ Q (.ret (finV xs)) s0) → a'.defers = [] ∧ ∃ v, (results fn a'.tmps).run P w' = .ok v w' ∧
      ∃ g' st', Step B g w g' w' ∧ Inv B g' st' w' ∧ ∃ r, RV g' w' r v ∧ Q (.ret r) st' := by
    intro h3
    obtain ⟨xs, us, ⟨s0, k0, k1⟩, k2, k3⟩ := aResultsR_spec h3 h2
    exact ⟨h2.df, _, results_run k3, g', s0, h1, h2.inv.weaken k0, _, RV_fin k2, k1⟩
  cases ex with
  | normal => exact hret h3
  | ret => exact hret h3
  | panic c => exact ⟨h2.df, g', st', h1, h2.inv, h3⟩
  | exit id => exact h3.elim
  | goto l => exact h3.elim
  | outgrown => exact h3.elim

/-- A contract without memory, out of the body. -/
theorem PureF_intro {f : FuncId} {fn : Func} {c : Code} {args : List V} {r : V} {N : Nat} {rs : List ResultVar} (hf : P.funcs[f]? = some fn) (hb : fn.body = some c) (hn : fn.ntmps = N) (hrs : fn.results = rs.toArray) (hN : args.length ≤ N)
    (h : ∀ B, awp P ⟨B, N⟩ c (retE P rs fun oc _ => oc = .ret r) (argsE 0 args) ⟨[], [], 0⟩) : PureF P f args r := by
  intro wm w vs hwm hv
  refine calls_of_wp hf hb ?_
  have hi : Inv w.heap.size ⟨wm, fun _ => none⟩ ⟨[], [], 0⟩ w :=
    ⟨Nat.le_refl _, (fun b cs k hl => nomatch hl), (fun t ht => nomatch ht), (fun t ht => nomatch ht), (fun t ht => nomatch ht), List.nodup_nil, hwm, fun _ _ => rfl⟩
  have hr := enter_rel (N := N) hi hv hN
  rw [hn]
  refine wp_mono (h _ _ _ w hr) ?_
  rintro ex a' w' ⟨g', e', st', h1, h2, h3⟩
  have hrs' : fn.results.toList = rs := by rw [hrs]
  subst hrs'
  have hret : aResults P fn.results.toList e' st' (fun xs => (Outc.ret (finV xs)) = .ret r) → a'.defers = [] ∧ ∃ v, (results fn a'.tmps).run P w' = .ok v w' ∧
      ∃ v_1 wm', Ending.returned v = .returned v_1 ∧ (∀ b, w'.heap.size ≤ b → wm' b = 0) ∧ Step w.heap.size ⟨wm, fun _ => none⟩ w ⟨wm', fun _ => none⟩ w' ∧ RV ⟨wm', fun _ => none⟩ w' r v_1 := by
    intro h3
    obtain ⟨xs, us, k1, k2, k3⟩ := aResults_spec h3 h2
    injection k1 with k1
    subst k1
    exact ⟨h2.df, _, results_run k3, _, g'.wm, rfl, h2.inv.fresh, ⟨⟨h1.later.wm, (fun _ _ e => nomatch e), h1.later.cell⟩, h1.below, h1.fz, h1.wmB⟩, RV_fin k2⟩
  cases ex with
  | normal => exact hret h3
  | ret => exact hret h3
  | panic c => cases h3
  | exit id => exact h3.elim
  | goto l => exact h3.elim
  | outgrown => exact h3.elim

end
end Go.Al
