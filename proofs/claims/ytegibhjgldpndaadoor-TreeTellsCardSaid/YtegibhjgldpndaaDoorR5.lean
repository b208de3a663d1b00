/-
  The contract of Find: the parts of a kind, in order.
-/
import Derived.Test.YtegibhjgldpndaaDoorR4
set_option linter.unusedVariables false
set_option linter.unusedSimpArgs false
namespace Go.Proofs.YtegibhjgldpndaaDoor
open Go.Al Go.Den Go.RowKit Go.Shelf

theorem row_pure {wm : Nat → Nat} {w W' : World} (hwm : ∀ b, w.heap.size ≤ b → wm b = 0) (hbel : Below w.heap.size w W') {n bx : Nat} {v : Value} {ds : List Value} (hrow : Row W' w.heap.size bx v n ds)
    (es : List V) (hl : n = es.length) (hu : ∀ x ∈ es, x.size = 3) (hrc : RCs ⟨wm, fun _ => none⟩ w es ds) :
    ∃ wm', (∀ b, W'.heap.size ≤ b → wm' b = 0) ∧ Step w.heap.size ⟨wm, fun _ => none⟩ w ⟨wm', fun _ => none⟩ W' ∧ RV ⟨wm', fun _ => none⟩ W' (.lst (tagOf es) es) v := by
  subst hl
  obtain ⟨q1, q2⟩ := step_of_below hwm hbel
  rcases hrow with ⟨h0, rfl, rfl⟩ | ⟨g, cap, cur, el, rfl, hg, _, hgb, hn, hcs, htk, hdl, hnp, _⟩
  · have := List.length_eq_zero_iff.1 h0
    subst this
    refine ⟨wm, q1, q2, ?_⟩
    exact RV_lst_mk (by unfold RC; exact .inl ⟨rfl, rfl, trivial⟩)
  · cases es with
    | nil => simp at hnp
    | cons x r =>
      have hgl := (Array.getElem?_eq_some_iff.1 hgb).1
      have hL : Later ⟨wm, fun _ => none⟩ w ⟨fun b => if b = g then ds.length else wm b, fun _ => none⟩ W' := by
        refine ⟨fun b => ?_, fun _ _ h => h, q2.later.cell⟩
        show wm b ≤ if b = g then ds.length else wm b
        split
        · rename_i h; rw [h, hwm g hg]; exact Nat.zero_le _
        · exact Nat.le_refl _
      refine ⟨fun b => if b = g then ds.length else wm b, fun b hb => ?_, ⟨hL, q2.below, q2.fz, fun b hb => ?_⟩, RV_lst_mk ?_⟩
      · show (if b = g then ds.length else wm b) = 0
        rw [if_neg (by omega)]
        exact q1 b hb
      · show (if b = g then ds.length else wm b) = wm b
        rw [if_neg (by omega)]
      · simp only [RC]
        refine .inr ⟨g, 0, cap, ds, rfl, hn, by simp [tagOf, TagOk], RCs_later hL _ _ hrc, ⟨3, hu, by intro t nb s h; simp [tagOf] at h⟩, fun k u hk => ⟨?_, ?_⟩⟩
        · have hk1 : k < ds.length := (List.getElem?_eq_some_iff.1 hk).1
          rw [← htk, List.getElem?_take] at hk
          split at hk
          · simp only [World.cell?, hgb, Nat.zero_add]
            rw [Array.getElem?_toList] at hk
            simpa using hk
          · cases hk
        · have hk1 : k < ds.length := (List.getElem?_eq_some_iff.1 hk).1
          show 0 + k < if g = g then ds.length else wm g
          rw [if_pos rfl]; omega

theorem encNd_size (t : Nd) : (encNd t).size = 3 := by
  obtain ⟨k, a, ks⟩ := t
  rw [encNd_mk]; rfl
/-- The parts of a kind. -/
def fdT (t : Nd) (kd : Int) : List Nd := (allT t).filter fun t => t.kind == kd
theorem pure15 (t : Nd) (kd : Int) (hN : (allT t).length ≤ 1000000) : PureF Tryd.prog 15 [encNd t, .at (.int .i64 kd)] (.lst (tagOf ((fdT t kd).map encNd)) ((fdT t kd).map encNd)) := by
  intro wm w us hwm hgl hu
  cases hu with
  | cons hu1 hu2 =>
    cases hu2 with
    | cons hu3 hu4 =>
      cases hu4
      have e := RV_at (RV.of_RV1 hu3)
      subst e
      refine callsIn_wide.1 ((find_in 3 (Nat.le_refl _) wm w hwm hgl t _ kd (RV.of_RV1 hu1) hN).mono ?_)
      rintro e w' ⟨v', ds, rfl, hrow, hrc, hbel⟩
      obtain ⟨wm', h1, h2, h3⟩ := row_pure hwm hbel hrow ((fdT t kd).map encNd) (by simp [fdT]) (fun x hx => by obtain ⟨y, _, rfl⟩ := List.mem_map.1 hx; exact encNd_size y) hrc
      exact ⟨_, wm', rfl, h1, h2, h3⟩
def c15 (x : Nd × Int × Unit) : Option (List Nd × Unit) := if (allT x.1).length ≤ 1000000 then some (fdT x.1 x.2.1, ()) else none
theorem ok15' (t : Nd) (kd : Int) (u : Unit) (y : List Nd × Unit) (hx : c15 (t, kd, u) = some y) (vs : List V) (hvs : ArgVs CC as15 ((t, kd, u) : denAs as15) vs) : PureF Tryd.prog 15 vs (finV ((argTs CC rs15 (fun _ => false) 0 (y : denAs rs15)).map (trT CC ⟨id, id, id, id⟩))) := by
  obtain ⟨v, vs', rfl, hv, v2, vs2, rfl, hv2, hvs⟩ := hvs
  replace hvs : vs2 = [] := hvs
  subst hvs
  replace hv : v = trT CC ⟨id, id, id, id⟩ (argT CC (.st TI.node) false t) := hv
  rw [encNd_tr] at hv
  subst hv
  replace hv2 : v2 = .at (.int .i64 kd) := hv2
  subst hv2
  unfold c15 at hx
  split at hx
  · rename_i h
    injection hx with hx
    subst hx
    exact pure15 t kd h
  · cases hx
theorem ok15 : ConOk CC Tryd.prog 15 ⟨as15, rs15, c15⟩ := fun x y hx vs hvs => ok15' x.1 x.2.1 x.2.2 y hx vs hvs
end Go.Proofs.YtegibhjgldpndaaDoor
