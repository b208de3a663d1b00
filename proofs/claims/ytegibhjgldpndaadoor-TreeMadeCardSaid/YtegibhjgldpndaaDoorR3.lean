/-
  The contract of Leaves: the tokens of a tree's leaves, in order.
-/
import Derived.Test.YtegibhjgldpndaaDoorR2
import Derived.Test.YtegibhjgldpndaaDoorP8
import Derived.Test.YtegibhjgldpndaaDoorS2
set_option linter.unusedVariables false
set_option linter.unusedSimpArgs false
namespace Go.Proofs.YtegibhjgldpndaaDoor
open Go.Al Go.Den Go.RowKit Go.Shelf

/-- What a call gives is a slice of its own. -/
theorem own_pure {wm : Nat → Nat} {w W' : World} (hwm : ∀ b, w.heap.size ≤ b → wm b = 0) (hbel : Below w.heap.size w W') {size n : Nat} {e : TypeId} {v : Value} {ds : List Value} (hrow : W'.ownsRow w.heap.size e size v n ds) (hz : n = 0 → v = .slice none 0 0)
    (es : List V) (hl : n = es.length) (hu : ∀ x ∈ es, x.size = size) (hrc : RCs ⟨wm, fun _ => none⟩ w es ds) :
    ∃ wm', (∀ b, W'.heap.size ≤ b → wm' b = 0) ∧ Step w.heap.size ⟨wm, fun _ => none⟩ w ⟨wm', fun _ => none⟩ W' ∧ RV ⟨wm', fun _ => none⟩ W' (.lst (tagOf es) es) v := by
  subst hl
  obtain ⟨q1, q2⟩ := step_of_below hwm hbel
  cases es with
  | nil =>
    refine ⟨wm, q1, q2, ?_⟩
    rw [hz rfl]
    exact RV_lst_mk (by unfold RC; exact .inl ⟨rfl, rfl, trivial⟩)
  | cons x r =>
    obtain ⟨hlen, ⟨_, h0⟩ | ⟨g, cap, cur, rfl, hg, hgb, hn, hm, hcs, htk⟩⟩ := hrow
    · simp at h0
    · have hgl := (Array.getElem?_eq_some_iff.1 hgb).1
      have hL : Later ⟨wm, fun _ => none⟩ w ⟨fun b => if b = g then ds.length else wm b, fun _ => none⟩ W' := by
        refine ⟨fun b => ?_, fun _ _ h => h, q2.later.cell⟩
        show wm b ≤ if b = g then ds.length else wm b
        split
        · rename_i h; rw [h, hwm g hg]; exact Nat.zero_le _
        · exact Nat.le_refl _
      refine ⟨fun b => if b = g then ds.length else wm b, fun b hb => ?_, ⟨hL, q2.below, q2.fz, fun b hb => ?_⟩, RV_lst_mk ?_⟩
      · show (if b = g then ds.length else wm b) = 0
        rw [if_neg (by omega)]
        exact q1 b hb
      · show (if b = g then ds.length else wm b) = wm b
        rw [if_neg (by omega)]
      · simp only [RC]
        refine .inr ⟨g, 0, cap, ds, rfl, hn, by simp [tagOf, TagOk], RCs_later hL _ _ hrc, ⟨size, hu, by intro t nb s h; simp [tagOf] at h⟩, fun k u hk => ⟨?_, ?_⟩⟩
        · have hk1 : k < ds.length := (List.getElem?_eq_some_iff.1 hk).1
          rw [← htk, List.getElem?_take] at hk
          split at hk
          · simp only [World.cell?, hgb, Nat.zero_add]
            rw [Array.getElem?_toList] at hk
            simpa using hk
          · cases hk
        · have hk1 : k < ds.length := (List.getElem?_eq_some_iff.1 hk).1
          show 0 + k < if g = g then ds.length else wm g
          rw [if_pos rfl]; omega

theorem RCs_ints {g : Gh} {w : World} : ∀ l : List Int, RCs g w (l.map eV_int) (l.map (.int .i64))
  | [] => by simp [RCs]
  | x :: r => by
    simp only [List.map_cons, RCs]
    exact ⟨[.int .i64 x], _, rfl, by simp [RC, eV_int, one], RCs_ints r⟩

theorem encNd_tr (t : Nd) : trT CC ⟨id, id, id, id⟩ (argT CC (.st TI.node) false t) = encNd t := by
  cases t with
  | mk k a ks => rw [encNd_mk]; rfl

theorem pure13 (t : Nd) (hN : (allT t).length ≤ 1000000) : PureF Tryd.prog 13 [encNd t] (.lst (tagOf ((lvI (allT t)).map eV_int)) ((lvI (allT t)).map eV_int)) := by
  intro wm w us hwm hgl hu
  cases hu with
  | cons hu1 hu2 =>
    cases hu2
    refine callsIn_wide.1 ((leaves_in Fence.wide rfl (fun _ => trivial) rfl 3 (Nat.le_refl _) wm w hwm t _ (RV.of_RV1 hu1) hN).mono ?_)
    rintro e w' ⟨v', rfl, hrow, hz, hbel⟩
    obtain ⟨wm', h1, h2, h3⟩ := own_pure hwm hbel hrow hz ((lvI (allT t)).map eV_int) (by simp) (fun x hx => by obtain ⟨y, _, rfl⟩ := List.mem_map.1 hx; rfl) (RCs_ints _)
    exact ⟨_, wm', rfl, h1, h2, h3⟩
def c13 (x : Nd × Unit) : Option (List Int × Unit) := if (allT x.1).length ≤ 1000000 then some (lvI (allT x.1), ()) else none
theorem ok13' (t : Nd) (u : Unit) (y : List Int × Unit) (hx : c13 (t, u) = some y) (vs : List V) (hvs : ArgVs CC as13 ((t, u) : denAs as13) vs) : PureF Tryd.prog 13 vs (finV ((argTs CC rs13 (fun _ => false) 0 (y : denAs rs13)).map (trT CC ⟨id, id, id, id⟩))) := by
  obtain ⟨v, vs', rfl, hv, hvs⟩ := hvs
  replace hvs : vs' = [] := hvs
  subst hvs
  replace hv : v = trT CC ⟨id, id, id, id⟩ (argT CC (.st TI.node) false t) := hv
  rw [encNd_tr] at hv
  subst hv
  unfold c13 at hx
  split at hx
  · rename_i h
    injection hx with hx
    subst hx
    exact pure13 t h
  · cases hx
theorem ok13 : ConOk CC Tryd.prog 13 ⟨as13, rs13, c13⟩ := fun x y hx vs hvs => ok13' x.1 x.2 y hx vs hvs

theorem allK_sz : ∀ ks : List Nd, (∀ t ∈ ks, (allT t).length = szT t) → (allK ks).length = szK ks
  | [], _ => rfl
  | t :: r, h => by
    simp only [allK, szK, List.length_append, h t (by simp), allK_sz r (fun t ht => h t (by simp [ht]))]
mutual
theorem allT_sz : ∀ t : Nd, (allT t).length = szT t
  | .mk k a ks => by simp only [allT, szT, List.length_cons, allK_szs ks]; omega
theorem allK_szs : ∀ ks : List Nd, (allK ks).length = szK ks
  | [] => rfl
  | t :: r => by simp only [allK, szK, List.length_append, allT_sz t, allK_szs r]
end
end Go.Proofs.YtegibhjgldpndaaDoor
