/-
  AL, part 9: slice literals, append, slices of slices. General: no program in sight.
-/
import Derived.Test.YtdedkemkmccliaaAl8
set_option linter.unusedVariables false
set_option linter.unusedSimpArgs false
namespace Go.Al
open Go.RowKit

section
variable {P : Program} {X : Cx} {g : Gh} {w : World} {a : Act} {o : Oper} {st : S} {K : V → S → Prop} {KP : List PanicEntry → S → Prop}

theorem RC_flat {x : V} {us : List Value} (h : RC g w x us) : RCs g w x.flat us := by
  cases x with
  | any => simp [RC] at h
  | tup vs => simp [RC] at h
  | agg fs => simpa only [RC, V.flat] using h
  | _ => simp only [V.flat, RCs]; exact ⟨us, [], by simp, h, rfl⟩

theorem RCs_flats : ∀ {es : List V} {ds : List Value}, RCs g w es ds → RCs g w (flats es) ds
  | [], ds, h => h
  | x :: xs, ds, h => by
    simp only [RCs] at h
    obtain ⟨u1, u2, rfl, h1, h2⟩ := h
    exact RCs_append (RC_flat h1) (RCs_flats h2)

theorem elsOk_length {sz : Nat} {es : List V} {ds : List Value} (h : elsOk sz es) (hr : RCs g w es ds) : ds.length = es.length * sz := by
  rw [RCs_length g w es ds hr]
  clear hr
  induction es with
  | nil => simp [sizes]
  | cons x xs ih =>
    simp only [sizes, List.length_cons, h x (by simp), ih fun y hy => h y (by simp [hy]), Nat.add_mul, Nat.one_mul]
    omega

theorem look_fresh (hi : Inv X.B g st w) : look st.box w.heap.size = none := by
  cases hq : look st.box w.heap.size with
  | none => rfl
  | some p =>
    obtain ⟨c, k⟩ := p
    obtain ⟨_, _, _, _, arr, el, us, p5, _⟩ := hi.box _ c k hq
    have := (Array.getElem?_eq_some_iff.1 p5).1
    omega

theorem own_fresh (hi : Inv X.B g st w) : ∀ t ∈ st.tg, ∀ d, g.tb t = some (some (w.heap.size, d)) → False := fun t ht d hd => by
  obtain ⟨x1, x2, x3⟩ := d
  obtain ⟨_, _, _, _, _, arr, el, p5, _⟩ := hi.own t ht _ x1 x2 x3 hd
  have := (Array.getElem?_eq_some_iff.1 p5).1
  omega

/-- A new block of elements: one that is only read. -/
theorem new_no (hi : Inv X.B g st w) {es : List V} {us : List Value} {sz : Nat} (hs : elsOk sz es) (hr : RCs g.bare w es us) (el : TypeId) (extra : List Value) (cap : Nat) (hc : es.length ≤ cap) :
    ∃ g', Out X.B g w g' st (w.alloc (.cells (us ++ extra).toArray el)) ∧ RV g' (w.alloc (.cells (us ++ extra).toArray el)) (.lst .no es) (.slice (some ⟨w.heap.size, 0, none⟩) es.length cap) := by
  have ho := out_alloc hi (us ++ extra).toArray el us.length
  refine ⟨_, ho, RV_lst_mk ?_⟩
  simp only [RC]
  refine .inr ⟨w.heap.size, 0, cap, us, rfl, hc, trivial, RCs_later ho.step.later.bare _ _ hr, ⟨sz, hs, fun _ _ _ e => by cases e⟩, ?_⟩
  exact at_alloc (w := w) (us ++ extra).toArray el us us.length (Nat.le_refl _) (by simp)

/-- A new block of elements: one that may grow. -/
theorem new_own (hi : Inv X.B g st w) {es : List V} {us : List Value} {sz : Nat} (hs : elsOk sz es) (hr : RCs g.bare w es us) (el : TypeId) (extra : List Value) (cap : Nat) (hc : es.length ≤ cap) (hm : cap ≤ maxLen)
    (hx : us.length + extra.length = cap * sz) (nb : Bool) (hnb : nb = true → es.length ≠ 0) :
    ∃ g', Out X.B g w g' ⟨st.box, st.nx :: st.tg, st.nx + 1⟩ (w.alloc (.cells (us ++ extra).toArray el)) ∧
      RV g' (w.alloc (.cells (us ++ extra).toArray el)) (.lst (.own st.nx nb sz) es) (.slice (some ⟨w.heap.size, 0, none⟩) es.length cap) := by
  have hul := elsOk_length hs hr
  have ho := out_alloc hi (us ++ extra).toArray el us.length
  obtain ⟨i2, l2⟩ := ho.inv.addTag rfl (some (w.heap.size, cap, es.length, sz)) (fun b c n s e => by
    injection e with e; injection e with e1 e; injection e with e2 e; injection e with e3 e4
    subst e1; subst e2; subst e3; subst e4
    exact ⟨hi.base, by simp [hul], hc, hm, look_fresh hi, ⟨_, el, alloc_new w _, by simp; omega⟩, fun t ht x hx => own_fresh hi t ht x hx⟩)
  refine ⟨_, ⟨ho.step.trans ⟨l2, .refl _ _, fun _ => rfl, fun _ _ => rfl⟩, i2⟩, RV_lst_mk ?_⟩
  simp only [RC]
  refine .inr ⟨w.heap.size, 0, cap, us, rfl, hc, ⟨if_pos rfl, rfl, hnb⟩, RCs_later (ho.step.later.trans l2).bare _ _ hr, ⟨sz, hs, fun _ _ _ e => by cases e; exact .inl rfl⟩, ?_⟩
  exact at_alloc (w := w) (us ++ extra).toArray el us us.length (Nat.le_refl _) (by simp)

/-- A new block of elements: one whose elements are written. -/
theorem new_box (hi : Inv X.B g st w) {es : List V} {us : List Value} (hr : RCs g.bare w es us) (h1 : allOne (flats es)) (el : TypeId) (extra : List Value) (k : Nat) (hk : us.length + extra.length = k) :
    ∃ g', Out X.B g w g' ⟨lay st.box w.heap.size (flats es, k), st.tg, st.nx⟩ (w.alloc (.cells (us ++ extra).toArray el)) := by
  have hrf := RCs_flats (RCs_named g w _ _ hr)
  have hl := RCs_length g w _ _ hrf
  rw [sizes_one h1] at hl
  have ho := out_alloc hi (us ++ extra).toArray el 0
  refine ⟨_, ⟨ho.step, ?_⟩⟩
  have := ho.inv.addBox (b := w.heap.size) (arr := (us ++ extra).toArray) (el := el) (cs := flats es) (us := us) hi.base (if_pos rfl) (alloc_new w _) (by simp; omega) (allOne_mem h1)
    (RCs_later ho.step.later _ _ hrf) (by simp [← hl]) (by intro t ht d hd; exact own_fresh hi t ht d hd)
  have e : (us ++ extra).toArray.size = k := by simp; omega
  rw [e] at this
  exact this

theorem new_boxr (hi : Inv X.B g st w) {es : List V} {us : List Value} (hr : RCs g w es us) (h1 : allOne (flats es)) (el : TypeId) (extra : List Value) (k : Nat) (hk : us.length + extra.length = k) :
    ∃ g', Out X.B g w g' ⟨lay st.box w.heap.size (flats es, k), st.tg, st.nx⟩ (w.alloc (.cells (us ++ extra).toArray el)) := by
  have hrf := RCs_flats hr
  have hl := RCs_length g w _ _ hrf
  rw [sizes_one h1] at hl
  have ho := out_alloc hi (us ++ extra).toArray el 0
  refine ⟨_, ⟨ho.step, ?_⟩⟩
  have := ho.inv.addBox (b := w.heap.size) (arr := (us ++ extra).toArray) (el := el) (cs := flats es) (us := us) hi.base (if_pos rfl) (alloc_new w _) (by simp; omega) (allOne_mem h1)
    (RCs_later ho.step.later _ _ hrf) (by simp [← hl]) (by intro t ht d hd; exact own_fresh hi t ht d hd)
  have e : (us ++ extra).toArray.size = k := by simp; omega
  rw [e] at this
  exact this

theorem zero_size {el : TypeId} (h : (zeroC P el).map List.length = some (P.cellsOf el)) : ∃ z, zeroOf P el = some z ∧ z.cells.size = P.cellsOf el := by
  cases hz : zeroC P el with
  | none => simp [hz] at h
  | some cs =>
    obtain ⟨z, h1, _, h3⟩ := zeroC_spec (g := ⟨fun _ => 0, fun _ => none⟩) (w := default) hz
    simp [hz] at h
    exact ⟨z, h1, by omega⟩

theorem aBuildSlice_spec {L : Pol} {dst : Option Nat} {t : TypeId} {n : Nat} {ps : List (Nat × V)} {qs : List (Nat × Value)} (h : aBuildSlice P L dst st t n ps K) (hi : Inv X.B g st w) (hp : Parts g w ps qs) :
    ∃ v u g' st' w', K v st' ∧ Out X.B g w g' st' w' ∧ RV g' w' v u ∧ (Instr.buildSlice t n qs.toArray).run P w = .ok u w' := by
  unfold aBuildSlice at h
  split at h
  · cases h
  · rename_i el hel
    obtain ⟨h1, h2, h3, h4, h5, h6, h7, h8, h9, h10⟩ := h
    have hu := elT_spec hel
    obtain ⟨z, hz, hzs⟩ := zero_size h3
    obtain ⟨i, hi1, hi2⟩ := zeroOf_info hz
    have h8r : elsOk (P.cellsOf el) (ps.map (·.2)) := fun x hx => by
      obtain ⟨p, hp1, rfl⟩ := List.mem_map.1 hx
      rw [← size_untag]
      exact h8 _ (List.mem_map.2 ⟨p, hp1, rfl⟩)
    obtain ⟨us, q0, q2, q3⟩ := parts_raw hp (fun p hp => List.all_eq_true.1 h9 p hp) h8r 0 h7
    have q1 : RCs g.bare w (ps.map fun p => p.2.untag) us := by
      have := RCs_untag_bare q0 (fun x hx => by
        obtain ⟨p, hp1, rfl⟩ := List.mem_map.1 hx
        exact List.all_eq_true.1 h9 p hp1)
      simpa [List.map_map, Function.comp_def] using this
    rw [h6] at q2
    have hsz : i.size = P.cellsOf el := by simp [Program.cellsOf, hi1]
    have hlen : (ps.map fun p => p.2.untag).length = n := by simp [h6]
    have hrun : (Instr.buildSlice t n qs.toArray).run P w = .ok (.slice (some ⟨w.heap.size, 0, none⟩) n n) (w.alloc (.cells us.toArray el)) := by
      have hf : ∀ zs : Array Value, zs.size = n * P.cellsOf el → Instr.fill (fun i => some (i * P.cellsOf el, P.cellsOf el)) zs qs = some us.toArray := fun zs hzs => by
        have := q3 zs (by omega)
        rw [this]
        simp only [Nat.zero_mul, List.take_zero, List.nil_append, Nat.zero_add]
        rw [q2, ← hzs, ← Array.length_toList, List.drop_length, List.append_nil]
      by_cases hz0 : n * P.cellsOf el = 0
      · have := hf #[] (by simp [hz0])
        simp [Instr.buildSlice, run_underlying hu, run_sizeOf' h1, hz0, this, newRow, show (Array.range 0 : Array Nat) = #[] from rfl]
      · have := hf ((Array.range (n * P.cellsOf el)).map (z.cells[· % z.cells.size]!)) (by simp)
        simp [Instr.buildSlice, run_underlying hu, run_sizeOf' h1, hz0, zeroValue, typeInfo, hi1, hi2, this, newRow, show ¬ (16777216 < n * P.cellsOf el) by omega]
    split at h10
    · obtain ⟨g', ho⟩ := new_boxr (X := X) hi q0 h10.1 el [] (n * P.cellsOf el) (by simpa using q2)
      simp only [List.append_nil] at ho
      exact ⟨_, _, g', _, _, h10.2 _ (look_fresh hi), ho, RV_at_mk rfl, hrun⟩
    · split at h10
      · obtain ⟨g', ho, hv⟩ := new_own (X := X) hi h8 q1 el [] n (by omega) h5 (by simpa using q2) false (fun e => by cases e)
        simp only [List.append_nil, hlen] at ho hv
        exact ⟨_, _, g', _, _, h10, ho, hv, hrun⟩
      · obtain ⟨g', ho, hv⟩ := new_no (X := X) hi h8 q1 el [] n (by omega)
        simp only [List.append_nil, hlen] at ho hv
        exact ⟨_, _, g', _, _, h10, ho, hv, hrun⟩

/-- What is appended, as the model takes it. -/
theorem src_of {t el : TypeId} (hu : P.underlying t = some (.slice el)) {tg : Tag} {ys : List V} {ux : Value} (hx : RV g w (.lst tg ys) ux) (hs : elsOk (P.cellsOf el) ys) :
    ∃ news, Src P (P.cellsOf el) t ux ys.length news w ∧ RCs g.bare w ys news := by
  have hl := RV_lst hx
  simp only [RC] at hl
  rcases hl with ⟨rfl, hux, _⟩ | ⟨b, o, cap, ds, hux, hc, ht, hr, hf, ha⟩
  · injection hux with hux _
    subst hux
    exact ⟨[], Src.ofNil w hu 0, by simp [RCs]⟩
  · injection hux with hux _
    subst hux
    have hlen := elsOk_length hs hr
    refine ⟨ds, Src.ofSlice w hu ⟨b, o, none⟩ ys.length cap ds hlen (fun j u hj => by rw [addr_add]; exact (ha j u hj).1) (RCs_ones _ w _ _ hr), hr⟩

/-- append where there is room. -/
theorem run_room {t el : TypeId} (hu : P.underlying t = some (.slice el)) (h1 : hasT P el = true) {ux : Value} {m : Nat} {news : List Value} (hs : Src P (P.cellsOf el) t ux m news w) (ty : TypeId) {b n cap : Nat} {arr : Array Value} {el' : TypeId}
    (hb : w.heap[b]? = some (.cells arr el' (0, 0))) (hroom : n + m ≤ cap) (hsz : cap * P.cellsOf el ≤ arr.size) :
    (Builtin.append_ #[t, t] ty #[.slice (some ⟨b, 0, none⟩) n cap, ux]).run P w = .ok (.slice (some ⟨b, 0, none⟩) (n + m) cap) (w.setRow b (arr.toList.take (n * P.cellsOf el) ++ news ++ arr.toList.drop (n * P.cellsOf el + news.length)).toArray) := by
  have hfit : n * P.cellsOf el + news.length ≤ arr.size := by
    have : (n + m) * P.cellsOf el ≤ cap * P.cellsOf el := Nat.mul_le_mul_right _ hroom
    rw [Nat.add_mul] at this
    rw [hs.newsLen]; omega
  have hst := run_storeCells_at (P := P) b (n * P.cellsOf el) el' news 0 arr w hb (by omega) hs.one
  simp only [Nat.add_zero] at hst
  simp [Builtin.append_, run_underlying hu, run_sizeOf' h1, hs.len, hroom, hs.cells, addr_add, hst]

end
end Go.Al
