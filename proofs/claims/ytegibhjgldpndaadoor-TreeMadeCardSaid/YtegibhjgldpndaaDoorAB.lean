/-
  AL, part 9: slice literals, append, slices of slices. General: no program in sight.
-/
import Derived.Test.YtegibhjgldpndaaDoorAA
import Derived.Still
set_option linter.unusedVariables false
set_option linter.unusedSimpArgs false
namespace Go.Al
open Go.RowKit

section
variable {P : Program} {X : Cx} {g : Gh} {w : World} {a : Act} {o : Oper} {st : S} {K : V → S → Prop} {KP : List PanicEntry → S → Prop}

theorem RC_flat {x : V} {us : List Value} (h : RC g w x us) : RCs g w x.flat us := by
  cases x with
  | any => simp [RC] at h
  | tup vs => simp [RC] at h
  | agg fs => simpa only [RC, V.flat] using h
  | _ => simp only [V.flat, RCs]; exact ⟨us, [], by simp, h, rfl⟩

theorem RCs_flats : ∀ {es : List V} {ds : List Value}, RCs g w es ds → RCs g w (flats es) ds
  | [], ds, h => h
  | x :: xs, ds, h => by
    simp only [RCs] at h
    obtain ⟨u1, u2, rfl, h1, h2⟩ := h
    exact RCs_append (RC_flat h1) (RCs_flats h2)

theorem elsOk_length {sz : Nat} {es : List V} {ds : List Value} (h : elsOk sz es) (hr : RCs g w es ds) : ds.length = es.length * sz := by
  rw [RCs_length g w es ds hr]
  clear hr
  induction es with
  | nil => simp [sizes]
  | cons x xs ih =>
    simp only [sizes, List.length_cons, h x (by simp), ih fun y hy => h y (by simp [hy]), Nat.add_mul, Nat.one_mul]
    omega

theorem look_fresh (hi : Inv X.B g st w) : look st.box w.heap.size = none := by
  cases hq : look st.box w.heap.size with
  | none => rfl
  | some p =>
    obtain ⟨c, k⟩ := p
    obtain ⟨_, _, _, _, arr, el, us, p5, _⟩ := hi.box _ c k hq
    have := (Array.getElem?_eq_some_iff.1 p5).1
    omega

theorem own_fresh (hi : Inv X.B g st w) : ∀ t ∈ st.tg, ∀ d, g.tb t = some (some (w.heap.size, d)) → False := fun t ht d hd => by
  obtain ⟨x1, x2, x3⟩ := d
  obtain ⟨_, _, _, _, _, arr, el, p5, _⟩ := hi.own t ht _ x1 x2 x3 hd
  have := (Array.getElem?_eq_some_iff.1 p5).1
  omega

/-- A new block of elements: one that is only read. -/
theorem new_no (hi : Inv X.B g st w) {es : List V} {us : List Value} {sz : Nat} (hs : elsOk sz es) (hr : RCs g.bare w es us) (el : TypeId) (extra : List Value) (cap : Nat) (hc : es.length ≤ cap) :
    ∃ g', Out X.B g w g' st (w.alloc (.cells (us ++ extra).toArray el)) ∧ RV g' (w.alloc (.cells (us ++ extra).toArray el)) (.lst .no es) (.slice (some ⟨w.heap.size, 0, none⟩) es.length cap) := by
  have ho := out_alloc hi (us ++ extra).toArray el us.length
  refine ⟨_, ho, RV_lst_mk ?_⟩
  simp only [RC]
  refine .inr ⟨w.heap.size, 0, cap, us, rfl, hc, trivial, RCs_later ho.step.later.bare _ _ hr, ⟨sz, hs, fun _ _ _ e => by cases e⟩, ?_⟩
  exact at_alloc (w := w) (us ++ extra).toArray el us us.length (Nat.le_refl _) (by simp)

/-- A new block of elements: one that may grow. -/
theorem new_own (hi : Inv X.B g st w) {es : List V} {us : List Value} {sz : Nat} (hs : elsOk sz es) (hr : RCs g.bare w es us) (el : TypeId) (extra : List Value) (cap : Nat) (hc : es.length ≤ cap) (hm : cap ≤ maxLen)
    (hx : us.length + extra.length = cap * sz) (nb : Bool) (hnb : nb = true → es.length ≠ 0) :
    ∃ g', Out X.B g w g' ⟨st.box, st.nx :: st.tg, st.nx + 1⟩ (w.alloc (.cells (us ++ extra).toArray el)) ∧
      RV g' (w.alloc (.cells (us ++ extra).toArray el)) (.lst (.own st.nx nb sz) es) (.slice (some ⟨w.heap.size, 0, none⟩) es.length cap) := by
  have hul := elsOk_length hs hr
  have ho := out_alloc hi (us ++ extra).toArray el us.length
  obtain ⟨i2, l2⟩ := ho.inv.addTag rfl (some (w.heap.size, cap, es.length, sz)) (fun b c n s e => by
    injection e with e; injection e with e1 e; injection e with e2 e; injection e with e3 e4
    subst e1; subst e2; subst e3; subst e4
    exact ⟨hi.base, by simp [hul], hc, hm, look_fresh hi, ⟨_, el, alloc_new w _, by simp; omega⟩, fun t ht x hx => own_fresh hi t ht x hx⟩)
  refine ⟨_, ⟨ho.step.trans ⟨l2, .refl _ _, .refl _, fun _ _ => rfl⟩, i2⟩, RV_lst_mk ?_⟩
  simp only [RC]
  refine .inr ⟨w.heap.size, 0, cap, us, rfl, hc, ⟨if_pos rfl, rfl, hnb⟩, RCs_later (ho.step.later.trans l2).bare _ _ hr, ⟨sz, hs, fun _ _ _ e => by cases e; exact .inl rfl⟩, ?_⟩
  exact at_alloc (w := w) (us ++ extra).toArray el us us.length (Nat.le_refl _) (by simp)

/-- A new block of elements: one whose elements are written. -/
theorem new_box (hi : Inv X.B g st w) {es : List V} {us : List Value} (hr : RCs g.bare w es us) (h1 : allOne (flats es)) (el : TypeId) (extra : List Value) (k : Nat) (hk : us.length + extra.length = k) :
    ∃ g', Out X.B g w g' ⟨lay st.box w.heap.size (flats es, k), st.tg, st.nx⟩ (w.alloc (.cells (us ++ extra).toArray el)) := by
  have hrf := RCs_flats (RCs_named g w _ _ hr)
  have hl := RCs_length g w _ _ hrf
  rw [sizes_one h1] at hl
  have ho := out_alloc hi (us ++ extra).toArray el 0
  refine ⟨_, ⟨ho.step, ?_⟩⟩
  have := ho.inv.addBox (b := w.heap.size) (arr := (us ++ extra).toArray) (el := el) (cs := flats es) (us := us) hi.base (if_pos rfl) (alloc_new w _) (by simp; omega) (allOne_mem h1)
    (RCs_later ho.step.later _ _ hrf) (by simp [← hl]) (by intro t ht d hd; exact own_fresh hi t ht d hd)
  have e : (us ++ extra).toArray.size = k := by simp; omega
  rw [e] at this
  exact this

theorem new_boxr (hi : Inv X.B g st w) {es : List V} {us : List Value} (hr : RCs g w es us) (h1 : allOne (flats es)) (el : TypeId) (extra : List Value) (k : Nat) (hk : us.length + extra.length = k) :
    ∃ g', Out X.B g w g' ⟨lay st.box w.heap.size (flats es, k), st.tg, st.nx⟩ (w.alloc (.cells (us ++ extra).toArray el)) := by
  have hrf := RCs_flats hr
  have hl := RCs_length g w _ _ hrf
  rw [sizes_one h1] at hl
  have ho := out_alloc hi (us ++ extra).toArray el 0
  refine ⟨_, ⟨ho.step, ?_⟩⟩
  have := ho.inv.addBox (b := w.heap.size) (arr := (us ++ extra).toArray) (el := el) (cs := flats es) (us := us) hi.base (if_pos rfl) (alloc_new w _) (by simp; omega) (allOne_mem h1)
    (RCs_later ho.step.later _ _ hrf) (by simp [← hl]) (by intro t ht d hd; exact own_fresh hi t ht d hd)
  have e : (us ++ extra).toArray.size = k := by simp; omega
  rw [e] at this
  exact this

theorem zero_size {el : TypeId} (h : (zeroC P el).map List.length = some (P.cellsOf el)) : ∃ z, zeroOf P el = some z ∧ z.cells.size = P.cellsOf el := by
  cases hz : zeroC P el with
  | none => simp [hz] at h
  | some cs =>
    obtain ⟨z, h1, _, h3⟩ := zeroC_spec (g := ⟨fun _ => 0, fun _ => none⟩) (w := default) hz
    simp [hz] at h
    exact ⟨z, h1, by omega⟩

theorem aBuildSlice_spec {L : Pol} {dst : Option Nat} {t : TypeId} {n : Nat} {ps : List (Nat × V)} {qs : List (Nat × Value)} (h : aBuildSlice P L dst st t n ps K) (hi : Inv X.B g st w) (hp : Parts g w ps qs) :
    ∃ v u g' st' w', K v st' ∧ Out X.B g w g' st' w' ∧ RV g' w' v u ∧ (Instr.buildSlice t n qs.toArray).run P w = .ok u w' := by
  unfold aBuildSlice at h
  split at h
  · cases h
  · rename_i el hel
    obtain ⟨h1, h2, h3, h4, h5, h6, h7, h8, h9, h10⟩ := h
    have hu := elT_spec hel
    obtain ⟨z, hz, hzs⟩ := zero_size h3
    obtain ⟨i, hi1, hi2⟩ := zeroOf_info hz
    have h8r : elsOk (P.cellsOf el) (ps.map (·.2)) := fun x hx => by
      obtain ⟨p, hp1, rfl⟩ := List.mem_map.1 hx
      rw [← size_untag]
      exact h8 _ (List.mem_map.2 ⟨p, hp1, rfl⟩)
    obtain ⟨us, q0, q2, q3⟩ := parts_raw hp (fun p hp => List.all_eq_true.1 h9 p hp) h8r 0 h7
    have q1 : RCs g.bare w (ps.map fun p => p.2.untag) us := by
      have := RCs_untag_bare q0 (fun x hx => by
        obtain ⟨p, hp1, rfl⟩ := List.mem_map.1 hx
        exact List.all_eq_true.1 h9 p hp1)
      simpa [List.map_map, Function.comp_def] using this
    rw [h6] at q2
    have hsz : i.size = P.cellsOf el := by simp [Program.cellsOf, hi1]
    have hlen : (ps.map fun p => p.2.untag).length = n := by simp [h6]
    have hrun : (Instr.buildSlice t n qs.toArray).run P w = .ok (.slice (some ⟨w.heap.size, 0, none⟩) n n) (w.alloc (.cells us.toArray el)) := by
      have hf : ∀ zs : Array Value, zs.size = n * P.cellsOf el → Instr.fill (fun i => some (i * P.cellsOf el, P.cellsOf el)) zs qs = some us.toArray := fun zs hzs => by
        have := q3 zs (by omega)
        rw [this]
        simp only [Nat.zero_mul, List.take_zero, List.nil_append, Nat.zero_add]
        rw [q2, ← hzs, ← Array.length_toList, List.drop_length, List.append_nil]
      by_cases hz0 : n * P.cellsOf el = 0
      · have := hf #[] (by simp [hz0])
        simp [Instr.buildSlice, run_underlying hu, run_sizeOf' h1, hz0, this, newRow, show (Array.range 0 : Array Nat) = #[] from rfl]
      · have := hf ((Array.range (n * P.cellsOf el)).map (z.cells[· % z.cells.size]!)) (by simp)
        simp [Instr.buildSlice, run_underlying hu, run_sizeOf' h1, hz0, zeroValue, typeInfo, hi1, hi2, this, newRow, show ¬ (16777216 < n * P.cellsOf el) by omega]
    split at h10
    · obtain ⟨g', ho⟩ := new_boxr (X := X) hi q0 h10.1 el [] (n * P.cellsOf el) (by simpa using q2)
      simp only [List.append_nil] at ho
      exact ⟨_, _, g', _, _, h10.2 _ (look_fresh hi), ho, RV_at_mk rfl, hrun⟩
    · split at h10
      · obtain ⟨g', ho, hv⟩ := new_own (X := X) hi h8 q1 el [] n (by omega) h5 (by simpa using q2) false (fun e => by cases e)
        simp only [List.append_nil, hlen] at ho hv
        exact ⟨_, _, g', _, _, h10, ho, hv, hrun⟩
      · obtain ⟨g', ho, hv⟩ := new_no (X := X) hi h8 q1 el [] n (by omega)
        simp only [List.append_nil, hlen] at ho hv
        exact ⟨_, _, g', _, _, h10, ho, hv, hrun⟩

/-- What is appended, as the model takes it. -/
theorem src_of {t el : TypeId} (hu : P.underlying t = some (.slice el)) {tg : Tag} {ys : List V} {ux : Value} (hx : RV g w (.lst tg ys) ux) (hs : elsOk (P.cellsOf el) ys) :
    ∃ news, Src P (P.cellsOf el) t ux ys.length news w ∧ RCs g.bare w ys news := by
  have hl := RV_lst hx
  simp only [RC] at hl
  rcases hl with ⟨rfl, hux, _⟩ | ⟨b, o, cap, ds, hux, hc, ht, hr, hf, ha⟩
  · injection hux with hux _
    subst hux
    exact ⟨[], Src.ofNil w hu 0, by simp [RCs]⟩
  · injection hux with hux _
    subst hux
    have hlen := elsOk_length hs hr
    refine ⟨ds, Src.ofSlice w hu ⟨b, o, none⟩ ys.length cap ds hlen (fun j u hj => by rw [addr_add]; exact (ha j u hj).1) (RCs_ones _ w _ _ hr), hr⟩

/-- append where there is room. -/
theorem run_room {t el : TypeId} (hu : P.underlying t = some (.slice el)) (h1 : hasT P el = true) {ux : Value} {m : Nat} {news : List Value} (hs : Src P (P.cellsOf el) t ux m news w) (ty : TypeId) {b n cap : Nat} {arr : Array Value} {el' : TypeId}
    (hb : w.heap[b]? = some (.cells arr el' (0, 0))) (hroom : n + m ≤ cap) (hsz : cap * P.cellsOf el ≤ arr.size) :
    (Builtin.append_ #[t, t] ty #[.slice (some ⟨b, 0, none⟩) n cap, ux]).run P w = .ok (.slice (some ⟨b, 0, none⟩) (n + m) cap) (w.setRow b (arr.toList.take (n * P.cellsOf el) ++ news ++ arr.toList.drop (n * P.cellsOf el + news.length)).toArray) := by
  have hfit : n * P.cellsOf el + news.length ≤ arr.size := by
    have : (n + m) * P.cellsOf el ≤ cap * P.cellsOf el := Nat.mul_le_mul_right _ hroom
    rw [Nat.add_mul] at this
    rw [hs.newsLen]; omega
  have hst := run_storeCells_at (P := P) b (n * P.cellsOf el) el' news 0 arr w hb (by omega) hs.one
  simp only [Nat.add_zero] at hst
  simp [Builtin.append_, run_underlying hu, run_sizeOf' h1, hs.len, hroom, hs.cells, addr_add, hst]

end
end Go.Al

/-
  AL, part 10: append is sound. General: no program in sight.
-/
namespace Go.Al
open Go.RowKit

section
variable {P : Program} {X : Cx} {g : Gh} {w : World} {a : Act} {o : Oper} {st : S} {K : V → S → Prop} {KP : List PanicEntry → S → Prop}

/-- append where there is no room. -/
theorem run_grow {t el : TypeId} (hu : P.underlying t = some (.slice el)) (h1 : hasT P el = true) (hz : (zeroC P el).map List.length = some (P.cellsOf el)) {ux : Value} {m : Nat} {news : List Value}
    (hs : Src P (P.cellsOf el) t ux m news w) (ty : TypeId) {base : Option Addr} {n cap : Nat} {olds : List Value} (hold : (Builtin.firstCells (P.cellsOf el) n (.slice base n cap)).run P w.drew = .ok olds.toArray w.drew)
    (hg : cap < n + m) (hb : (n + m) * P.bytesOf el ≤ 140737488355328) (hm : n + m ≤ maxLen) :
    ∃ cap' extra, n + m ≤ cap' ∧ cap' ≤ maxLen ∧ extra.length = (cap' - (n + m)) * P.cellsOf el ∧
      (Builtin.append_ #[t, t] ty #[.slice base n cap, ux]).run P w = .ok (.slice (some ⟨w.heap.size, 0, none⟩) (n + m) cap') (w.drew.alloc (.cells ((olds ++ news) ++ extra).toArray el)) := by
  obtain ⟨z, hz1, hz2⟩ := zero_size hz
  obtain ⟨i, hi1, hi2⟩ := zeroOf_info hz1
  have hsz : i.size = P.cellsOf el := by simp [Program.cellsOf, hi1]
  have hby : i.bytes = P.bytesOf el := by simp [Program.bytesOf, hi1]
  have hm' := hm
  simp only [maxLen] at hm'
  have hr := run_append_grow_src (P := P) w t t ty el i z hu hi1 hi2 base n cap olds (by rw [hsz]; exact hold) ux m news (by rw [hsz]; exact hs) hg (by omega) (by rw [hby]; exact growslice_fits hg hb)
  refine ⟨_, (Builtin.zeroCells z.cells (grownCap w (n + m) cap el - (n + m))).toList, grownCap_ge w (n + m) cap el, grownCap_le_maxLen w (n + m) cap el hm, ?_, ?_⟩
  · rw [Array.length_toList, size_zeroCells, hz2]
  · rw [hr]
    congr 3
    apply Array.ext'
    simp

/-- The cells of one's own block, behind what is there. -/
theorem out_own_write {B : Nat} (hi : Inv B g st w) {t : Nat} (ht : t ∈ st.tg) {b cap n sz : Nat} (hb : g.tb t = some (some (b, cap, n, sz))) {arr : Array Value} {el : TypeId} (hh : w.heap[b]? = some (.cells arr el (0, 0)))
    (arr' : Array Value) (hs : arr'.size = arr.size) (hp : ∀ k, k < n * sz → arr'[k]? = arr[k]?) (m : Nat) :
    Out B g w ⟨fun j => if j = b then (n + m) * sz else g.wm j, g.tb⟩ ⟨st.box, st.tg.erase t, st.nx⟩ (w.setRow b arr') := by
  obtain ⟨p1, p2, p3, p4, p5, arr0, el0, p6, p7⟩ := hi.own t ht b cap n sz hb
  have hoth : ∀ j, j ≠ b → (w.setRow b arr').heap[j]? = w.heap[j]? := fun j hj => setRow_other w b j _ hj
  have hsame := setRow_heap w b arr arr' el (0, 0) hh
  have hwm : g.wm b ≤ (n + m) * sz := by rw [p2]; exact Nat.mul_le_mul_right _ (by omega)
  have hla : Later g w ⟨fun j => if j = b then (n + m) * sz else g.wm j, g.tb⟩ (w.setRow b arr') := by
    refine ⟨fun j => ?_, fun _ _ e => e, fun j o ho => ?_⟩
    · show g.wm j ≤ if j = b then (n + m) * sz else g.wm j
      split
      · rename_i e; subst e; exact hwm
      · exact Nat.le_refl _
    · by_cases e : j = b
      · subst e
        rw [cell_of_row _ j o arr' el (0, 0) hsame, cell_of_row _ j o arr el (0, 0) hh]
        exact hp o (by rw [p2] at ho; exact ho)
      · exact World.cell?_of_block (hoth j e)
  have hbase := hi.base
  refine ⟨⟨hla, ⟨rfl, rfl, rfl, by simp, fun j hj => hoth j (by omega)⟩, .one hh hoth, fun j hj => if_neg (by omega)⟩, ?_⟩
  · have hd := hi.dropTag t
    have hlt : b < w.heap.size := (Array.getElem?_eq_some_iff.1 hh).1
    refine ⟨by simpa using hd.base, ?_, hd.tag, ?_, hd.dist, hd.nodup, fun j hj => ?_, hd.names⟩
    · intro b' cs k hl
      obtain ⟨q1, q2, q3, q4, arr2, el2, us2, q5, q6, q7, q8⟩ := hi.box b' cs k hl
      have hne : b' ≠ b := fun e => by subst e; rw [p5] at hl; cases hl
      exact ⟨q1, by show (if b' = b then _ else g.wm b') = 0; rw [if_neg hne]; exact q2, q3, q4, arr2, el2, us2, by rw [hoth b' hne]; exact q5, q6, RCs_later hla _ _ q7, q8⟩
    · intro t' ht' b' cap' n' sz' hb'
      have ht2 := List.mem_of_mem_erase ht'
      obtain ⟨q1, q2, q3, q4, q5, arr2, el2, q6, q7⟩ := hi.own t' ht2 b' cap' n' sz' hb'
      have hne : b' ≠ b := fun e => by
        subst e
        have := hi.dist t ht t' ht2 b' _ _ hb hb'
        subst this
        exact (List.Nodup.not_mem_erase hi.nodup) ht'
      exact ⟨q1, by show (if b' = b then _ else g.wm b') = _; rw [if_neg hne]; exact q2, q3, q4, q5, arr2, el2, by rw [hoth b' hne]; exact q6, q7⟩
    · show (if j = b then _ else g.wm j) = 0
      simp only [setRow_size] at hj
      rw [if_neg (by omega)]; exact hi.fresh j hj

theorem drew_eq (w : World) : w.drew = { w with drawn := w.drawn + 1 } := rfl

theorem elsOk_append {sz : Nat} {xs ys : List V} (h : elsOk sz xs) (h' : elsOk sz ys) : elsOk sz (xs ++ ys) := fun x hx => (List.mem_append.1 hx).elim (h x) (h' x)

/-- append onto nil. -/
theorem append_nil {t el : TypeId} (hu : P.underlying t = some (.slice el)) (h1 : hasT P el = true) (hz : (zeroC P el).map List.length = some (P.cellsOf el))
    {tgx : Tag} {ys : List V} (hs : elsOk (P.cellsOf el) ys) (hb : ys.length * P.bytesOf el ≤ 140737488355328) (hm : ys.length ≤ maxLen)
    (hi : Inv X.B g st w) {ux : Value} (hx : RV g w (.lst tgx ys) ux) (ty : TypeId) (hk : K (.lst (.own st.nx true (P.cellsOf el)) ys) ⟨st.box, st.nx :: st.tg, st.nx + 1⟩) :
    ∃ v u g' st' w', K v st' ∧ Out X.B g w g' st' w' ∧ RV g' w' v u ∧ (Builtin.append_ #[t, t] ty #[.slice none 0 0, ux]).run P w = .ok u w' := by
  obtain ⟨news, hsrc, hr⟩ := src_of hu hx hs
  by_cases h0 : ys.length = 0
  · have hys : ys = [] := List.eq_nil_of_length_eq_zero h0
    subst hys
    obtain ⟨i2, l2⟩ := hi.addTag rfl none (fun _ _ _ _ e => by cases e)
    have hsl := hsrc.len
    have hsc := hsrc.cells
    simp only [List.length_nil] at hsl hsc
    refine ⟨_, .slice none 0 0, _, _, w, hk, ⟨⟨l2, .refl _ _, .refl _, fun _ _ => rfl⟩, i2⟩, RV_lst_mk ?_, ?_⟩
    · simp only [RC]
      exact .inl ⟨trivial, trivial, if_pos rfl, rfl⟩
    · simp [Builtin.append_, run_underlying hu, run_sizeOf' h1, hsl, hsc]
  · obtain ⟨cap', extra, c1, c2, c3, hrun⟩ := run_grow hu h1 hz hsrc ty (base := none) (n := 0) (cap := 0) (olds := []) (by simp [Builtin.firstCells]) (by omega) (by simpa using hb) (by omega)
    simp only [Nat.zero_add, List.nil_append] at c1 c3 hrun
    have ho1 := out_drew hi (w.drawn + 1)
    have hlen := elsOk_length hs hr
    obtain ⟨g', ho, hv⟩ := new_own (X := X) (w := w.drew) ho1.inv hs (RCs_later ho1.step.later.bare _ _ hr) el extra cap' c1 c2 (by rw [hlen, c3, ← Nat.add_mul]; congr 1; omega) true (fun _ => h0)
    exact ⟨_, _, g', _, _, hk, ⟨ho1.step.trans ho.step, ho.inv⟩, hv, hrun⟩

theorem append_own {t el : TypeId} (hu : P.underlying t = some (.slice el)) (h1 : hasT P el = true) (hz : (zeroC P el).map List.length = some (P.cellsOf el))
    {tgx : Tag} {ys : List V} (hs : elsOk (P.cellsOf el) ys) {tn : Nat} {nb : Bool} {es : List V} (htn : tn ∈ st.tg) (hb : (es.length + ys.length) * P.bytesOf el ≤ 140737488355328) (hm : es.length + ys.length ≤ maxLen)
    (hi : Inv X.B g st w) {us ux : Value} (hsv : RV g w (.lst (.own tn nb (P.cellsOf el)) es) us) (hx : RV g w (.lst tgx ys) ux) (ty : TypeId)
    (hk : K (.lst (.own st.nx nb (P.cellsOf el)) (es ++ ys)) ⟨st.box, st.nx :: st.tg.erase tn, st.nx + 1⟩) :
    ∃ v u g' st' w', K v st' ∧ Out X.B g w g' st' w' ∧ RV g' w' v u ∧ (Builtin.append_ #[t, t] ty #[us, ux]).run P w = .ok u w' := by
  have hl := RV_lst hsv
  simp only [RC] at hl
  have hdrop := hi.dropTag tn
  rcases hl with ⟨rfl, hux, hn1, rfl⟩ | ⟨b, o, cap, ds, hux, hc, ⟨ht1, rfl, ht3⟩, hr, ⟨sz, hf1, hf2⟩, ha⟩
  · injection hux with hux _
    subst hux
    simp only [List.nil_append] at hk
    exact append_nil (st := ⟨st.box, st.tg.erase tn, st.nx⟩) hu h1 hz hs (by simpa using hb) (by simpa using hm) hdrop hx ty hk
  · injection hux with hux _
    subst hux
    obtain ⟨p1, p2, p3, p4, p5, arr, el', p6, p7⟩ := hi.own tn htn b cap es.length _ ht1
    obtain ⟨news, hsrc, hrn⟩ := src_of hu hx hs
    have hlen : ds.length = es.length * P.cellsOf el := by
      rcases hf2 tn nb _ rfl with e | e
      · rw [RCs_length _ w es ds hr]; exact (RCs_length _ w es ds hr).symm.trans (elsOk_length (fun x hx => (hf1 x hx).trans e.symm) hr)
      · subst e; simp only [RCs] at hr; subst hr; simp
    have hes : elsOk (P.cellsOf el) es := by
      rcases hf2 tn nb _ rfl with e | e
      · exact fun x hx => (hf1 x hx).trans e.symm
      · subst e; exact fun x hx => by cases hx
    have hlenN := elsOk_length hs hrn
    have hnb : nb = true → (es ++ ys).length ≠ 0 := fun e => by have := ht3 e; simp; intro h; subst h; simp at this
    by_cases hroom : es.length + ys.length ≤ cap
    · have hrun := run_room hu h1 hsrc ty p6 hroom (by omega)
      have hle : (es.length + ys.length) * P.cellsOf el ≤ cap * P.cellsOf el := Nat.mul_le_mul_right _ hroom
      rw [Nat.add_mul] at hle
      have hdsa : arr.toList.take (es.length * P.cellsOf el) = ds := by
        apply List.ext_getElem?
        intro k
        rw [List.getElem?_take]
        split
        · have hk : k < ds.length := by omega
          have := (ha k ds[k] (by simp [hk])).1
          rw [Nat.zero_add, cell_of_row w b k arr el' (0, 0) p6] at this
          rw [List.getElem?_eq_getElem hk, ← this]; simp
        · rw [List.getElem?_eq_none (by omega)]
      have hsz' : (arr.toList.take (es.length * P.cellsOf el) ++ news ++ arr.toList.drop (es.length * P.cellsOf el + news.length)).toArray.size = arr.size := by simp; omega
      have ho := out_own_write (B := X.B) hi htn ht1 p6 (arr.toList.take (es.length * P.cellsOf el) ++ news ++ arr.toList.drop (es.length * P.cellsOf el + news.length)).toArray hsz'
        (fun k hk => by
          rw [List.getElem?_toArray, List.append_assoc, List.getElem?_append_left (by simp; omega), List.getElem?_take, if_pos hk]
          simp) ys.length
      have hsame := setRow_heap w b arr (arr.toList.take (es.length * P.cellsOf el) ++ news ++ arr.toList.drop (es.length * P.cellsOf el + news.length)).toArray el' (0, 0) p6
      obtain ⟨i2, l2⟩ := ho.inv.addTag rfl (some (b, cap, es.length + ys.length, P.cellsOf el)) (fun b' c n s e => by
        injection e with e; injection e with e1 e; injection e with e2 e; injection e with e3 e4
        subst e1; subst e2; subst e3; subst e4
        refine ⟨p1, if_pos rfl, hroom, p4, p5, ⟨_, el', hsame, by rw [hsz']; exact p7⟩, fun t ht x hx => ?_⟩
        have ht2 := List.mem_of_mem_erase ht
        have := hi.dist tn htn t ht2 b _ x ht1 hx
        subst this
        exact (List.Nodup.not_mem_erase hi.nodup) ht)
      refine ⟨_, _, _, _, _, hk, ⟨ho.step.trans ⟨l2, .refl _ _, .refl _, fun _ _ => rfl⟩, i2⟩, RV_lst_mk ?_, hrun⟩
      have hal := RCs_later (ho.step.later.trans l2).bare _ _ (RCs_append hr hrn)
      simp only [RC]
      refine .inr ⟨b, 0, cap, ds ++ news, by rw [List.length_append], by rw [List.length_append]; exact hroom, ⟨by rw [List.length_append]; exact if_pos rfl, rfl, hnb⟩, hal,
        ⟨P.cellsOf el, elsOk_append hes hs, fun _ _ _ e => by cases e; exact .inl rfl⟩, ?_⟩
      intro k u hk
      have hkl : k < ds.length + news.length := by
        rcases Nat.lt_or_ge k (ds ++ news).length with h | h
        · simpa using h
        · rw [List.getElem?_eq_none h] at hk; cases hk
      refine ⟨?_, ?_⟩
      · rw [Nat.zero_add, cell_of_row _ b k _ el' (0, 0) hsame, hdsa, List.getElem?_toArray, List.getElem?_append_left (by simpa using hkl)]
        exact hk
      · show 0 + k < if b = b then (es.length + ys.length) * P.cellsOf el else g.wm b
        rw [if_pos rfl, Nat.add_mul]; omega
    · have hold : (Builtin.firstCells (P.cellsOf el) es.length (.slice (some ⟨b, 0, none⟩) es.length cap)).run P w.drew = .ok ds.toArray w.drew :=
        run_firstCells_some w.drew _ es.length ⟨b, 0, none⟩ es.length cap ds hlen (fun j u hj => by rw [addr_add]; exact (ha j u hj).1)
      obtain ⟨cap', extra, c1, c2, c3, hrun⟩ := run_grow hu h1 hz hsrc ty hold (by omega) hb hm
      have ho1 := out_drew hdrop (w.drawn + 1)
      obtain ⟨g', ho, hv⟩ := new_own (X := X) (w := w.drew) ho1.inv (elsOk_append hes hs) (RCs_later ho1.step.later.bare _ _ (RCs_append hr hrn)) el extra cap' (by simpa using c1) c2
        (by rw [List.length_append, hlen, hlenN, c3, ← Nat.add_mul, ← Nat.add_mul]; congr 1; omega) nb hnb
      rw [List.length_append] at hv
      exact ⟨_, _, g', _, _, hk, ⟨ho1.step.trans ho.step, ho.inv⟩, hv, hrun⟩

end
end Go.Al

/-
  AL, part 11: append onto what is written, slices of slices, calls; EVERY OPERATION IS SOUND. General: no program in sight.
-/
namespace Go.Al
open Go.RowKit

section
variable {P : Program} {X : Cx} {g : Gh} {w : World} {a : Act} {o : Oper} {st : S} {K : V → S → Prop} {KP : List PanicEntry → S → Prop}

theorem Inv.sameBox {B : Nat} {g : Gh} {st : S} {w : World} (h : Inv B g st w) {box : List (Nat × List V × Nat)} (e : ∀ j, look box j = look st.box j) : Inv B g ⟨box, st.tg, st.nx⟩ w :=
  h.weaken ⟨fun b c hl => (e b).symm.trans hl, fun _ hm => hm, fun hn => hn, fun b hl => (e b).trans hl, Nat.le_refl _⟩

theorem new_cells (hi : Inv X.B g st w) {fs : List V} {us : List Value} (hr : RCs g w fs us) (h1 : allOne fs) (el : TypeId) (extra : List Value) (k : Nat) (hk : us.length + extra.length = k) :
    ∃ g', Out X.B g w g' ⟨lay st.box w.heap.size (fs, k), st.tg, st.nx⟩ (w.alloc (.cells (us ++ extra).toArray el)) := by
  have hl := RCs_length g w _ _ hr
  rw [sizes_one h1] at hl
  have ho := out_alloc hi (us ++ extra).toArray el 0
  refine ⟨_, ⟨ho.step, ?_⟩⟩
  have := ho.inv.addBox (b := w.heap.size) (arr := (us ++ extra).toArray) (el := el) (cs := fs) (us := us) hi.base (if_pos rfl) (alloc_new w _) (by simp; omega) (allOne_mem h1)
    (RCs_later ho.step.later _ _ hr) (by simp [← hl]) (by intro t ht d hd; exact own_fresh hi t ht d hd)
  have e : (us ++ extra).toArray.size = k := by simp; omega
  rw [e] at this
  exact this

theorem allOne_take {fs : List V} (h : allOne fs) (n : Nat) : allOne (fs.take n) := by
  unfold allOne at *
  rw [List.all_eq_true] at *
  exact fun c hc => h c (List.mem_of_mem_take hc)
theorem allOne_append {fs gs : List V} (h : allOne fs) (h' : allOne gs) : allOne (fs ++ gs) := by
  unfold allOne at *
  rw [List.all_append, h, h']; rfl

/-- append onto nil, where the elements are to be written. -/
theorem append_nil_src {t el : TypeId} (hu : P.underlying t = some (.slice el)) (h1 : hasT P el = true) (hz : (zeroC P el).map List.length = some (P.cellsOf el))
    {m : Nat} {fl : List V} {news : List Value} {ux : Value} (hb : m * P.bytesOf el ≤ 140737488355328) (hm : m ≤ maxLen) (h0 : m ≠ 0) (ho1 : allOne fl)
    (hi : Inv X.B g st w) (hsrc : Src P (P.cellsOf el) t ux m news w) (hr : RCs g w fl news) (hlen : news.length = m * P.cellsOf el) (ty : TypeId)
    (hk : ∀ b cap, look st.box b = none → m ≤ cap → K (.at (.slice (some ⟨b, 0, none⟩) m cap)) ⟨lay st.box b (fl, cap * P.cellsOf el), st.tg, st.nx⟩) :
    ∃ v u g' st' w', K v st' ∧ Out X.B g w g' st' w' ∧ RV g' w' v u ∧ (Builtin.append_ #[t, t] ty #[.slice none 0 0, ux]).run P w = .ok u w' := by
  obtain ⟨cap', extra, c1, c2, c3, hrun⟩ := run_grow hu h1 hz hsrc ty (base := none) (n := 0) (cap := 0) (olds := []) (by simp [Builtin.firstCells]) (by omega) (by simpa using hb) (by omega)
  simp only [Nat.zero_add, List.nil_append] at c1 c3 hrun
  have hd := out_drew hi (w.drawn + 1)
  obtain ⟨g', ho⟩ := new_cells (X := X) (w := w.drew) hd.inv (RCs_later hd.step.later _ _ hr) ho1 el extra (cap' * P.cellsOf el) (by rw [hlen, c3, ← Nat.add_mul]; congr 1; omega)
  exact ⟨_, _, g', _, _, hk _ cap' (look_fresh hi) c1, ⟨hd.step.trans ho.step, ho.inv⟩, RV_at_mk rfl, hrun⟩

/-- append onto a row whose elements are written. -/
theorem append_box_src {t el : TypeId} (hu : P.underlying t = some (.slice el)) (h1 : hasT P el = true) (hz : (zeroC P el).map List.length = some (P.cellsOf el))
    {m : Nat} {fl : List V} {news : List Value} {ux : Value} {b len cap : Nat} {cs : List V} (hl : look st.box b = some (cs, cap * P.cellsOf el)) (hlc : len ≤ cap) (hln : len * P.cellsOf el ≤ cs.length)
    (hb : (len + m) * P.bytesOf el ≤ 140737488355328) (hm : len + m ≤ maxLen) (ho1 : allOne fl)
    (hi : Inv X.B g st w) (hsrc : Src P (P.cellsOf el) t ux m news w) (hrf : RCs g w fl news) (hlenN : news.length = m * P.cellsOf el) (ty : TypeId)
    (hk : ∀ b' cap', look (wipe st.box b) b' = none → len + m ≤ cap' → K (.at (.slice (some ⟨b', 0, none⟩) (len + m) cap')) ⟨lay (wipe st.box b) b' (cs.take (len * P.cellsOf el) ++ fl, cap' * P.cellsOf el), st.tg, st.nx⟩) :
    ∃ v u g' st' w', K v st' ∧ Out X.B g w g' st' w' ∧ RV g' w' v u ∧ (Builtin.append_ #[t, t] ty #[.slice (some ⟨b, 0, none⟩) len cap, ux]).run P w = .ok u w' := by
  obtain ⟨p1, p2, p3, p4, arr, el', us, p5, p6, p7, p8⟩ := hi.box b cs _ hl
  have hone : allOne cs := by unfold allOne; rw [List.all_eq_true]; exact p4
  have hul := RCs_length g w cs us p7
  rw [sizes_one hone] at hul
  have hnl := RCs_length g w _ _ hrf
  rw [sizes_one ho1] at hnl
  have hcont : RCs g w (cs.take (len * P.cellsOf el) ++ fl) (us.take (len * P.cellsOf el) ++ news) := RCs_append (RCs_take_drop hone p7 _).1 hrf
  have hone' := allOne_append (allOne_take hone (len * P.cellsOf el)) ho1
  have hust : us.take (len * P.cellsOf el) = arr.toList.take (len * P.cellsOf el) := by
    rw [← p8, List.take_take]; congr 1; omega
  by_cases hroom : len + m ≤ cap
  · have hrun := run_room hu h1 hsrc ty p5 hroom (by omega)
    have hle : (len + m) * P.cellsOf el ≤ cap * P.cellsOf el := Nat.mul_le_mul_right _ hroom
    rw [Nat.add_mul] at hle
    have hsz' : (arr.toList.take (len * P.cellsOf el) ++ news ++ arr.toList.drop (len * P.cellsOf el + news.length)).toArray.size = arr.size := by simp; omega
    have ho := out_setRow (B := X.B) hi hl p5 _ hsz' (cs.take (len * P.cellsOf el) ++ fl) (us.take (len * P.cellsOf el) ++ news) (by simp; omega) (allOne_mem hone') hcont (by
      rw [hust]
      have e : (cs.take (len * P.cellsOf el) ++ fl).length = (arr.toList.take (len * P.cellsOf el) ++ news).length := by simp; omega
      rw [e]
      exact List.take_left)
    refine ⟨_, _, _, _, _, hk b cap (by rw [look_wipe, if_pos rfl]) hroom, ⟨ho.step, ?_⟩, RV_at_mk rfl, hrun⟩
    refine ho.inv.sameBox fun j => ?_
    rw [look_lay, look_lay, look_wipe]
    by_cases e : b = j
    · rw [if_pos e, if_pos e]
    · rw [if_neg e, if_neg e, if_neg e]
  · have hold : (Builtin.firstCells (P.cellsOf el) len (.slice (some ⟨b, 0, none⟩) len cap)).run P w.drew = .ok (us.take (len * P.cellsOf el)).toArray w.drew :=
      run_firstCells_some w.drew _ len ⟨b, 0, none⟩ len cap _ (by simp; omega) (fun j u hj => by
        rw [addr_add, Nat.zero_add]
        show w.cell? _ = _
        rw [cell_of_row w b j arr el' (0, 0) p5]
        rw [hust, List.getElem?_take] at hj
        split at hj
        · simpa using hj
        · cases hj)
    obtain ⟨cap', extra, c1, c2, c3, hrun⟩ := run_grow hu h1 hz hsrc ty hold (by omega) hb hm
    have hd := out_drew (hi.dropBox b) (w.drawn + 1)
    obtain ⟨g', ho⟩ := new_cells (X := X) (w := w.drew) hd.inv (RCs_later hd.step.later _ _ hcont) hone' el extra (cap' * P.cellsOf el) (by
      rw [List.length_append, List.length_take, c3, hlenN, hul, Nat.min_eq_left hln, ← Nat.add_mul, ← Nat.add_mul]; congr 1; omega)
    exact ⟨_, _, g', _, _, hk _ cap' (look_fresh hd.inv) c1, ⟨hd.step.trans ho.step, ho.inv⟩, RV_at_mk rfl, hrun⟩

/-- What is read when the source is a row whose elements are written. -/
theorem src_of_box {t el : TypeId} (hu : P.underlying t = some (.slice el)) {b m cap : Nat} {cs : List V} {k : Nat} (hi : Inv X.B g st w) (hl : look st.box b = some (cs, k)) (hln : m * P.cellsOf el ≤ cs.length) :
    ∃ news, Src P (P.cellsOf el) t (.slice (some ⟨b, 0, none⟩) m cap) m news w ∧ RCs g w (cs.take (m * P.cellsOf el)) news ∧ allOne (cs.take (m * P.cellsOf el)) ∧ news.length = m * P.cellsOf el := by
  obtain ⟨p1, p2, p3, p4, arr, el', us, p5, p6, p7, p8⟩ := hi.box b cs _ hl
  have hone : allOne cs := by unfold allOne; rw [List.all_eq_true]; exact p4
  have hul := RCs_length g w cs us p7
  rw [sizes_one hone] at hul
  have hr := (RCs_take_drop hone p7 (m * P.cellsOf el)).1
  have hlen : (us.take (m * P.cellsOf el)).length = m * P.cellsOf el := by simp; omega
  have hust : us.take (m * P.cellsOf el) = arr.toList.take (m * P.cellsOf el) := by
    rw [← p8, List.take_take]; congr 1; omega
  refine ⟨us.take (m * P.cellsOf el), Src.ofSlice w hu ⟨b, 0, none⟩ m cap _ hlen (fun j u hj => ?_) (RCs_ones _ w _ _ hr), hr, allOne_take hone _, hlen⟩
  rw [addr_add, Nat.zero_add]
  rw [cell_of_row w b j arr el' (0, 0) p5]
  rw [hust, List.getElem?_take] at hj
  split at hj
  · simpa using hj
  · cases hj

theorem RV_nil {es : List V} {u : Value} (h : RV g w (.lst .nil es) u) : u = .slice none 0 0 := by
  have h := RV_lst h
  simp only [RC] at h
  rcases h with ⟨_, hu, _⟩ | ⟨b, o, cap, ds, _, _, ht, _⟩
  · injection hu
  · exact ht.elim

theorem aAppend_spec {L : Pol} {dst : Option Nat} {t t2 : TypeId} {s x : V} (h : aAppend P L dst st t t2 s x K) (hi : Inv X.B g st w) {us ux : Value} (hsv : RV g w s us) (hx : RV g w x ux) (ty : TypeId) :
    ∃ v u g' st' w', K v st' ∧ Out X.B g w g' st' w' ∧ RV g' w' v u ∧ (Builtin.append_ #[t, t2] ty #[us, ux]).run P w = .ok u w' := by
  unfold aAppend at h
  split at h
  · rename_i el tgx ys hel
    obtain ⟨rfl, h1, h2, h3, h4, h5⟩ := h
    have hu := elT_spec hel
    split at h5
    · obtain ⟨h6, h7, h8⟩ := h5
      have e := RV_nil hsv
      subst e
      split at h8
      · obtain ⟨news, hsrc, hr⟩ := src_of hu hx h4
        exact append_nil_src hu h1 h2 h6 h7 (fun e => h8.1 (List.eq_nil_of_length_eq_zero e)) h8.2.1 hi hsrc (RCs_flats (RCs_named g w _ _ hr)) (elsOk_length h4 hr) ty h8.2.2
      · exact append_nil hu h1 h2 h4 h6 h7 hi hx ty h8
    · rename_i tn nb sz es
      obtain ⟨h6, rfl, h7, h8, h9⟩ := h5
      exact append_own hu h1 h2 h4 h6 h7 h8 hi hsv hx ty h9
    · rename_i b len cap
      have e := RV_at hsv
      subst e
      split at h5
      · rename_i cs k hl
        obtain ⟨_, rfl, h6, h7, h8, h9, h10, h11⟩ := h5
        obtain ⟨news, hsrc, hr⟩ := src_of hu hx h4
        exact append_box_src hu h1 h2 hl h6 h7 h8 h9 h10 hi hsrc (RCs_flats (RCs_named g w _ _ hr)) (elsOk_length h4 hr) ty h11
      · cases h5
    · cases h5
  · rename_i el bs m cpx hel
    obtain ⟨rfl, h1, h2, h3, h4, h5⟩ := h
    have hu := elT_spec hel
    have e := RV_at hx
    subst e
    split at h5
    · cases h5
    · rename_i css kk hls
      obtain ⟨h6, h7⟩ := h5
      obtain ⟨news, hsrc, hr, hone, hlen⟩ := src_of_box (cap := cpx) hu hi hls h6
      split at h7
      · obtain ⟨h8, h9, h10, h11⟩ := h7
        have e := RV_nil hsv
        subst e
        exact append_nil_src hu h1 h2 h8 h9 h10 hone hi hsrc hr hlen ty h11
      · rename_i b len cap
        have e := RV_at hsv
        subst e
        split at h7
        · rename_i cs k hl
          obtain ⟨rfl, h8, h9, h10, h11, h12⟩ := h7
          exact append_box_src hu h1 h2 hl h8 h9 h10 h11 hone hi hsrc hr hlen ty h12
        · cases h7
      · cases h7
  · cases h

theorem slTag_nil {tg : Tag} {es : List V} (h : NilOk g tg) (he : es = []) : NilOk g (slTag tg es) := by
  subst he
  cases tg with
  | nil => trivial
  | no => exact h.elim
  | own t nb s => obtain ⟨_, rfl⟩ := h; simp [slTag, tagOf, NilOk]

theorem slTag_no {tg : Tag} {es : List V} {b o cap : Nat} (h : TagOk g es.length b o cap tg) : slTag tg es = .no := by
  cases tg with
  | nil => exact h.elim
  | no => rfl
  | own t nb s =>
    cases nb with
    | false => rfl
    | true => have := h.2.2 rfl; cases es <;> simp at this ⊢; simp [slTag, tagOf]

theorem RCs_take_drop_sz {sz : Nat} : ∀ {es : List V} {ds : List Value} (_ : elsOk sz es) (_ : RCs g w es ds) (n : Nat), RCs g w (es.take n) (ds.take (n * sz)) ∧ RCs g w (es.drop n) (ds.drop (n * sz))
  | [], ds, _, h, n => by simp only [RCs] at h; subst h; simp [RCs]
  | x :: xs, ds, hs, h, n => by
    have h' := h
    simp only [RCs] at h
    obtain ⟨u1, u2, rfl, h1, h2⟩ := h
    have hl := RC_length g w x u1 h1
    rw [hs x (by simp)] at hl
    cases n with
    | zero => simp only [List.take_zero, List.drop_zero, Nat.zero_mul]; exact ⟨by simp [RCs], h'⟩
    | succ n =>
      obtain ⟨k1, k2⟩ := RCs_take_drop_sz (es := xs) (ds := u2) (fun y hy => hs y (by simp [hy])) h2 n
      have e1 : (n + 1) * sz = u1.length + n * sz := by rw [Nat.add_mul, Nat.one_mul, hl]; omega
      rw [e1, List.take_length_add_append, List.drop_length_add_append]
      simp only [List.take_succ_cons, List.drop_succ_cons]
      exact ⟨by simp only [RCs]; exact ⟨u1, _, rfl, h1, k1⟩, k2⟩

theorem bound_ops {e : Env} (hr : Rel X g e st a w) (x : Option Operand) : (∀ v, x.map e.ev = some v → ∃ u, x.map a.eval = some u ∧ RV g w v u) ∧ (x.map e.ev = none → x.map a.eval = none) := by
  cases x with
  | none => exact ⟨fun v h => by simp at h, fun _ => rfl⟩
  | some x => exact ⟨fun v h => by simp at h; subst h; exact ⟨_, rfl, hr.ev x⟩, fun h => by simp at h⟩

theorem aSlice_spec {t : TypeId} {x : V} {lo hi : Option V} {K : V → Prop} (h : aSlice P t x lo hi K) {ux : Value} {ulo uhi : Option Value} (hx : RV g w x ux)
    (hlo : (∀ v, lo = some v → ∃ u, ulo = some u ∧ RV g w v u) ∧ (lo = none → ulo = none)) (hhi : (∀ v, hi = some v → ∃ u, uhi = some u ∧ RV g w v u) ∧ (hi = none → uhi = none)) :
    ∃ v u, K v ∧ RV g w v u ∧ (Instr.sliceAt t ux ulo uhi none).run P w = .ok u w := by
  have cl : ∀ {l : Int}, ((lo = none ∧ ulo = none ∧ l = 0) ∨ ∃ k, ulo = some (.int k l)) → (ulo = none ∧ l = 0) ∨ ∃ k, ulo = some (.int k l) := fun h => h.imp (fun h => ⟨h.2.1, h.2.2⟩) id
  unfold aSlice at h
  split at h
  · rename_i tg es
    split at h
    · cases h
    · rename_i el hel
      have hu := elT_spec hel
      obtain ⟨h1, h2, h⟩ := h
      obtain ⟨l, h, hl⟩ := boundV_spec h hlo.1 hlo.2
      obtain ⟨hh', h, hh⟩ := boundV_spec h hhi.1 hhi.2
      obtain ⟨⟨b0, b1, b2⟩, hk⟩ := h
      have hv := RV_lst hx
      simp only [RC] at hv
      rcases hv with ⟨rfl, hux, hn⟩ | ⟨b, o, cap, ds, hux, hc, ht, hr, ⟨sz, hf1, hf2⟩, ha⟩
      · injection hux with hux _
        subst hux
        simp only [List.length_nil] at b2
        have e1 : l = 0 := by omega
        have e2 : hh' = 0 := by simp at b2; omega
        subst e1; subst e2
        have hsb := run_sliceBounds (P := P) (w := w) (isS := true) (len := 0) (cap := 0) (lo := ulo) (hi := uhi) (cl hl) (hh.imp (fun h => ⟨h.2.1, h.2.2⟩) id) (by omega) (by omega) (by simp)
        refine ⟨_, .slice none 0 0, hk, RV_lst_mk ?_, ?_⟩
        · simp only [RC]
          exact .inl ⟨by simp, trivial, slTag_nil hn rfl⟩
        · simp [Instr.sliceAt, Instr.slice, run_underlying hu, hsb, run_sizeOf' h1]
      · injection hux with hux _
        subst hux
        have hcast : hh' ≤ (cap : Int) := by omega
        have hsb := run_sliceBounds (P := P) (w := w) (isS := true) (len := es.length) (cap := cap) (lo := ulo) (hi := uhi) (cl hl) (hh.imp (fun h => ⟨h.2.1, h.2.2⟩) id) b0 b1 hcast
        have hszn : es = [] ∨ sz = P.cellsOf el := by
          rcases h2 with h2 | h2
          · exact .inl h2
          · cases es with
            | nil => exact .inl rfl
            | cons x xs => exact .inr ((hf1 x (by simp)).symm.trans (h2 x (by simp)))
        have hrun : (Instr.sliceAt t (.slice (some ⟨b, o, none⟩) es.length cap) ulo uhi none).run P w = .ok (.slice (if cap = l.toNat then some ⟨b, o, none⟩ else some ⟨b, o + l.toNat * P.cellsOf el, none⟩) (hh'.toNat - l.toNat) (cap - l.toNat)) w := by
          simp only [Instr.sliceAt, Instr.slice, Sem.run_bind, run_underlying hu, Result.andThen_ok, hsb, run_sizeOf' h1, Sem.run_pure]
          congr 2
          split
          · rfl
          · simp [addr_add]
        refine ⟨_, _, hk, RV_lst_mk ?_, hrun⟩
        rw [slTag_no ht]
        have hlen : ((es.take hh'.toNat).drop l.toNat).length = hh'.toNat - l.toNat := by simp; omega
        simp only [RC]
        refine .inr ⟨b, if cap = l.toNat then o else o + l.toNat * P.cellsOf el, cap - l.toNat, (ds.take (hh'.toNat * sz)).drop (l.toNat * sz), ?_, by rw [hlen]; omega, trivial, ?_, ?_, ?_⟩
        · rw [hlen]; split <;> rfl
        · exact (RCs_take_drop_sz (fun x hx => hf1 x (List.mem_of_mem_take hx)) (RCs_take_drop_sz hf1 hr hh'.toNat).1 l.toNat).2
        · exact ⟨sz, fun x hx => hf1 x (List.mem_of_mem_take (List.mem_of_mem_drop hx)), fun _ _ _ e => by cases e⟩
        · have hdl : ds.length = es.length * sz := elsOk_length hf1 hr
          by_cases ec : cap = l.toNat
          · rw [if_pos ec]
            have : (ds.take (hh'.toNat * sz)).drop (l.toNat * sz) = [] := by
              apply List.drop_of_length_le
              rw [List.length_take]
              have : hh'.toNat * sz ≤ l.toNat * sz := Nat.mul_le_mul_right _ (by omega)
              omega
            rw [this]
            intro k u hk; simp at hk
          · rw [if_neg ec]
            rcases hszn with rfl | rfl
            · simp only [RCs] at hr; subst hr; intro k u hk; simp at hk
            · have := ha.sub (l.toNat * P.cellsOf el) (hh'.toNat * P.cellsOf el - l.toNat * P.cellsOf el)
              rwa [List.take_drop, Nat.add_sub_cancel' (Nat.mul_le_mul_right _ (by omega))] at this
  · rename_i b o len cap
    have e := RV_at hx
    subst e
    split at h
    · cases h
    · rename_i el hel
      have hu := elT_spec hel
      obtain ⟨h1, h⟩ := h
      obtain ⟨l, h, hl⟩ := boundV_spec h hlo.1 hlo.2
      obtain ⟨hh', h, hh⟩ := boundV_spec h hhi.1 hhi.2
      obtain ⟨⟨b0, b1, b2⟩, hk⟩ := h
      have hsb := run_sliceBounds (P := P) (w := w) (isS := true) (len := len) (cap := cap) (lo := ulo) (hi := uhi) (cl hl) (hh.imp (fun h => ⟨h.2.1, h.2.2⟩) id) b0 b1 b2
      refine ⟨_, _, hk, RV_at_mk rfl, ?_⟩
      simp only [Instr.sliceAt, Instr.slice, Sem.run_bind, run_underlying hu, Result.andThen_ok, hsb, run_sizeOf' h1, Sem.run_pure]
      congr 2
      by_cases ec : cap = l.toNat
      · rw [if_pos ec, if_pos (by omega)]
      · rw [if_neg ec, if_neg (by omega)]; simp [addr_add]
  · rename_i s
    have hu := isStrT_spec h.1
    have e := RV_at hx
    subst e
    obtain ⟨l, h, hl⟩ := boundV_spec h.2 hlo.1 hlo.2
    obtain ⟨hh', h, hh⟩ := boundV_spec h hhi.1 hhi.2
    obtain ⟨⟨b0, b1, b2⟩, hk⟩ := h
    have hsb := run_sliceBounds (P := P) (w := w) (isS := false) (len := s.size) (cap := s.size) (lo := ulo) (hi := uhi) (cl hl) (hh.imp (fun h => ⟨h.2.1, h.2.2⟩) id) b0 b1 b2
    refine ⟨_, _, hk, RV_at_mk rfl, ?_⟩
    simp [Instr.sliceAt, Instr.slice, run_underlying hu, hsb]
  · cases h

end
end Go.Al

/-
  AL, part 12: calls; EVERY OPERATION IS SOUND. General: no program in sight.
-/
namespace Go.Al
open Go.RowKit

section
variable {P : Program} {L : Pol} {X : Cx} {g : Gh} {w : World} {a : Act} {o : Oper} {e : Env} {st : S} {K : V → S → Prop} {KP : List PanicEntry → S → Prop}

theorem RV1_named {x : V} {u : Value} (h : RV1 g.bare w x u) : RV1 g w x u := let ⟨us, h1, h2⟩ := h; ⟨us, RC_named g w x us h1, h2⟩
theorem RVs_named {xs : List V} {us : List Value} (h : RVs g.bare w xs us) : RVs g w xs us := by
  induction h with
  | nil => exact .nil
  | cons h _ ih => exact .cons (RV1_named h) ih
theorem RV_named {x : V} {u : Value} (h : RV g.bare w x u) : RV g w x u := by
  cases x with
  | any => trivial
  | tup vs => obtain ⟨us, h1, h2⟩ := h; exact ⟨us, RVs_named h1, h2⟩
  | _ => exact RV1_named h

theorem args_bare (hr : Rel X g e st a w) : ∀ (xs : List Operand), (∀ x ∈ xs.map e.ev, allOne x.flat) → RVs g.bare w ((xs.map e.ev).map V.untag) (xs.map a.eval)
  | [], _ => .nil
  | x :: xs, h => by
    obtain ⟨us, h1, _, h3⟩ := RV_cells (hr.ev x) (h _ (by simp))
    exact .cons ⟨us, RC_untag_bare h1 (h _ (by simp)), by rw [h3, pack_untag]⟩ (args_bare hr xs fun y hy => h y (by simp only [List.map_cons, List.mem_cons]; exact .inr hy))

theorem RVs_append {xs ys : List V} {us vs : List Value} (h : RVs g w xs us) (h' : RVs g w ys vs) : RVs g w (xs ++ ys) (us ++ vs) := by
  induction h with
  | nil => exact h'
  | cons h _ ih => exact .cons h ih

theorem RVs_of_RCs_one : ∀ {xs : List V} {us : List Value}, allOne xs → RCs g w xs us → RVs g w xs us
  | [], us, _, h => by simp only [RCs] at h; subst h; exact .nil
  | x :: xs, us, h1, h => by
    simp only [allOne, List.all_cons, Bool.and_eq_true] at h1
    simp only [RCs] at h
    obtain ⟨u1, u2, rfl, h2, h3⟩ := h
    obtain ⟨u, rfl⟩ := RC_single h2 h1.1
    refine .cons ⟨[u], h2, ?_⟩ (RVs_of_RCs_one h1.2 h3)
    cases x <;> simp [V.isOne] at h1 <;> rfl

theorem args_raw (hr : Rel X g e st a w) : ∀ (xs : List Operand), (∀ x ∈ xs.map e.ev, allOne x.flat) → RVs g w (xs.map e.ev) (xs.map a.eval)
  | [], _ => .nil
  | x :: xs, h => by
    obtain ⟨us, h1, _, h3⟩ := RV_cells (hr.ev x) (h _ (by simp))
    exact .cons ⟨us, h1, h3⟩ (args_raw hr xs fun y hy => h y (by simp only [List.map_cons, List.mem_cons]; exact .inr hy))

theorem RVs_sub {xs as : List V} (h : Sub xs as) : ∀ {us : List Value}, RVs g w xs us → RVs g.bare w (xs.map V.untag) us → RVs g w as us := by
  induction h with
  | nil => intro us h _; exact h
  | keep _ ih =>
    intro us h h'
    cases h with
    | cons p q => cases h' with
      | cons p' q' => exact .cons p (ih q q')
  | drop _ ih =>
    intro us h h'
    cases h with
    | cons p q => cases h' with
      | cons p' q' => exact .cons (RV1_named p') (ih q q')

/-- What a contract without memory gives to a caller. -/
theorem pure_call (hr : Rel X g e st a w) {f : FuncId} {args : List V} {r : V} (h : PureF P f args r) {vs : List Value} (hv : RVs g.bare w args vs) :
    Calls P f vs.toArray w fun en w' => ∃ v g', en = .returned v ∧ Out X.B g w g' st w' ∧ RV g' w' r v := by
  refine (h g.wm w vs hr.inv.fresh (hr.gl.mono hr.inv.base) hv).mono ?_
  rintro en w' ⟨v, wm', rfl, h1, h2, h3⟩
  have hbase := hr.inv.base
  have hl : Later g w ⟨wm', g.tb⟩ w' := ⟨h2.later.wm, fun _ _ e => e, h2.later.cell⟩
  refine ⟨v, ⟨wm', g.tb⟩, rfl, ⟨⟨hl, h2.below.mono hbase, h2.fz, fun b hb => h2.wmB b (by omega)⟩, hr.inv.grow hl h2.below.size (fun b hb => h2.below.block b hb) (fun b hb => h2.wmB b hb) h1 rfl⟩, RV_named (g := ⟨wm', g.tb⟩) h3⟩

theorem run_callFunc {n : FuncId} (h : isCode P n = true) (args : Array Value) : (callFunc n args).run P w = .ok (.enter n args) w := by
  unfold isCode at h
  cases hf : P.funcs[n]? with
  | none => simp [hf] at h
  | some fn =>
    simp only [hf, Bool.and_eq_true, bne_iff_ne, ne_eq] at h
    have hb : fn.body.isNone = false := by cases hq : fn.body <;> simp [hq] at h ⊢
    have hb' : fn.body ≠ none := by intro e; rw [e] at hb; cases hb
    simp [callFunc, hf, h.1, hb']

theorem call_sound {c : Call} {f : Operand} (hop : o.op = .call c) (hc : c.callee = .value f) (hr : Rel X g e st a w) (h : aCall P L (e.ev f) (c.args.toList.map e.ev) st K KP) :
    o.wp P a w (OpOut X g w o a K) (OpPan X g w a KP) := by
  unfold aCall at h
  split at h
  · rename_i n caps hfe
    obtain ⟨hcode, hargs0, hcap, h⟩ := h
    have hargs : ∀ x ∈ c.args.toList.map e.ev, allOne x.flat := fun x hx => List.all_eq_true.1 hargs0 x hx
    have hf := hr.ev f
    rw [hfe] at hf
    obtain ⟨ds, hds, hfv⟩ := RV_clo hf
    have hrun : (execOp a.eval o).run P w = .ok (.enter n ((c.args.toList.map a.eval ++ ds).toArray)) w := by
      unfold execOp
      rw [hop]
      simp only [resolve, hc, hfv, Deferred.ofValue, Sem.run_bind, Sem.run_pure, Result.andThen_ok, invoke]
      rw [run_callFunc hcode]
      congr 2
      apply Array.ext'
      simp
    have hav := args_bare hr c.args.toList hargs
    unfold Oper.wp Oper.upon
    rw [hrun]
    simp only
    split at h
    · obtain ⟨rfl, r, hp, hk⟩ := h
      simp only [RCs] at hds
      subst hds
      rw [List.append_nil]
      refine (pure_call hr hp hav).mono ?_
      rintro en w' ⟨v, g', rfl, h1, h2⟩
      exact ⟨v, r, g', st, rfl, h1, h2, hk⟩
    · obtain ⟨as, hsub, h⟩ := h
      have hvs : RVs g w (as ++ caps) (c.args.toList.map a.eval ++ ds) := by
        exact RVs_append (RVs_sub hsub (args_raw hr c.args.toList hargs) hav) (RVs_of_RCs_one hcap (RCs_named g w _ _ hds))
      refine (h X.B g w _ hr.inv hr.gl hvs).mono ?_
      rintro en w' ⟨g', st', h1, h2, h3⟩
      cases en with
      | returned v => obtain ⟨r, h4, h5⟩ := h3; exact ⟨v, r, g', st', rfl, ⟨h1, h2⟩, h4, h5⟩
      | panicked ch => exact ⟨ch, g', st', rfl, rfl, ⟨h1, h2⟩, h3⟩
      | outgrown => exact h3.elim
  · cases h

theorem parts_of (hr : Rel X g e st a w) : ∀ (ps : List (Nat × Operand)), Parts g w (ps.map fun p => (p.1, e.ev p.2)) (ps.map fun p => (p.1, a.eval p.2))
  | [] => .nil
  | p :: ps => .cons (hr.ev p.2) (parts_of hr ps)

theorem aop_sound (h : aop P L e st o K KP) (hr : Rel X g e st a w) : o.wp P a w (OpOut X g w o a K) (OpPan X g w a KP) := by
  unfold aop at h
  split at h
  · rename_i x hop
    exact still_op hr.inv (by unfold execOp; rw [hop]; rfl) (hr.ev x) h
  · rename_i x hop
    exact still_op hr.inv (by unfold execOp; rw [hop]; rfl) (hr.ev x) h
  · rename_i c x y hop
    obtain ⟨v, t, hk, hc, hv⟩ := aPick_spec h (hr.ev c) (hr.ev x) (hr.ev y)
    exact still_op hr.inv (u := if t then a.eval x else a.eval y) (by unfold execOp; rw [hop]; simp [hc, asBool]) hv hk
  · rename_i op t x y yt hop
    obtain ⟨v, hk, h1, hrun⟩ := aBinI_spec (P := P) (ox := x) (oy := y) h (hr.ev x) (hr.ev y)
    exact still_op hr.inv (by unfold execOp; rw [hop]; exact run_v hrun) (RV_at_mk h1) hk
  · rename_i op t x hop
    obtain ⟨v, hk, h1, hrun⟩ := aUn_spec (P := P) h (hr.ev x)
    exact still_op hr.inv (by unfold execOp; rw [hop]; exact run_v hrun) (RV_at_mk h1) hk
  · rename_i x i hop
    obtain ⟨v, u, hk, hv, hrun⟩ := aExtract_spec (P := P) h (hr.ev x)
    exact still_op hr.inv (by unfold execOp; rw [hop]; exact run_v hrun) hv hk
  · rename_i t x f hop
    obtain ⟨v, u, hk, hv, hrun⟩ := aField_spec h (hr.ev x)
    exact still_op hr.inv (by unfold execOp; rw [hop]; exact run_v hrun) hv hk
  · rename_i t x f hop
    obtain ⟨v, u, hk, hv, hrun⟩ := aFieldAddr_spec h (hr.ev x)
    exact still_op hr.inv (by unfold execOp; rw [hop]; exact run_v hrun) hv hk
  · rename_i t x i hop
    obtain ⟨v, u, hk, hv, hrun⟩ := aIndexAddr_spec h (hr.ev x) (hr.ev i)
    exact still_op hr.inv (by unfold execOp; rw [hop]; exact run_v hrun) hv hk
  · rename_i t x i hop
    obtain ⟨v, u, hk, hv, hrun⟩ := aIndex_spec h (hr.ev x) (hr.ev i)
    exact still_op hr.inv (by unfold execOp; rw [hop]; exact run_v hrun) hv hk
  · rename_i t x hop
    obtain ⟨v, u, hk, hv, hrun⟩ := aLoad_spec h hr.inv (hr.ev x)
    exact still_op hr.inv (by unfold execOp; rw [hop]; exact run_v hrun) hv hk
  · rename_i t x y hop
    obtain ⟨st', w', hk, ho, hrun⟩ := aStore_spec h hr.inv (hr.ev x) (hr.ev y)
    exact wp_of_skip (by unfold execOp; rw [hop]; exact run_u hrun) ⟨undef, .any, g, st', rfl, ho, trivial, hk⟩
  · rename_i t hop
    obtain ⟨v, u, g', st', w', hk, ho, hv, hrun⟩ := aAlloc_spec h hr.inv (.tuple #[])
    exact wp_of_value (by unfold execOp; rw [hop]; exact run_v hrun) ⟨u, v, g', st', rfl, ho, hv, hk⟩
  · rename_i t x hop
    obtain ⟨v, u, g', st', w', hk, ho, hv, hrun⟩ := aBox_spec (P := P) (t := t) h hr.inv (hr.ev x)
    exact wp_of_value (by unfold execOp; rw [hop]; exact run_v hrun) ⟨u, v, g', st', rfl, ho, hv, hk⟩
  · rename_i t parts hop
    obtain ⟨v, u, hk, hv, hrun⟩ := aBuild_spec h (parts_of hr parts.toList)
    refine still_op hr.inv ?_ hv hk
    unfold execOp; rw [hop]
    refine run_v ?_
    have : (parts.map fun x => (x.1, a.eval x.2)) = (parts.toList.map fun p => (p.1, a.eval p.2)).toArray := by apply Array.ext'; simp
    rw [← hrun, ← this]
  · rename_i t n parts hop
    obtain ⟨v, u, g', st', w', hk, ho, hv, hrun⟩ := aBuildSlice_spec h hr.inv (parts_of hr parts.toList)
    refine wp_of_value ?_ ⟨u, v, g', st', rfl, ho, hv, hk⟩
    unfold execOp; rw [hop]
    refine run_v ?_
    have : (parts.map fun x => (x.1, a.eval x.2)) = (parts.toList.map fun p => (p.1, a.eval p.2)).toArray := by apply Array.ext'; simp
    rw [← hrun, ← this]
  · rename_i x hop
    obtain ⟨hk, ad, hu⟩ := aNilCheck_spec h (hr.ev x)
    refine still_op hr.inv (u := a.eval x) ?_ (hr.ev x) hk
    unfold execOp; rw [hop]; simp [hu]
  · rename_i t x lo hi mx hop
    obtain ⟨hmx, h⟩ := h
    have hmx' : mx = none := by simpa using hmx
    subst hmx'
    obtain ⟨v, u, hk, hv, hrun⟩ := aSlice_spec h (hr.ev x) (bound_ops hr lo) (bound_ops hr hi)
    exact still_op hr.inv (by unfold execOp; rw [hop]; exact run_v hrun) hv hk
  · rename_i c hop
    split at h
    · rename_i f hc
      exact call_sound hop hc hr h
    · rename_i b hc
      unfold aBuiltin at h
      have hex : ∀ {u w'}, (builtin b c.argTypes o.type (c.args.map fun | .const _ => true | _ => false) (c.args.toList.map a.eval).toArray).run P w = .ok (.value u) w' → (execOp a.eval o).run P w = .ok (.value u) w' := by
        intro u w' hh
        unfold execOp; rw [hop]
        simp only [resolve, hc, Sem.run_bind, Sem.run_pure, Result.andThen_ok, invoke]
        rw [← hh]
        congr 2
        apply Array.ext'; simp
      split at h
      · rename_i t ts x hts hargs
        have ha : ∃ ox, c.args.toList = [ox] ∧ e.ev ox = x := by
          cases hq : c.args.toList with
          | nil => simp [hq] at hargs
          | cons ox rest => cases rest with
            | nil => simp [hq] at hargs; exact ⟨ox, rfl, hargs⟩
            | cons _ _ => simp [hq] at hargs
        obtain ⟨ox, hox, rfl⟩ := ha
        obtain ⟨v, hk, h1, hrun⟩ := aLen_spec (P := P) h (hr.ev ox) ts o.type
        refine still_op hr.inv (hex ?_) (RV_at_mk h1) hk
        have e1 : c.argTypes = (t :: ts).toArray := by apply Array.ext'; simpa using hts
        rw [hox, e1]
        exact run_v hrun
      · rename_i x y hargs
        have ha : ∃ ox oy, c.args.toList = [ox, oy] ∧ e.ev ox = x ∧ e.ev oy = y := by
          cases hq : c.args.toList with
          | nil => simp [hq] at hargs
          | cons ox rest => cases rest with
            | nil => simp [hq] at hargs
            | cons oy rest => cases rest with
              | nil => simp [hq] at hargs; exact ⟨ox, oy, rfl, hargs.1, hargs.2⟩
              | cons _ _ => simp [hq] at hargs
        obtain ⟨ox, oy, hox, rfl, rfl⟩ := ha
        obtain ⟨v, hk, h1, hrun⟩ := aMax_spec (P := P) h (hr.ev ox) (hr.ev oy) c.argTypes o.type
        refine still_op hr.inv (hex ?_) (RV_at_mk h1) hk
        rw [hox]
        exact run_v hrun
      · rename_i t t2 x y hts hargs
        have ha : ∃ ox oy, c.args.toList = [ox, oy] ∧ e.ev ox = x ∧ e.ev oy = y := by
          cases hq : c.args.toList with
          | nil => simp [hq] at hargs
          | cons ox rest => cases rest with
            | nil => simp [hq] at hargs
            | cons oy rest => cases rest with
              | nil => simp [hq] at hargs; exact ⟨ox, oy, rfl, hargs.1, hargs.2⟩
              | cons _ _ => simp [hq] at hargs
        obtain ⟨ox, oy, hox, rfl, rfl⟩ := ha
        obtain ⟨v, u, g', st', w', hk, ho, hv, hrun⟩ := aAppend_spec (P := P) h hr.inv (hr.ev ox) (hr.ev oy) o.type
        refine wp_of_value (hex ?_) ⟨u, v, g', st', rfl, ho, hv, hk⟩
        have e1 : c.argTypes = #[t, t2] := by apply Array.ext'; simpa using hts
        have e2 : t2 = t := by
          unfold aAppend at h
          split at h
          · exact h.1
          · exact h.1
          · cases h
        subst e2
        rw [hox, e1]
        exact run_v hrun
      · cases h
    · cases h
  · rename_i f t x hop
    obtain ⟨v, hk, h1, hrun⟩ := aConv_spec (P := P) h (hr.ev x)
    exact still_op hr.inv (by unfold execOp; rw [hop]; exact run_v hrun) (RV_at_mk h1) hk
  · cases h

end
end Go.Al

/-
  AL, part 13: regions: in the order of the text; and where the order is drawn, by one walk of the order of the text. General: no program in sight.
-/
namespace Go.Al
open Go.RowKit

section
variable {P : Program} {L : Pol} {X : Cx} {g : Gh} {w : World} {a : Act} {o : Oper} {e : Env} {st : S} {KP : List PanicEntry → S → Prop}

/-- Is the operation carried out? -/
def awant (ds : List (Option Nat)) (e : Env) (gd : Option (Nat × Bool)) : Option Bool :=
  match gd with
  | none => some true
  | some (j, b) =>
    match ds.getD j none with
    | none => none
    | some d => match e.get d with
      | .at (.bool t) => some (t == b)
      | .tup [] => some false
      | _ => none

def astep (P : Program) (L : Pol) (ds : List (Option Nat)) (KP : List PanicEntry → S → Prop) (o : Oper) (K : Env → S → Prop) (e : Env) (st : S) : Prop :=
  match awant ds e o.guard with
  | none => False
  | some c => if c = true then aop P L e st o (fun v st' => K (e.putO o.dst v) st') KP else K (e.putO o.dst (.tup [])) st

/-- A walk over operations. -/
def AL (P : Program) (L : Pol) (ds : List (Option Nat)) (KP : List PanicEntry → S → Prop) : List Oper → (Env → S → Prop) → Env → S → Prop
  | [], K, e, st => K e st
  | o :: os, K, e, st => astep P L ds KP o (AL P L ds KP os K) e st

def noDefer (o : Oper) : Bool := match o.op with | .defer _ => false | _ => true
def dstsIn (N : Nat) (l : List Oper) : Bool := l.all fun o => (match o.dst with | some d => decide (d < N) | none => true) && noDefer o

theorem awant_spec {ops : Array Oper} {ds : List (Option Nat)} (hds : ds = ops.toList.map (·.dst)) (hr : Rel X g e st a w) {c : Bool} (h : awant ds e o.guard = some c) : Region.wanted o (yielded ops a.tmps) = c := by
  unfold awant at h
  unfold Region.wanted
  cases hg : o.guard with
  | none => rw [hg] at h; injection h with h; 
  | some p =>
    obtain ⟨j, b⟩ := p
    rw [hg] at h
    simp only at h ⊢
    cases hd : ds.getD j none with
    | none => rw [hd] at h; cases h
    | some d =>
      rw [hd] at h
      simp only at h
      split at h
      · rename_i t ht
        injection h with h
        have hj : (ops[j]?).bind (·.dst) = some d := by
          subst hds
          simp only [List.getD_eq_getElem?_getD, List.getElem?_map, Array.getElem?_toList] at hd
          cases hq : ops[j]? with
          | none => simp [hq] at hd
          | some oj => simpa [hq] using hd
        have h1 := hr.env d
        rw [ht] at h1
        have h2 := RV_at h1
        have h3 : a.tmps[d]? = some (.bool t) := by
          rw [Array.getD_eq_getD_getElem?] at h2
          cases hq : a.tmps[d]? with
          | none => rw [hq] at h2; simp [undef] at h2
          | some v => rw [hq] at h2; simpa using h2
        have : yielded ops a.tmps j = some t := by unfold yielded; rw [hj]; simp [h3]
        rw [this, ← h]
        cases t <;> cases b <;> rfl
      · rename_i ht
        injection h with h
        have hj : (ops[j]?).bind (·.dst) = some d := by
          subst hds
          simp only [List.getD_eq_getElem?_getD, List.getElem?_map, Array.getElem?_toList] at hd
          cases hq : ops[j]? with
          | none => simp [hq] at hd
          | some oj => simpa [hq] using hd
        have h1 := hr.env d
        rw [ht] at h1
        obtain ⟨us, h2, h3⟩ := h1
        cases h2
        have : yielded ops a.tmps j = none := by
          unfold yielded
          rw [hj]
          rw [Array.getD_eq_getD_getElem?] at h3
          cases hq : a.tmps[d]? with
          | none => simp [hq]
          | some v => rw [hq] at h3; simp at h3; simp [hq, h3]
        rw [this, ← h]
        rfl
      · cases h

theorem dst_lt {N : Nat} {l : List Oper} (h : dstsIn N l = true) (ho : o ∈ l) : ∀ t, o.dst = some t → t < N := by
  intro t ht
  have := (Bool.and_eq_true _ _ ▸ List.all_eq_true.1 h o ho).1
  rw [ht] at this
  simpa using this
theorem dsts_nodefer {N : Nat} {l : List Oper} (h : dstsIn N l = true) (ho : o ∈ l) : ∀ c, o.op ≠ .defer c := by
  intro c e
  have := (Bool.and_eq_true _ _ ▸ List.all_eq_true.1 h o ho).2
  unfold noDefer at this
  rw [e] at this
  cases this

/-- Where one goes. -/
def Goes (X : Cx) (g : Gh) (w : World) (Q : Exit → Env → S → Prop) : Exit → Act → World → Prop :=
  fun ex a' w' => ∃ g' e' st', Step X.B g w g' w' ∧ Rel X g' e' st' a' w' ∧ Q ex e' st'

/-- One operation: what the abstract step says holds of the real one. -/
theorem astep_sound {ops : Array Oper} {ds : List (Option Nat)} (hds : ds = ops.toList.map (·.dst)) {Q : Exit → Env → S → Prop} (hQ : ∀ c s, KP c s → Q (.panic c) [] s)
    {i : Nat} (ho : ops[i]? = some o) (hdst : ∀ t, o.dst = some t → t < X.N) {K : Env → S → Prop} (h : astep P L ds KP o K e st) {g0 : Gh} {w0 : World} (hs : Step X.B g0 w0 g w) (hr : Rel X g e st a w) :
    wpOp P ops (Goes X g0 w0 Q) i (fun a' w' => ∃ g' e' st', Step X.B g0 w0 g' w' ∧ Rel X g' e' st' a' w' ∧ K e' st') a w := by
  unfold astep at h
  unfold wpOp
  simp only [ho]
  cases hw : awant ds e o.guard with
  | none => rw [hw] at h; exact h.elim
  | some c =>
    rw [hw] at h
    simp only at h
    rw [awant_spec hds hr hw]
    cases c with
    | false =>
      simp only [Bool.false_eq_true, if_false] at h ⊢
      exact ⟨g, _, st, hs, hr.put (x := .tup []) (u := undef) (Later.refl _ _) (Below.refl _ _) hr.inv ⟨[], .nil, rfl⟩ _ hdst, h⟩
    | true =>
      simp only [if_true] at h ⊢
      have h1 := aop_sound h hr
      refine .inl ?_
      have key : ∀ (r : Result Next), o.upon P a (OpOut X g w o a fun v st' => K (e.putO o.dst v) st') (OpPan X g w a KP) r →
          o.upon P a (fun a' w' => ∃ g' e' st', Step X.B g0 w0 g' w' ∧ Rel X g' e' st' a' w' ∧ K e' st') (Goes X g0 w0 Q) r := by
        have hk : ∀ a' w', OpOut X g w o a (fun v st' => K (e.putO o.dst v) st') a' w' → ∃ g' e' st', Step X.B g0 w0 g' w' ∧ Rel X g' e' st' a' w' ∧ K e' st' := by
          rintro a' w' ⟨u, v, g', st', rfl, k1, k2, k3⟩
          exact ⟨g', _, st', hs.trans k1.step, hr.put k1.step.later k1.step.below k1.inv k2 _ hdst, k3⟩
        have hp : ∀ ex a' w', OpPan X g w a KP ex a' w' → Goes X g0 w0 Q ex a' w' := by
          rintro ex a' w' ⟨c, g', st', rfl, rfl, k1, k2⟩
          exact ⟨g', [], st', hs.trans k1.step, ⟨k1.inv, fun k => trivial, hr.size, hr.df, hr.gl.below k1.step.below⟩, hQ c st' k2⟩
        intro r hh
        cases r with
        | ok n w' =>
          cases n <;> simp only [Oper.upon] at hh ⊢ <;>
            first
              | exact hk _ _ hh
              | exact hh.elim
              | exact Calls.mono hh (fun (en : Ending) w'' he => by
                  cases en with
                  | returned v => exact hk _ _ he
                  | panicked ch => exact hp _ _ _ he
                  | outgrown => obtain ⟨a1, w1, h2⟩ := he; exact ⟨a1, w1, hp _ _ _ h2⟩)
              | exact Rows.mono hh (fun _ _ he => hk _ _ he)
        | halt x w' => cases x <;> simp only [Oper.upon] at hh ⊢ <;> first | exact hp _ _ _ hh | exact hh.elim
      exact key _ h1

theorem AL_sound {ops : Array Oper} {ds : List (Option Nat)} (hds : ds = ops.toList.map (·.dst)) {Q : Exit → Env → S → Prop} (hQ : ∀ c s, KP c s → Q (.panic c) [] s) {K : Env → S → Prop} (hK : ∀ e s, K e s → Q .normal e s) {g0 : Gh} {w0 : World} :
    ∀ (l : List Oper) (k : Nat) (_ : ∀ j, l[j]? = ops[k + j]?) (_ : ∀ o ∈ l, ∀ t, o.dst = some t → t < X.N) {e : Env} {st : S} {g : Gh} {a : Act} {w : World},
      AL P L ds KP l K e st → Step X.B g0 w0 g w → Rel X g e st a w → wpList P ops (Goes X g0 w0 Q) l a w
  | [], k, _, _, e, st, g, a, w, h, hs, hr => ⟨g, e, st, hs, hr, hK e st h⟩
  | o :: l, k, hl, hd, e, st, g, a, w, h, hs, hr => by
    have h0 : ops[k]? = some o := by simpa using (hl 0).symm
    have h1 := astep_sound hds hQ h0 (hd o (by simp)) h hs hr
    unfold wpOp at h1
    simp only [h0] at h1
    unfold wpList
    have hnext : ∀ a' w', (∃ g' e' st', Step X.B g0 w0 g' w' ∧ Rel X g' e' st' a' w' ∧ AL P L ds KP l K e' st') → wpList P ops (Goes X g0 w0 Q) l a' w' := by
      rintro a' w' ⟨g', e', st', k1, k2, k3⟩
      exact AL_sound hds hQ hK l (k + 1) (fun j => by have := hl (j + 1); simpa [Nat.add_assoc, Nat.add_comm 1 j] using this) (fun o ho => hd o (by simp [ho])) k3 k1 k2
    split
    · rename_i hw
      simp only [hw, if_true] at h1
      exact h1.imp (Oper.wp_mono hnext) id
    · rename_i hw
      simp only [hw] at h1
      exact hnext _ _ h1

/-! ### Operations within a round, too -/
theorem wpOp_in {P : Program} {o : Oper} {a : Act} {w : World} {ro : Option Nat} {n : Nat} {next : Act → World → Prop} {Q : Exit → Act → World → Prop} (hd : ∀ c, o.op ≠ .defer c) (h : o.wp P a w next Q) : o.wpIn (fen ro) n P a w next Q := by
  refine ⟨fun _ _ => trivial, ?_⟩
  rw [Oper.semAt_eq _ _ _ hd]
  unfold Oper.wp at h
  generalize (execOp a.eval o).run P w = r at h
  have hrd : ∀ {row : String} {args : Array Value} {w' : World} {R : Value → World → Prop}, Rows P row args w' R → RowsIn (fen ro) (n - 1) P row args w' R := fun hc c cs _ => let ⟨v, w2, r, st⟩ := hc c cs; ⟨v, w2, r, stepsIn_wide.2 st⟩
  have hwd : ∀ {f : FuncId} {args : Array Value} {w' : World} {R : Ending → World → Prop}, Calls P f args w' R → CallsIn (fen ro) (n - 1) P f args w' R := fun hc => (callsIn_wide (n := n - 1)).2 hc
  cases r with
  | ok x w' =>
    cases x <;> simp only [Oper.upon, Oper.uponIn] at h ⊢ <;>
      first
        | exact h
        | exact ⟨fun e => (by cases e), hwd h⟩
        | exact ⟨fun e => (by cases e), hrd h⟩
        | exact h.elim
  | halt x w' => cases x <;> simp only [Oper.upon, Oper.uponIn] at h ⊢ <;> exact h

theorem wpOps_in {P : Program} {ops : Array Oper} {ro : Option Nat} {n : Nat} {Q : Exit → Act → World → Prop} (hd : ∀ o ∈ ops.toList, ∀ c, o.op ≠ .defer c) (hQ : ¬ LetsOut Q) : ∀ (l : List Nat) (a : Act) (w : World), wpOps P ops Q l a w → wpOpsIn (fen ro) n P ops Q l a w
  | [], a, w, h => h
  | i :: rest, a, w, h => by
    unfold wpOps at h
    unfold wpOpsIn
    cases ho : ops[i]? with
    | none => rw [ho] at h; exact wpOps_in hd hQ rest a w h
    | some o =>
      rw [ho] at h
      simp only at h ⊢
      have hm : o ∈ ops.toList := by simpa using Array.mem_of_getElem? ho
      split
      · rename_i hw
        rw [if_pos hw] at h
        rcases h with h | h
        · exact wpOp_in (hd o hm) (Oper.wp_mono (fun a' w' k => wpOps_in hd hQ rest a' w' k) h)
        · exact absurd h.2 hQ
      · rename_i hw
        rw [if_neg hw] at h
        exact ⟨fun _ _ => trivial, wpOps_in hd hQ rest _ w h⟩

theorem goes_lets {X : Cx} {g : Gh} {w : World} {Q : Exit → Env → S → Prop} (hQ : ∀ e s, ¬ Q .outgrown e s) : ¬ LetsOut (Goes X g w Q) := fun ⟨_, _, _, _, _, _, _, h⟩ => hQ _ _ h

/-- Of an exit: normal, or a panic. -/
def inQ (Q : Exit → Env → S → Prop) : Exit → Env → S → Prop
  | .normal, e, s => Q .normal e s
  | .panic c, e, s => Q (.panic c) e s
  | _, _, _ => False
theorem goes_inQ {X : Cx} {g : Gh} {w : World} {Q : Exit → Env → S → Prop} : ∀ ex a' w', Goes X g w (inQ Q) ex a' w' → Goes X g w Q ex a' w' := by
  rintro ex a' w' ⟨g', e', st', k1, k2, k3⟩
  refine ⟨g', e', st', k1, k2, ?_⟩
  cases ex <;> first | exact k3 | exact k3.elim

/-- A REGION IN THE ORDER OF THE TEXT. -/
theorem awp_region {Q : Exit → Env → S → Prop} {id : Nat} {l : List Oper} (ds : List (Option Nat)) (hds : l.map (·.dst) = ds) (hd : dstsIn X.N l = true)
    (h : AL P L ds (fun c s => Q (.panic c) [] s) l (fun e' s' => Q .normal e' s') e st) : awp P X (.region id l.toArray false) Q e st := by
  intro g a w hr
  have hnd : ∀ o ∈ l.toArray.toList, ∀ c, o.op ≠ .defer c := fun o ho => dsts_nodefer hd (by simpa using ho)
  have h1 : wpList P l.toArray (Goes X g w (inQ Q)) l a w := AL_sound (ops := l.toArray) (ds := ds) (by simpa using hds.symm) (fun _ _ k => k) (fun _ _ k => k) l 0 (fun j => by simp) (fun o ho => dst_lt hd ho) h (Step.refl _ _ _) hr
  refine wpIn_mono (wpIn_region (wpOps_in hnd (goes_lets fun _ _ k => k) _ a w ?_)) goes_inQ
  have e1 := wpOps_eq_wpList (P := P) (ops := l.toArray) (Q := Goes X g w (inQ Q)) l 0 (fun j => by simp)
  rw [List.range_eq_range']
  rw [show l.toArray.size = l.length from by simp, e1]
  exact h1

end
end Go.Al

/-
  AL, part 14: a function's contract out of its body. General: no program in sight.
-/
namespace Go.Al
open Go.RowKit

def aResults (P : Program) : List ResultVar → Env → S → (List V → Prop) → Prop
  | [], _, _, K => K []
  | .tmp t :: rs, e, st, K => allOne (e.get t).flat ∧ aResults P rs e st fun xs => K ((e.get t).untag :: xs)
  | .cell p t :: rs, e, st, K => aLoad P st t (e.get p) fun v => allOne v.flat ∧ aResults P rs e st fun xs => K (v.untag :: xs)

def finV : List V → V
  | [x] => x
  | xs => .tup xs

def argsE : Nat → List V → Env
  | _, [] => []
  | n, x :: xs => (n, x) :: argsE (n + 1) xs

/-- What holds where a function ends. -/
def retE (P : Program) (rs : List ResultVar) (Q : Outc → S → Prop) : Exit → Env → S → Prop
  | .normal, e, st | .ret, e, st => aResults P rs e st fun xs => Q (.ret (finV xs)) st
  | .panic c, _, st => Q (.pan c) st
  | _, _, _ => False

/-- The same, of a contract over a store: results with their names; of the store what is wanted. -/
def aResultsR (P : Program) : List ResultVar → Env → S → (List V → Prop) → Prop
  | [], _, _, K => K []
  | .tmp t :: rs, e, st, K => allOne (e.get t).flat ∧ aResultsR P rs e st fun xs => K (e.get t :: xs)
  | .cell p t :: rs, e, st, K => aLoad P st t (e.get p) fun v => allOne v.flat ∧ aResultsR P rs e st fun xs => K (v :: xs)

def retER (P : Program) (rs : List ResultVar) (Q : Outc → S → Prop) : Exit → Env → S → Prop
  | .normal, e, st | .ret, e, st => aResultsR P rs e st fun xs => ∃ s0, st.sub s0 ∧ Q (.ret (finV xs)) s0
  | .panic c, _, st => Q (.pan c) st
  | _, _, _ => False

section
variable {P : Program} {X : Cx} {g : Gh} {w : World} {a : Act} {e : Env} {st : S}

theorem argsE_get : ∀ (xs : List V) (n k : Nat), (argsE n xs).get k = if n ≤ k ∧ k < n + xs.length then xs.getD (k - n) .any else .any
  | [], n, k => by simp [argsE, Env.get]
  | x :: xs, n, k => by
    simp only [argsE, Env.get]
    by_cases h : n = k
    · subst h; simp
    · rw [if_neg h, argsE_get xs (n + 1) k]
      by_cases h1 : n + 1 ≤ k ∧ k < n + 1 + xs.length
      · rw [if_pos h1, if_pos (by simp; omega)]
        have : k - n = (k - (n + 1)) + 1 := by omega
        rw [this]; simp
      · rw [if_neg h1, if_neg (by simp; omega)]

theorem enter_rel {B N : Nat} {args : List V} {vs : List Value} (hi : Inv B g st w) (hgl : GlobOk B w) (hv : RVs g w args vs) (hN : args.length ≤ N) :
    Rel ⟨B, N, none⟩ g (argsE 0 args) st { tmps := vs.toArray ++ Array.replicate (N - vs.toArray.size) undef, defers := [] } w := by
  have hl := hv.length
  refine ⟨hi, fun k => ?_, by simp; omega, rfl, hgl⟩
  rw [argsE_get]
  split
  · rename_i h
    have hk : k < args.length := by omega
    obtain ⟨u, hu, hr⟩ := hv.get k args[k] (List.getElem?_eq_getElem hk)
    have hk2 : k < vs.length := by omega
    have e1 : args.getD (k - 0) .any = args[k] := by simp [hk]
    rw [e1]
    have e2 : (vs.toArray ++ Array.replicate (N - vs.toArray.size) undef).getD k undef = u := by
      rw [List.getElem?_eq_getElem hk2] at hu
      injection hu with hu
      rw [Array.getD_eq_getD_getElem?, Array.getElem?_append_left (by simpa using hk2)]
      simp [hk2, hu]
    rw [e2]
    exact RV.of_RV1 hr
  · trivial

theorem RVs_bare_mk {x : V} {u : Value} (h : RV g w x u) (h1 : allOne x.flat) : RV1 g.bare w x.untag u := by
  obtain ⟨us, h2, _, h4⟩ := RV_cells h h1
  exact ⟨us, RC_untag_bare h2 h1, by rw [h4, pack_untag]⟩

def resOf (tmps : Array Value) : ResultVar → Sem Value
  | .tmp t => pure (tmps.getD t undef)
  | .cell p t => do loadVar t (← asAddr (tmps.getD p undef))

theorem aResults_spec : ∀ {rs : List ResultVar} {K : List V → Prop} (_ : aResults P rs e st K) (_ : Rel X g e st a w), ∃ xs us, K xs ∧ RVs g.bare w xs us ∧
    (rs.mapM (resOf a.tmps)).run P w = .ok us w
  | [], K, h, hr => ⟨[], [], h, .nil, by simp⟩
  | .tmp t :: rs, K, h, hr => by
    obtain ⟨h1, h2⟩ := h
    obtain ⟨xs, us, k1, k2, k3⟩ := aResults_spec h2 hr
    refine ⟨_, a.tmps.getD t undef :: us, k1, .cons (RVs_bare_mk (hr.env t) h1) k2, ?_⟩
    simp only [List.mapM_cons, Sem.run_bind, resOf, Sem.run_pure, Result.andThen_ok]
    rw [k3]; rfl
  | .cell p t :: rs, K, h, hr => by
    obtain ⟨v, u, ⟨h1, h2⟩, hv, hrun⟩ := aLoad_spec h hr.inv (hr.env p)
    obtain ⟨xs, us, k1, k2, k3⟩ := aResults_spec h2 hr
    have hptr : ∃ ad, a.tmps.getD p undef = .pointer (some ad) := by
      have hp := hr.env p
      replace h : aLoad P st t (e.get p) (fun v => allOne v.flat ∧ aResults P rs e st fun xs => K (v.untag :: xs)) := h
      unfold aLoad at h
      split at h
      · rename_i y hy; rw [hy] at hp; obtain ⟨b, o, ds, e1, _⟩ := RV_rptr hp; exact ⟨_, e1⟩
      · rename_i b o hy; rw [hy] at hp; exact ⟨_, RV_at hp⟩
      · cases h
    obtain ⟨ad, had⟩ := hptr
    refine ⟨_, u :: us, k1, .cons (RVs_bare_mk hv h1) k2, ?_⟩
    rw [had] at hrun
    simp only [Instr.loadAt, Instr.sureAddr, Sem.run_bind, Sem.run_pure, Result.andThen_ok] at hrun
    simp only [List.mapM_cons, Sem.run_bind, resOf, had, asAddr, Sem.run_pure, Result.andThen_ok, hrun]
    rw [k3]; rfl

theorem RV_fin {xs : List V} {us : List Value} (h : RVs g w xs us) : RV g w (finV xs) (if h : us.toArray.size = 1 then us.toArray[0] else .tuple us.toArray) := by
  cases h with
  | nil => simp [finV]; exact ⟨[], .nil, rfl⟩
  | cons h hs =>
    cases hs with
    | nil => simp [finV]; exact RV.of_RV1 h
    | cons h2 hs =>
      simp [finV]
      exact ⟨_, .cons h (.cons h2 hs), rfl⟩

theorem results_run {fn : Func} {us : List Value} (h : (fn.results.toList.mapM (resOf a.tmps)).run P w = .ok us w) :
    (results fn a.tmps).run P w = .ok (if h : us.toArray.size = 1 then us.toArray[0] else .tuple us.toArray) w := by
  have e : results fn a.tmps = (do let vs ← fn.results.mapM (resOf a.tmps); pure (if h : vs.size = 1 then vs[0] else .tuple vs)) := by
    unfold results
    congr 1
  rw [e, Array.mapM_eq_mapM_toList]
  have : (Functor.map List.toArray (fn.results.toList.mapM (resOf a.tmps))).run P w = .ok us.toArray w := by
    rw [← bind_pure_comp, Sem.run_bind, h]; rfl
  rw [Sem.run_bind, this]
  rfl

theorem RVs_mk_raw {x : V} {u : Value} (h : RV g w x u) (h1 : allOne x.flat) : RV1 g w x u := by
  obtain ⟨us, h2, _, h4⟩ := RV_cells h h1
  exact ⟨us, h2, h4⟩

theorem aResultsR_spec : ∀ {rs : List ResultVar} {K : List V → Prop} (_ : aResultsR P rs e st K) (_ : Rel X g e st a w), ∃ xs us, K xs ∧ RVs g w xs us ∧
    (rs.mapM (resOf a.tmps)).run P w = .ok us w
  | [], K, h, hr => ⟨[], [], h, .nil, by simp⟩
  | .tmp t :: rs, K, h, hr => by
    obtain ⟨h1, h2⟩ := h
    obtain ⟨xs, us, k1, k2, k3⟩ := aResultsR_spec h2 hr
    refine ⟨_, a.tmps.getD t undef :: us, k1, .cons (RVs_mk_raw (hr.env t) h1) k2, ?_⟩
    simp only [List.mapM_cons, Sem.run_bind, resOf, Sem.run_pure, Result.andThen_ok]
    rw [k3]; rfl
  | .cell p t :: rs, K, h, hr => by
    obtain ⟨v, u, ⟨h1, h2⟩, hv, hrun⟩ := aLoad_spec h hr.inv (hr.env p)
    obtain ⟨xs, us, k1, k2, k3⟩ := aResultsR_spec h2 hr
    have hptr : ∃ ad, a.tmps.getD p undef = .pointer (some ad) := by
      have hp := hr.env p
      replace h : aLoad P st t (e.get p) (fun v => allOne v.flat ∧ aResultsR P rs e st fun xs => K (v :: xs)) := h
      unfold aLoad at h
      split at h
      · rename_i y hy; rw [hy] at hp; obtain ⟨b, o, ds, e1, _⟩ := RV_rptr hp; exact ⟨_, e1⟩
      · rename_i b o hy; rw [hy] at hp; exact ⟨_, RV_at hp⟩
      · cases h
    obtain ⟨ad, had⟩ := hptr
    refine ⟨_, u :: us, k1, .cons (RVs_mk_raw hv h1) k2, ?_⟩
    rw [had] at hrun
    simp only [Instr.loadAt, Instr.sureAddr, Sem.run_bind, Sem.run_pure, Result.andThen_ok] at hrun
    simp only [List.mapM_cons, Sem.run_bind, resOf, had, asAddr, Sem.run_pure, Result.andThen_ok, hrun]
    rw [k3]; rfl

/-- A contract over a store, out of the body. -/
theorem FnC_intro {f : FuncId} {fn : Func} {c : Code} {args : List V} {Q : Outc → S → Prop} {N : Nat} {rs : List ResultVar} (hf : P.funcs[f]? = some fn) (hb : fn.body = some c) (hn : fn.ntmps = N) (hrs : fn.results = rs.toArray) (hN : args.length ≤ N)
    (h : ∀ B, awp P ⟨B, N, none⟩ c (retER P rs Q) (argsE 0 args) st) : FnC P f args st Q := by
  intro B g w vs hi hgl hv
  refine calls_of_wp hf hb ?_
  have hr := enter_rel (N := N) hi hgl hv hN
  rw [hn]
  refine wpIn_wide.1 (wpIn_mono (h B g _ w hr) ?_)
  rintro ex a' w' ⟨g', e', st', h1, h2, h3⟩
  have hrs' : fn.results.toList = rs := by rw [hrs]
  subst hrs'
  have hret : aResultsR P fn.results.toList e' st' (fun xs => ∃ s0, st'.sub s0 ∧ Q (.ret (finV xs)) s0) → a'.defers = [] ∧ ∃ v, (results fn a'.tmps).run P w' = .ok v w' ∧
      ∃ g' st', Step B g w g' w' ∧ Inv B g' st' w' ∧ ∃ r, RV g' w' r v ∧ Q (.ret r) st' := by
    intro h3
    obtain ⟨xs, us, ⟨s0, k0, k1⟩, k2, k3⟩ := aResultsR_spec h3 h2
    exact ⟨h2.df, _, results_run k3, g', s0, h1, h2.inv.weaken k0, _, RV_fin k2, k1⟩
  cases ex with
  | normal => exact hret h3
  | ret => exact hret h3
  | panic c => exact ⟨h2.df, g', st', h1, h2.inv, h3⟩
  | exit id => exact h3.elim
  | goto l => exact h3.elim
  | outgrown => exact h3.elim

/-- A contract without memory, out of the body. -/
theorem PureF_intro {f : FuncId} {fn : Func} {c : Code} {args : List V} {r : V} {N : Nat} {rs : List ResultVar} (hf : P.funcs[f]? = some fn) (hb : fn.body = some c) (hn : fn.ntmps = N) (hrs : fn.results = rs.toArray) (hN : args.length ≤ N)
    (h : ∀ B, awp P ⟨B, N, none⟩ c (retE P rs fun oc _ => oc = .ret r) (argsE 0 args) ⟨[], [], 0⟩) : PureF P f args r := by
  intro wm w vs hwm hgl hv
  refine calls_of_wp hf hb ?_
  have hi : Inv w.heap.size ⟨wm, fun _ => none⟩ ⟨[], [], 0⟩ w :=
    ⟨Nat.le_refl _, (fun b cs k hl => nomatch hl), (fun t ht => nomatch ht), (fun t ht => nomatch ht), (fun t ht => nomatch ht), List.nodup_nil, hwm, fun _ _ => rfl⟩
  have hr := enter_rel (N := N) hi hgl hv hN
  rw [hn]
  refine wpIn_wide.1 (wpIn_mono (h _ _ _ w hr) ?_)
  rintro ex a' w' ⟨g', e', st', h1, h2, h3⟩
  have hrs' : fn.results.toList = rs := by rw [hrs]
  subst hrs'
  have hret : aResults P fn.results.toList e' st' (fun xs => (Outc.ret (finV xs)) = .ret r) → a'.defers = [] ∧ ∃ v, (results fn a'.tmps).run P w' = .ok v w' ∧
      ∃ v_1 wm', Ending.returned v = .returned v_1 ∧ (∀ b, w'.heap.size ≤ b → wm' b = 0) ∧ Step w.heap.size ⟨wm, fun _ => none⟩ w ⟨wm', fun _ => none⟩ w' ∧ RV ⟨wm', fun _ => none⟩ w' r v_1 := by
    intro h3
    obtain ⟨xs, us, k1, k2, k3⟩ := aResults_spec h3 h2
    injection k1 with k1
    subst k1
    exact ⟨h2.df, _, results_run k3, _, g'.wm, rfl, h2.inv.fresh, ⟨⟨h1.later.wm, (fun _ _ e => nomatch e), h1.later.cell⟩, h1.below, h1.fz, h1.wmB⟩, RV_fin k2⟩
  cases ex with
  | normal => exact hret h3
  | ret => exact hret h3
  | panic c => cases h3
  | exit id => exact h3.elim
  | goto l => exact h3.elim
  | outgrown => exact h3.elim

end
end Go.Al

/-
  AL, part 15: the equations by which a walk goes. General: no program in sight.
-/
namespace Go.Al

section
variable {P : Program} {L : Pol} {ds : List (Option Nat)} {KP : List PanicEntry → S → Prop} {os : List Oper} {K : Env → S → Prop} {e : Env} {st : S}
variable {d : Option Nat} {ty : TypeId} {pos : String} {af : Array Edge}

theorem AL_nil : AL P L ds KP [] K e st = K e st := rfl
theorem AL_move (x : Operand) : AL P L ds KP (⟨d, .move x, ty, pos, af, none⟩ :: os) K e st = AL P L ds KP os K (e.putO d (e.ev x)) st := rfl
theorem AL_assign (x : Operand) : AL P L ds KP (⟨d, .assign x, ty, pos, af, none⟩ :: os) K e st = AL P L ds KP os K (e.putO d (e.ev x)) st := rfl
theorem AL_pick (c x y : Operand) : AL P L ds KP (⟨d, .pick c x y, ty, pos, af, none⟩ :: os) K e st = aPick (e.ev c) (e.ev x) (e.ev y) fun v => AL P L ds KP os K (e.putO d v) st := rfl
theorem AL_bin (op : BinOp) (t : TypeId) (x y : Operand) (t2 : TypeId) : AL P L ds KP (⟨d, .binOp op t x y t2, ty, pos, af, none⟩ :: os) K e st = aBinI P op t (isCon y) (e.ev x) (e.ev y) fun v => AL P L ds KP os K (e.putO d v) st := rfl
theorem AL_un (op : UnOp) (t : TypeId) (x : Operand) : AL P L ds KP (⟨d, .unOp op t x, ty, pos, af, none⟩ :: os) K e st = aUn op (e.ev x) fun v => AL P L ds KP os K (e.putO d v) st := rfl
theorem AL_extract (x : Operand) (i : Nat) : AL P L ds KP (⟨d, .extract x i, ty, pos, af, none⟩ :: os) K e st = aExtract (e.ev x) i fun v => AL P L ds KP os K (e.putO d v) st := rfl
theorem AL_field (t : TypeId) (x : Operand) (f : Nat) : AL P L ds KP (⟨d, .field t x f, ty, pos, af, none⟩ :: os) K e st = aField P t (e.ev x) f fun v => AL P L ds KP os K (e.putO d v) st := rfl
theorem AL_fieldAddr (t : TypeId) (x : Operand) (f : Nat) : AL P L ds KP (⟨d, .fieldAddr t x f, ty, pos, af, none⟩ :: os) K e st = aFieldAddr P t (e.ev x) f fun v => AL P L ds KP os K (e.putO d v) st := rfl
theorem AL_indexAddr (t : TypeId) (x i : Operand) : AL P L ds KP (⟨d, .indexAddr t x i, ty, pos, af, none⟩ :: os) K e st = aIndexAddr P t (e.ev x) (e.ev i) fun v => AL P L ds KP os K (e.putO d v) st := rfl
theorem AL_index (t : TypeId) (x i : Operand) : AL P L ds KP (⟨d, .index t x i, ty, pos, af, none⟩ :: os) K e st = aIndex P t (e.ev x) (e.ev i) fun v => AL P L ds KP os K (e.putO d v) st := rfl
theorem AL_load (t : TypeId) (x : Operand) : AL P L ds KP (⟨d, .load t x, ty, pos, af, none⟩ :: os) K e st = aLoad P st t (e.ev x) fun v => AL P L ds KP os K (e.putO d v) st := rfl
theorem AL_store (t : TypeId) (x y : Operand) : AL P L ds KP (⟨d, .store t x y, ty, pos, af, none⟩ :: os) K e st = aStore P st t (e.ev x) (e.ev y) fun st' => AL P L ds KP os K (e.putO d .any) st' := rfl
theorem AL_alloc (t : TypeId) : AL P L ds KP (⟨d, .alloc t, ty, pos, af, none⟩ :: os) K e st = aAlloc P st t fun v st' => AL P L ds KP os K (e.putO d v) st' := rfl
theorem AL_box (t : TypeId) (x : Operand) : AL P L ds KP (⟨d, .box t x, ty, pos, af, none⟩ :: os) K e st = aNew st (e.ev x).flat fun v st' => AL P L ds KP os K (e.putO d v) st' := rfl
theorem AL_build (t : TypeId) (ps : List (Nat × Operand)) : AL P L ds KP (⟨d, .build t ps.toArray, ty, pos, af, none⟩ :: os) K e st = aBuild P t (ps.map fun p => (p.1, e.ev p.2)) fun v => AL P L ds KP os K (e.putO d v) st := rfl
theorem AL_buildSlice (t : TypeId) (n : Nat) (ps : List (Nat × Operand)) : AL P L ds KP (⟨d, .buildSlice t n ps.toArray, ty, pos, af, none⟩ :: os) K e st = aBuildSlice P L d st t n (ps.map fun p => (p.1, e.ev p.2)) fun v st' => AL P L ds KP os K (e.putO d v) st' := rfl
theorem AL_nilCheck (x : Operand) : AL P L ds KP (⟨d, .nilCheck x, ty, pos, af, none⟩ :: os) K e st = aNilCheck (e.ev x) fun v => AL P L ds KP os K (e.putO d v) st := rfl
theorem AL_slice (t : TypeId) (x : Operand) (lo hi : Option Operand) : AL P L ds KP (⟨d, .slice t x lo hi none, ty, pos, af, none⟩ :: os) K e st = (true = true ∧ aSlice P t (e.ev x) (lo.map e.ev) (hi.map e.ev) fun v => AL P L ds KP os K (e.putO d v) st) := rfl
theorem AL_len (t : TypeId) (x : Operand) : AL P L ds KP (⟨d, .call ⟨.builtin .len, #[x], #[t]⟩, ty, pos, af, none⟩ :: os) K e st = aLen P t (e.ev x) fun v => AL P L ds KP os K (e.putO d v) st := rfl
theorem AL_max (t t2 : TypeId) (x y : Operand) : AL P L ds KP (⟨d, .call ⟨.builtin .max, #[x, y], #[t, t2]⟩, ty, pos, af, none⟩ :: os) K e st = aMax (e.ev x) (e.ev y) fun v => AL P L ds KP os K (e.putO d v) st := rfl
theorem AL_append (t t2 : TypeId) (x y : Operand) : AL P L ds KP (⟨d, .call ⟨.builtin .append, #[x, y], #[t, t2]⟩, ty, pos, af, none⟩ :: os) K e st = aAppend P L d st t t2 (e.ev x) (e.ev y) fun v st' => AL P L ds KP os K (e.putO d v) st' := rfl

/-- A guarded operation. -/
def aGuard : V → Bool → Prop → Prop → Prop
  | .at (.bool t), b, A, B => if t = b then A else B
  | .tup [], _, _, B => B
  | _, _, _, _ => False

theorem AL_guard (op : Op) (j : Nat) (b : Bool) (t : Nat) (hj : ds.getD j none = some t) : AL P L ds KP (⟨d, op, ty, pos, af, some (j, b)⟩ :: os) K e st =
    aGuard (e.get t) b (AL P L ds KP (⟨d, op, ty, pos, af, none⟩ :: os) K e st) (AL P L ds KP os K (e.putO d (.tup [])) st) := by
  show astep P L ds KP ⟨d, op, ty, pos, af, some (j, b)⟩ (AL P L ds KP os K) e st = aGuard (e.get t) b (astep P L ds KP ⟨d, op, ty, pos, af, none⟩ (AL P L ds KP os K) e st) _
  unfold astep aGuard awant
  simp only [hj]
  cases hv : e.get t with
  | tup vs => cases vs <;> rfl
  | any => rfl
  | agg fs => rfl
  | lst tg es => rfl
  | rptr x => rfl
  | ifx => rfl
  | clo fn caps => rfl
  | _ =>
    rename_i v
    cases v with
    | bool c => cases c <;> cases b <;> rfl
    | _ => rfl

theorem aGuard_same (b : Bool) (A B : Prop) : aGuard (.at (.bool b)) b A B = A := by simp [aGuard]
theorem aGuard_tf (A B : Prop) : aGuard (.at (.bool true)) false A B = B := rfl
theorem aGuard_ft (A B : Prop) : aGuard (.at (.bool false)) true A B = B := rfl

/-- A call by a contract without memory. -/
theorem AL_call {f : FuncId} {xs : List Operand} {ts : Array TypeId} (r : V) (hL : L.pf f = true) (hc : isCode P f = true) (ha : ((xs.map e.ev).all fun x => x.flat.all V.isOne) = true) (hp : PureF P f ((xs.map e.ev).map V.untag) r)
    (h : AL P L ds KP os K (e.putO d r) st) : AL P L ds KP (⟨d, .call ⟨.value (.func f), xs.toArray, ts⟩, ty, pos, af, none⟩ :: os) K e st := by
  show isCode P f = true ∧ _ ∧ _ ∧ _
  refine ⟨hc, ha, rfl, ?_⟩
  rw [if_pos hL]
  exact ⟨rfl, r, hp, h⟩

/-- A call by a contract over a store. -/
theorem AL_callC {f : FuncId} {xs : List Operand} {ts : Array TypeId} {Q : Outc → S → Prop} (as : List V) (hL : L.pf f = false) (hc : isCode P f = true) (ha : ((xs.map e.ev).all fun x => x.flat.all V.isOne) = true) (hsub : Sub (xs.map e.ev) as) (hp : FnC P f as st Q)
    (h : ∀ r s, Q (.ret r) s → AL P L ds KP os K (e.putO d r) s) (hpn : ∀ c s, Q (.pan c) s → KP c s) : AL P L ds KP (⟨d, .call ⟨.value (.func f), xs.toArray, ts⟩, ty, pos, af, none⟩ :: os) K e st := by
  show isCode P f = true ∧ _ ∧ _ ∧ _
  refine ⟨hc, ha, rfl, ?_⟩
  rw [if_neg (by simp [hL])]
  refine ⟨as, hsub, ?_⟩
  intro B g w vs hi hgl hv
  rw [List.append_nil] at hv
  refine (hp B g w vs hi hgl hv).mono ?_
  rintro en w' ⟨g', st', h1, h2, h3⟩
  refine ⟨g', st', h1, h2, ?_⟩
  cases en with
  | returned v => obtain ⟨r, h4, h5⟩ := h3; exact ⟨r, h4, h r st' h5⟩
  | panicked c => exact hpn c st' h3
  | outgrown => exact h3.elim

/- Within an operation only what it looks at is worked out, not what comes behind it. -/
theorem AL_congr {P : Program} {L : Pol} {ds : List (Option Nat)} {KP : List PanicEntry → S → Prop} {l : List Oper} {K : Env → S → Prop} {e : Env} {st : S} : AL P L ds KP l K e st = AL P L ds KP l K e st := rfl
theorem aGuard_congr {x x' : V} (h : x = x') (b : Bool) (A B : Prop) : aGuard x b A B = aGuard x' b A B := by rw [h]
theorem aPick_congr {c c' x x' y y' : V} (h : c = c') (h2 : x = x') (h3 : y = y') (K : V → Prop) : aPick c x y K = aPick c' x' y' K := by rw [h, h2, h3]
theorem aBin_congr (P : Program) (op : BinOp) (t : TypeId) {x x' y y' : V} (h2 : x = x') (h3 : y = y') (K : V → Prop) : aBin P op t x y K = aBin P op t x' y' K := by rw [h2, h3]
theorem aUn_congr (op : UnOp) {x x' : V} (h : x = x') (K : V → Prop) : aUn op x K = aUn op x' K := by rw [h]
theorem aExtract_congr {x x' : V} (h : x = x') (i : Nat) (K : V → Prop) : aExtract x i K = aExtract x' i K := by rw [h]
theorem aField_congr (P : Program) (t : TypeId) {x x' : V} (h : x = x') (f : Nat) (K : V → Prop) : aField P t x f K = aField P t x' f K := by rw [h]
theorem aFieldAddr_congr (P : Program) (t : TypeId) {x x' : V} (h : x = x') (f : Nat) (K : V → Prop) : aFieldAddr P t x f K = aFieldAddr P t x' f K := by rw [h]
theorem aIndexAddr_congr (P : Program) (t : TypeId) {x x' i i' : V} (h : x = x') (h2 : i = i') (K : V → Prop) : aIndexAddr P t x i K = aIndexAddr P t x' i' K := by rw [h, h2]
theorem aIndex_congr (P : Program) (t : TypeId) {x x' i i' : V} (h : x = x') (h2 : i = i') (K : V → Prop) : aIndex P t x i K = aIndex P t x' i' K := by rw [h, h2]
theorem aLoad_congr (P : Program) {st st' : S} (hs : st = st') (t : TypeId) {x x' : V} (h : x = x') (K : V → Prop) : aLoad P st t x K = aLoad P st' t x' K := by rw [h, hs]
theorem aStore_congr (P : Program) {st st' : S} (hs : st = st') (t : TypeId) {x x' y y' : V} (h : x = x') (h2 : y = y') (K : S → Prop) : aStore P st t x y K = aStore P st' t x' y' K := by rw [h, hs, h2]
theorem aNew_congr {st st' : S} (hs : st = st') {c c' : List V} (h : c = c') (K : V → S → Prop) : aNew st c K = aNew st' c' K := by rw [h, hs]
theorem aAlloc_congr (P : Program) {st st' : S} (hs : st = st') (t : TypeId) (K : V → S → Prop) : aAlloc P st t K = aAlloc P st' t K := by rw [hs]
theorem aBuild_congr (P : Program) (t : TypeId) {ps ps' : List (Nat × V)} (h : ps = ps') (K : V → Prop) : aBuild P t ps K = aBuild P t ps' K := by rw [h]
theorem aBuildSlice_congr (P : Program) (L : Pol) (d : Option Nat) {st st' : S} (hs : st = st') (t : TypeId) (n : Nat) {ps ps' : List (Nat × V)} (h : ps = ps') (K : V → S → Prop) : aBuildSlice P L d st t n ps K = aBuildSlice P L d st' t n ps' K := by rw [h, hs]
theorem aNilCheck_congr {x x' : V} (h : x = x') (K : V → Prop) : aNilCheck x K = aNilCheck x' K := by rw [h]
theorem aSlice_congr (P : Program) (t : TypeId) {x x' : V} {lo lo' hi hi' : Option V} (h : x = x') (h2 : lo = lo') (h3 : hi = hi') (K : V → Prop) : aSlice P t x lo hi K = aSlice P t x' lo' hi' K := by rw [h, h2, h3]
theorem aLen_congr (P : Program) (t : TypeId) {x x' : V} (h : x = x') (K : V → Prop) : aLen P t x K = aLen P t x' K := by rw [h]
theorem aMax_congr {x x' y y' : V} (h : x = x') (h2 : y = y') (K : V → Prop) : aMax x y K = aMax x' y' K := by rw [h, h2]
theorem aAppend_congr (P : Program) (L : Pol) (d : Option Nat) {st st' : S} (hs : st = st') (t t2 : TypeId) {x x' y y' : V} (h : x = x') (h2 : y = y') (K : V → S → Prop) : aAppend P L d st t t2 x y K = aAppend P L d st' t t2 x' y' K := by rw [h, hs, h2]
theorem aInt_congr (op : BinOp) (k : IntKind) {x x' y y' : Int} (h : x = x') (h2 : y = y') (K : V → Prop) : aInt op k x y K = aInt op k x' y' K := by rw [h, h2]
theorem boundV_congr {x x' : Option V} (h : x = x') {d d' : Int} (h2 : d = d') (K : Int → Prop) : boundV x d K = boundV x' d' K := by rw [h, h2]

end
end Go.Al

/-
  AL, part 16: a region whose order is drawn, by one walk of the order of the text. General: no program in sight.
-/
namespace Go.Al
open Go.RowKit

/-- What comes of it is one value, whatever goes on with it. -/
def Pt (h : (V → Prop) → Prop) : Prop := ∀ K, h K → ∃ v, K v ∧ ∀ K', K' v → h K'

section
variable {P : Program} {L : Pol} {X : Cx} {e : Env} {st : S} {KP : List PanicEntry → S → Prop}

theorem pt_aPick (c x y : V) : Pt (aPick c x y) := fun K h => by
  unfold aPick at *
  split at h
  · exact ⟨_, h, fun _ k => k⟩
  · cases h
theorem pt_aInt (op : BinOp) (k : IntKind) (x y : Int) : Pt (aInt op k x y) := fun K h => by
  cases op <;> simp only [aInt] at h ⊢
  case quo => exact ⟨_, h.2, fun _ q => ⟨h.1, q⟩⟩
  case rem => exact ⟨_, h.2, fun _ q => ⟨h.1, q⟩⟩
  all_goals exact ⟨_, h, fun _ q => q⟩
theorem pt_aStr (op : BinOp) (x y : ByteArray) : Pt (aStr op x y) := fun K h => by
  cases op <;> simp only [aStr] at h ⊢
  case add => exact ⟨_, h.2, fun _ q => ⟨h.1, q⟩⟩
  all_goals exact ⟨_, h, fun _ q => q⟩
theorem pt_aBool (op : BinOp) (x y : Bool) : Pt (aBool op x y) := fun K h => by
  cases op <;> simp only [aBool] at h ⊢
  all_goals exact ⟨_, h, fun _ q => q⟩
theorem pt_aBin (op : BinOp) (t : TypeId) (x y : V) : Pt (aBin P op t x y) := fun K h => by
  unfold aBin at *
  split at h
  · obtain ⟨v, h1, h2⟩ := pt_aInt _ _ _ _ K h.2; exact ⟨v, h1, fun K' k => ⟨h.1, h2 K' k⟩⟩
  · obtain ⟨v, h1, h2⟩ := pt_aBool _ _ _ K h.2; exact ⟨v, h1, fun K' k => ⟨h.1, h2 K' k⟩⟩
  · obtain ⟨v, h1, h2⟩ := pt_aStr _ _ _ K h; exact ⟨v, h1, fun K' k => h2 K' k⟩
  · obtain ⟨v, h1, h2⟩ := pt_aBool _ _ _ K h.2; exact ⟨v, h1, fun K' k => ⟨h.1, h2 K' k⟩⟩
  · cases h
theorem pt_aBinI (op : BinOp) (t : TypeId) (c : Bool) (x y : V) : Pt (aBinI P op t c x y) := fun K h => by
  unfold aBinI at *
  split at h
  · obtain ⟨v, h1, h2⟩ := pt_aBool _ _ _ K h.2; exact ⟨v, h1, fun K' k => ⟨h.1, h2 K' k⟩⟩
  · obtain ⟨v, h1, h2⟩ := pt_aBool _ _ _ K h.2.2; exact ⟨v, h1, fun K' k => ⟨h.1, h.2.1, h2 K' k⟩⟩
  · exact pt_aBin op t x y K h
theorem pt_aConv (f t : TypeId) (x : V) : Pt (aConv P f t x) := fun K h => by
  unfold aConv at *
  split at h
  · split at h
    · exact ⟨_, h.2, fun _ k => ⟨h.1, k⟩⟩
    · cases h
  · exact ⟨_, h.2.2, fun _ k => ⟨h.1, h.2.1, k⟩⟩
  · cases h
theorem pt_aUn (op : UnOp) (x : V) : Pt (aUn op x) := fun K h => by
  unfold aUn at *
  split at h
  · split at h
    · exact ⟨_, h, fun _ k => k⟩
    · cases h
  · split at h
    · exact ⟨_, h, fun _ k => k⟩
    · cases h
  · cases h
theorem pt_aExtract (x : V) (i : Nat) : Pt (aExtract x i) := fun K h => by
  unfold aExtract at *
  split at h
  · exact ⟨_, h.2, fun _ k => ⟨h.1, k⟩⟩
  · cases h
theorem pt_aField (t : TypeId) (x : V) (f : Nat) : Pt (aField P t x f) := fun K h => by
  unfold aField at *
  split at h
  · exact ⟨_, h.2.2, fun _ k => ⟨h.1, h.2.1, k⟩⟩
  · cases h
theorem pt_aFieldAddr (t : TypeId) (x : V) (f : Nat) : Pt (aFieldAddr P t x f) := fun K h => by
  unfold aFieldAddr at *
  split at h
  · exact ⟨_, h.2.2.2, fun _ k => ⟨h.1, h.2.1, h.2.2.1, k⟩⟩
  · exact ⟨_, h.2.2, fun _ k => ⟨h.1, h.2.1, k⟩⟩
  · cases h
theorem pt_aIndexAddr (t : TypeId) (x i : V) : Pt (aIndexAddr P t x i) := fun K h => by
  unfold aIndexAddr at *
  split at h
  · exact ⟨_, h.2.2.2, fun _ k => ⟨h.1, h.2.1, h.2.2.1, k⟩⟩
  · exact ⟨_, h.2.2, fun _ k => ⟨h.1, h.2.1, k⟩⟩
  · cases h
theorem pt_aIndex (t : TypeId) (x i : V) : Pt (aIndex P t x i) := fun K h => by
  unfold aIndex at *
  split at h
  · exact ⟨_, h.2.2, fun _ k => ⟨h.1, h.2.1, k⟩⟩
  · cases h
theorem pt_aNilCheck (x : V) : Pt (aNilCheck x) := fun K h => by
  unfold aNilCheck at *
  split at h
  · exact ⟨_, h, fun _ k => k⟩
  · exact ⟨_, h, fun _ k => k⟩
  · cases h
theorem pt_aBuild (t : TypeId) (ps : List (Nat × V)) : Pt (aBuild P t ps) := fun K h => by
  unfold aBuild at *
  obtain ⟨h1, h⟩ := h
  split at h
  · split at h
    · exact ⟨_, h, fun _ k => ⟨h1, k⟩⟩
    · cases h
  · cases h
theorem pt_aLen (t : TypeId) (x : V) : Pt (aLen P t x) := fun K h => by
  unfold aLen at *
  split at h
  · exact ⟨_, h.2, fun _ k => ⟨h.1, k⟩⟩
  · exact ⟨_, h.2, fun _ k => ⟨h.1, k⟩⟩
  · exact ⟨_, h.2, fun _ k => ⟨h.1, k⟩⟩
  · cases h
theorem pt_aMax (x y : V) : Pt (aMax x y) := fun K h => by
  unfold aMax at *
  split at h
  · exact ⟨_, h, fun _ k => k⟩
  · cases h
theorem boundV_pt {x : Option V} {d : Int} {K : Int → Prop} (h : boundV x d K) : ∃ n, K n ∧ ∀ K', K' n → boundV x d K' := by
  unfold boundV at *
  split at h
  · exact ⟨_, h, fun _ k => k⟩
  · exact ⟨_, h, fun _ k => k⟩
  · cases h
theorem pt_aSlice (t : TypeId) (x : V) (lo hi : Option V) : Pt (aSlice P t x lo hi) := fun K h => by
  unfold aSlice at *
  split at h
  · split at h
    · cases h
    · obtain ⟨h1, h2, h⟩ := h
      obtain ⟨l, h, hl⟩ := boundV_pt h
      obtain ⟨m, h, hm⟩ := boundV_pt h
      exact ⟨_, h.2, fun _ k => ⟨h1, h2, hl _ (hm _ ⟨h.1, k⟩)⟩⟩
  · split at h
    · cases h
    · obtain ⟨h1, h⟩ := h
      obtain ⟨l, h, hl⟩ := boundV_pt h
      obtain ⟨m, h, hm⟩ := boundV_pt h
      exact ⟨_, h.2, fun _ k => ⟨h1, hl _ (hm _ ⟨h.1, k⟩)⟩⟩
  · obtain ⟨h1, h⟩ := h
    obtain ⟨l, h, hl⟩ := boundV_pt h
    obtain ⟨m, h, hm⟩ := boundV_pt h
    exact ⟨_, h.2, fun _ k => ⟨h1, hl _ (hm _ ⟨h.1, k⟩)⟩⟩
  · cases h
theorem pt_aLoad (st : S) (t : TypeId) (x : V) : Pt (aLoad P st t x) := fun K h => by
  unfold aLoad at *
  split at h
  · exact ⟨_, h.2, fun _ k => ⟨h.1, k⟩⟩
  · split at h
    · exact ⟨_, h.2, fun _ k => ⟨h.1, k⟩⟩
    · cases h
  · cases h
theorem aLoad_box {st st' : S} (h : st'.box = st.box) (t : TypeId) (x : V) (K : V → Prop) : aLoad P st' t x K = aLoad P st t x K := by
  unfold aLoad
  rw [h]

/-- How much of the store an operation looks at, or turns: 0 a move; 1 nothing; 2 a call without memory; 3 it reads boxes; 4 it turns names; 5 whatever. -/
def cls (L : Pol) (o : Oper) : Nat :=
  match o.op with
  | .move _ | .assign _ => if o.guard.isNone = true then 0 else 1
  | .pick .. | .binOp .. | .convert .. | .unOp .. | .extract .. | .field .. | .fieldAddr .. | .indexAddr .. | .index .. | .build .. | .nilCheck _ | .slice .. => 1
  | .load .. => 3
  | .buildSlice .. => if (o.dst.map L.wr).getD false = true then 5 else if (o.dst.map L.own).getD false = true then 4 else 1
  | .call c => (match c.callee with
    | .builtin .len | .builtin .max => 1
    | .builtin .append => if (o.dst.map L.wr).getD false = true then 5 else 4
    | .value (.func n) => if L.pf n = true then 2 else 5
    | _ => 5)
  | _ => 5

def compat (ci cj : Nat) : Bool :=
  decide (ci ≤ 2) || cj == 0 || (ci == 3 && decide (cj ≤ 4)) || (ci == 4 && decide (cj ≤ 3))

/-- A value that hangs on nothing but the frame. -/
theorem low_spec {o : Oper} (hc : cls L o ≤ 2) {K : V → S → Prop} (h : aop P L e st o K KP) : ∃ v, K v st ∧ ∀ st' K' KP', K' v st' → aop P L e st' o K' KP' := by
  obtain ⟨dst, op, ty, pos, af, gd⟩ := o
  have low : ∀ (hh : (V → Prop) → Prop), Pt hh → (hh fun v => K v st) → ∃ v, K v st ∧ ∀ (st' : S) (K' : V → S → Prop) (_ : List PanicEntry → S → Prop), K' v st' → hh fun v => K' v st' := by
    intro hh hp h
    obtain ⟨v, h1, h2⟩ := hp _ h
    exact ⟨v, h1, fun st' K' _ k => h2 (fun v => K' v st') k⟩
  cases op <;> simp only [cls] at hc <;> simp only [aop] at h ⊢ <;>
    first
      | (refine ⟨_, h, fun _ _ _ k => k⟩)
      | exact low _ (pt_aPick _ _ _) h
      | exact low _ (pt_aBinI _ _ _ _ _) h
      | exact low _ (pt_aConv _ _ _) h
      | exact low _ (pt_aUn _ _) h
      | exact low _ (pt_aExtract _ _) h
      | exact low _ (pt_aField _ _ _) h
      | exact low _ (pt_aFieldAddr _ _ _) h
      | exact low _ (pt_aIndexAddr _ _ _) h
      | exact low _ (pt_aIndex _ _ _) h
      | exact low _ (pt_aBuild _ _) h
      | exact low _ (pt_aNilCheck _) h
      | (omega)
      | skip
  case slice t x lo hi mx =>
    obtain ⟨v, h1, h2⟩ := pt_aSlice _ _ _ _ _ h.2
    exact ⟨v, h1, fun st' K' _ k => ⟨h.1, h2 _ k⟩⟩
  case buildSlice t n ps =>
    split at hc
    · omega
    · split at hc
      · omega
      · rename_i h1 h2
        unfold aBuildSlice at h ⊢
        split at h
        · cases h
        · obtain ⟨q1, q2, q3, q4, q5, q6, q7, q8, q9, q10⟩ := h
          rw [if_neg h1, if_neg h2] at q10
          exact ⟨_, q10, fun st' K' _ k => ⟨q1, q2, q3, q4, q5, q6, q7, q8, q9, by rw [if_neg h1, if_neg h2]; exact k⟩⟩
  case call c =>
    obtain ⟨callee, args, ts⟩ := c
    cases callee with
    | invoke r m => simp at hc
    | value f =>
      simp only at h hc ⊢
      cases f with
      | func n =>
        simp only at hc
        split at hc
        · rename_i hp
          simp only [Env.ev] at h ⊢
          unfold aCall at h ⊢
          simp only [if_pos hp] at h ⊢
          obtain ⟨q1, q2, q3, q4, r, q5, q6⟩ := h
          exact ⟨r, q6, fun st' K' _ k => ⟨q1, q2, q3, q4, r, q5, k⟩⟩
        · omega
      | tmp t => simp at hc
      | const v => simp at hc
      | global g => simp at hc
    | builtin b =>
      simp only at h hc ⊢
      unfold aBuiltin at h ⊢
      split at h
      · exact low _ (pt_aLen _ _) h
      · exact low _ (pt_aMax _ _) h
      · simp only at hc
        split at hc <;> omega
      · cases h

/-- It is there still. -/
def More (st st' : S) : Prop := ∀ b c, Go.Al.look st.box b = some c → Go.Al.look st'.box b = some c
theorem More.of_eq {st st' : S} (h : st'.box = st.box) : More st st' := fun b c hl => by rw [h]; exact hl
theorem aLoad_more {st st' : S} (h : More st st') (t : TypeId) (x : V) (K : V → Prop) (hh : aLoad P st t x K) : aLoad P st' t x K := by
  unfold aLoad at *
  split at hh
  · exact hh
  · split at hh
    · rename_i cs k hl
      simp only [h _ _ hl]
      exact hh
    · cases hh
  · cases hh

/-- It makes a box. -/
def newB (L : Pol) (o : Oper) : Bool :=
  match o.op with
  | .alloc _ | .box .. => true
  | .buildSlice .. => (o.dst.map L.wr).getD false
  | _ => false
/-- It writes, or makes a box; no call. -/
def wrB (L : Pol) (o : Oper) : Bool :=
  match o.op with
  | .alloc _ | .box .. | .store .. => true
  | .buildSlice .. => (o.dst.map L.wr).getD false
  | .call ⟨.builtin .append, _, _⟩ => (o.dst.map L.wr).getD false
  | _ => false
/-- It works out an address. -/
def adr (o : Oper) : Bool :=
  match o.op with
  | .nilCheck _ | .fieldAddr .. => true
  | _ => false
def compatO (L : Pol) (oi oj : Oper) : Bool :=
  compat (cls L oi) (cls L oj) || (cls L oi == 3 && newB L oj) || (wrB L oi && adr oj)

theorem load_spec {o : Oper} (hc : cls L o = 3) {K : V → S → Prop} (h : aop P L e st o K KP) : ∃ v, K v st ∧ ∀ st' K' KP', More st st' → K' v st' → aop P L e st' o K' KP' := by
  obtain ⟨dst, op, ty, pos, af, gd⟩ := o
  cases op <;> simp only [cls] at hc <;> try (first | omega | (split at hc <;> first | omega | (split at hc <;> omega)))
  case load t x =>
    simp only [aop] at h ⊢
    obtain ⟨v, h1, h2⟩ := pt_aLoad _ _ _ _ h
    exact ⟨v, h1, fun st' K' _ hb k => aLoad_more hb _ _ _ (h2 (fun v => K' v st') k)⟩

end
end Go.Al
