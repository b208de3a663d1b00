/-
  AL, part 11: append onto what is written, slices of slices, calls; EVERY OPERATION IS SOUND. General: no program in sight.
-/
import Derived.Test.YtdedkemkmccliaaAl10
set_option linter.unusedVariables false
set_option linter.unusedSimpArgs false
namespace Go.Al
open Go.RowKit

section
variable {P : Program} {X : Cx} {g : Gh} {w : World} {a : Act} {o : Oper} {st : S} {K : V → S → Prop} {KP : List PanicEntry → S → Prop}

theorem Inv.sameBox {B : Nat} {g : Gh} {st : S} {w : World} (h : Inv B g st w) {box : List (Nat × List V × Nat)} (e : ∀ j, look box j = look st.box j) : Inv B g ⟨box, st.tg, st.nx⟩ w :=
  h.weaken ⟨fun b c hl => (e b).symm.trans hl, fun _ hm => hm, fun hn => hn, fun b hl => (e b).trans hl, Nat.le_refl _⟩

theorem new_cells (hi : Inv X.B g st w) {fs : List V} {us : List Value} (hr : RCs g w fs us) (h1 : allOne fs) (el : TypeId) (extra : List Value) (k : Nat) (hk : us.length + extra.length = k) :
    ∃ g', Out X.B g w g' ⟨lay st.box w.heap.size (fs, k), st.tg, st.nx⟩ (w.alloc (.cells (us ++ extra).toArray el)) := by
  have hl := RCs_length g w _ _ hr
  rw [sizes_one h1] at hl
  have ho := out_alloc hi (us ++ extra).toArray el 0
  refine ⟨_, ⟨ho.step, ?_⟩⟩
  have := ho.inv.addBox (b := w.heap.size) (arr := (us ++ extra).toArray) (el := el) (cs := fs) (us := us) hi.base (if_pos rfl) (alloc_new w _) (by simp; omega) (allOne_mem h1)
    (RCs_later ho.step.later _ _ hr) (by simp [← hl]) (by intro t ht d hd; exact own_fresh hi t ht d hd)
  have e : (us ++ extra).toArray.size = k := by simp; omega
  rw [e] at this
  exact this

theorem allOne_take {fs : List V} (h : allOne fs) (n : Nat) : allOne (fs.take n) := by
  unfold allOne at *
  rw [List.all_eq_true] at *
  exact fun c hc => h c (List.mem_of_mem_take hc)
theorem allOne_append {fs gs : List V} (h : allOne fs) (h' : allOne gs) : allOne (fs ++ gs) := by
  unfold allOne at *
  rw [List.all_append, h, h']; rfl

/-- append onto nil, where the elements are to be written. -/
theorem append_nil_src {t el : TypeId} (hu : P.underlying t = some (.slice el)) (h1 : hasT P el = true) (hz : (zeroC P el).map List.length = some (P.cellsOf el))
    {m : Nat} {fl : List V} {news : List Value} {ux : Value} (hb : m * P.bytesOf el ≤ 140737488355328) (hm : m ≤ maxLen) (h0 : m ≠ 0) (ho1 : allOne fl)
    (hi : Inv X.B g st w) (hsrc : Src P (P.cellsOf el) t ux m news w) (hr : RCs g w fl news) (hlen : news.length = m * P.cellsOf el) (ty : TypeId)
    (hk : ∀ b cap, look st.box b = none → m ≤ cap → K (.at (.slice (some ⟨b, 0, none⟩) m cap)) ⟨lay st.box b (fl, cap * P.cellsOf el), st.tg, st.nx⟩) :
    ∃ v u g' st' w', K v st' ∧ Out X.B g w g' st' w' ∧ RV g' w' v u ∧ (Builtin.append_ #[t, t] ty #[.slice none 0 0, ux]).run P w = .ok u w' := by
  obtain ⟨cap', extra, c1, c2, c3, hrun⟩ := run_grow hu h1 hz hsrc ty (base := none) (n := 0) (cap := 0) (olds := []) (by simp [Builtin.firstCells]) (by omega) (by simpa using hb) (by omega)
  simp only [Nat.zero_add, List.nil_append] at c1 c3 hrun
  have hd := out_drew hi (w.drawn + 1)
  obtain ⟨g', ho⟩ := new_cells (X := X) (w := w.drew) hd.inv (RCs_later hd.step.later _ _ hr) ho1 el extra (cap' * P.cellsOf el) (by rw [hlen, c3, ← Nat.add_mul]; congr 1; omega)
  exact ⟨_, _, g', _, _, hk _ cap' (look_fresh hi) c1, ⟨hd.step.trans ho.step, ho.inv⟩, RV_at_mk rfl, hrun⟩

/-- append onto a row whose elements are written. -/
theorem append_box_src {t el : TypeId} (hu : P.underlying t = some (.slice el)) (h1 : hasT P el = true) (hz : (zeroC P el).map List.length = some (P.cellsOf el))
    {m : Nat} {fl : List V} {news : List Value} {ux : Value} {b len cap : Nat} {cs : List V} (hl : look st.box b = some (cs, cap * P.cellsOf el)) (hlc : len ≤ cap) (hln : len * P.cellsOf el ≤ cs.length)
    (hb : (len + m) * P.bytesOf el ≤ 140737488355328) (hm : len + m ≤ maxLen) (ho1 : allOne fl)
    (hi : Inv X.B g st w) (hsrc : Src P (P.cellsOf el) t ux m news w) (hrf : RCs g w fl news) (hlenN : news.length = m * P.cellsOf el) (ty : TypeId)
    (hk : ∀ b' cap', look (wipe st.box b) b' = none → len + m ≤ cap' → K (.at (.slice (some ⟨b', 0, none⟩) (len + m) cap')) ⟨lay (wipe st.box b) b' (cs.take (len * P.cellsOf el) ++ fl, cap' * P.cellsOf el), st.tg, st.nx⟩) :
    ∃ v u g' st' w', K v st' ∧ Out X.B g w g' st' w' ∧ RV g' w' v u ∧ (Builtin.append_ #[t, t] ty #[.slice (some ⟨b, 0, none⟩) len cap, ux]).run P w = .ok u w' := by
  obtain ⟨p1, p2, p3, p4, arr, el', us, p5, p6, p7, p8⟩ := hi.box b cs _ hl
  have hone : allOne cs := by unfold allOne; rw [List.all_eq_true]; exact p4
  have hul := RCs_length g w cs us p7
  rw [sizes_one hone] at hul
  have hnl := RCs_length g w _ _ hrf
  rw [sizes_one ho1] at hnl
  have hcont : RCs g w (cs.take (len * P.cellsOf el) ++ fl) (us.take (len * P.cellsOf el) ++ news) := RCs_append (RCs_take_drop hone p7 _).1 hrf
  have hone' := allOne_append (allOne_take hone (len * P.cellsOf el)) ho1
  have hust : us.take (len * P.cellsOf el) = arr.toList.take (len * P.cellsOf el) := by
    rw [← p8, List.take_take]; congr 1; omega
  by_cases hroom : len + m ≤ cap
  · have hrun := run_room hu h1 hsrc ty p5 hroom (by omega)
    have hle : (len + m) * P.cellsOf el ≤ cap * P.cellsOf el := Nat.mul_le_mul_right _ hroom
    rw [Nat.add_mul] at hle
    have hsz' : (arr.toList.take (len * P.cellsOf el) ++ news ++ arr.toList.drop (len * P.cellsOf el + news.length)).toArray.size = arr.size := by simp; omega
    have ho := out_setRow (B := X.B) hi hl p5 _ hsz' (cs.take (len * P.cellsOf el) ++ fl) (us.take (len * P.cellsOf el) ++ news) (by simp; omega) (allOne_mem hone') hcont (by
      rw [hust]
      have e : (cs.take (len * P.cellsOf el) ++ fl).length = (arr.toList.take (len * P.cellsOf el) ++ news).length := by simp; omega
      rw [e]
      exact List.take_left)
    refine ⟨_, _, _, _, _, hk b cap (by rw [look_wipe, if_pos rfl]) hroom, ⟨ho.step, ?_⟩, RV_at_mk rfl, hrun⟩
    refine ho.inv.sameBox fun j => ?_
    rw [look_lay, look_lay, look_wipe]
    by_cases e : b = j
    · rw [if_pos e, if_pos e]
    · rw [if_neg e, if_neg e, if_neg e]
  · have hold : (Builtin.firstCells (P.cellsOf el) len (.slice (some ⟨b, 0, none⟩) len cap)).run P w.drew = .ok (us.take (len * P.cellsOf el)).toArray w.drew :=
      run_firstCells_some w.drew _ len ⟨b, 0, none⟩ len cap _ (by simp; omega) (fun j u hj => by
        rw [addr_add, Nat.zero_add]
        show w.cell? _ = _
        rw [cell_of_row w b j arr el' (0, 0) p5]
        rw [hust, List.getElem?_take] at hj
        split at hj
        · simpa using hj
        · cases hj)
    obtain ⟨cap', extra, c1, c2, c3, hrun⟩ := run_grow hu h1 hz hsrc ty hold (by omega) hb hm
    have hd := out_drew (hi.dropBox b) (w.drawn + 1)
    obtain ⟨g', ho⟩ := new_cells (X := X) (w := w.drew) hd.inv (RCs_later hd.step.later _ _ hcont) hone' el extra (cap' * P.cellsOf el) (by
      rw [List.length_append, List.length_take, c3, hlenN, hul, Nat.min_eq_left hln, ← Nat.add_mul, ← Nat.add_mul]; congr 1; omega)
    exact ⟨_, _, g', _, _, hk _ cap' (look_fresh hd.inv) c1, ⟨hd.step.trans ho.step, ho.inv⟩, RV_at_mk rfl, hrun⟩

/-- What is read when the source is a row whose elements are written. -/
theorem src_of_box {t el : TypeId} (hu : P.underlying t = some (.slice el)) {b m cap : Nat} {cs : List V} {k : Nat} (hi : Inv X.B g st w) (hl : look st.box b = some (cs, k)) (hln : m * P.cellsOf el ≤ cs.length) :
    ∃ news, Src P (P.cellsOf el) t (.slice (some ⟨b, 0, none⟩) m cap) m news w ∧ RCs g w (cs.take (m * P.cellsOf el)) news ∧ allOne (cs.take (m * P.cellsOf el)) ∧ news.length = m * P.cellsOf el := by
  obtain ⟨p1, p2, p3, p4, arr, el', us, p5, p6, p7, p8⟩ := hi.box b cs _ hl
  have hone : allOne cs := by unfold allOne; rw [List.all_eq_true]; exact p4
  have hul := RCs_length g w cs us p7
  rw [sizes_one hone] at hul
  have hr := (RCs_take_drop hone p7 (m * P.cellsOf el)).1
  have hlen : (us.take (m * P.cellsOf el)).length = m * P.cellsOf el := by simp; omega
  have hust : us.take (m * P.cellsOf el) = arr.toList.take (m * P.cellsOf el) := by
    rw [← p8, List.take_take]; congr 1; omega
  refine ⟨us.take (m * P.cellsOf el), Src.ofSlice w hu ⟨b, 0, none⟩ m cap _ hlen (fun j u hj => ?_) (RCs_ones _ w _ _ hr), hr, allOne_take hone _, hlen⟩
  rw [addr_add, Nat.zero_add]
  rw [cell_of_row w b j arr el' (0, 0) p5]
  rw [hust, List.getElem?_take] at hj
  split at hj
  · simpa using hj
  · cases hj

theorem RV_nil {es : List V} {u : Value} (h : RV g w (.lst .nil es) u) : u = .slice none 0 0 := by
  have h := RV_lst h
  simp only [RC] at h
  rcases h with ⟨_, hu, _⟩ | ⟨b, o, cap, ds, _, _, ht, _⟩
  · injection hu
  · exact ht.elim

theorem aAppend_spec {L : Pol} {dst : Option Nat} {t t2 : TypeId} {s x : V} (h : aAppend P L dst st t t2 s x K) (hi : Inv X.B g st w) {us ux : Value} (hsv : RV g w s us) (hx : RV g w x ux) (ty : TypeId) :
    ∃ v u g' st' w', K v st' ∧ Out X.B g w g' st' w' ∧ RV g' w' v u ∧ (Builtin.append_ #[t, t2] ty #[us, ux]).run P w = .ok u w' := by
  unfold aAppend at h
  split at h
  · rename_i el tgx ys hel
    obtain ⟨rfl, h1, h2, h3, h4, h5⟩ := h
    have hu := elT_spec hel
    split at h5
    · obtain ⟨h6, h7, h8⟩ := h5
      have e := RV_nil hsv
      subst e
      split at h8
      · obtain ⟨news, hsrc, hr⟩ := src_of hu hx h4
        exact append_nil_src hu h1 h2 h6 h7 (fun e => h8.1 (List.eq_nil_of_length_eq_zero e)) h8.2.1 hi hsrc (RCs_flats (RCs_named g w _ _ hr)) (elsOk_length h4 hr) ty h8.2.2
      · exact append_nil hu h1 h2 h4 h6 h7 hi hx ty h8
    · rename_i tn nb sz es
      obtain ⟨h6, rfl, h7, h8, h9⟩ := h5
      exact append_own hu h1 h2 h4 h6 h7 h8 hi hsv hx ty h9
    · rename_i b len cap
      have e := RV_at hsv
      subst e
      split at h5
      · rename_i cs k hl
        obtain ⟨_, rfl, h6, h7, h8, h9, h10, h11⟩ := h5
        obtain ⟨news, hsrc, hr⟩ := src_of hu hx h4
        exact append_box_src hu h1 h2 hl h6 h7 h8 h9 h10 hi hsrc (RCs_flats (RCs_named g w _ _ hr)) (elsOk_length h4 hr) ty h11
      · cases h5
    · cases h5
  · rename_i el bs m cpx hel
    obtain ⟨rfl, h1, h2, h3, h4, h5⟩ := h
    have hu := elT_spec hel
    have e := RV_at hx
    subst e
    split at h5
    · cases h5
    · rename_i css kk hls
      obtain ⟨h6, h7⟩ := h5
      obtain ⟨news, hsrc, hr, hone, hlen⟩ := src_of_box (cap := cpx) hu hi hls h6
      split at h7
      · obtain ⟨h8, h9, h10, h11⟩ := h7
        have e := RV_nil hsv
        subst e
        exact append_nil_src hu h1 h2 h8 h9 h10 hone hi hsrc hr hlen ty h11
      · rename_i b len cap
        have e := RV_at hsv
        subst e
        split at h7
        · rename_i cs k hl
          obtain ⟨rfl, h8, h9, h10, h11, h12⟩ := h7
          exact append_box_src hu h1 h2 hl h8 h9 h10 h11 hone hi hsrc hr hlen ty h12
        · cases h7
      · cases h7
  · cases h

theorem slTag_nil {tg : Tag} {es : List V} (h : NilOk g tg) (he : es = []) : NilOk g (slTag tg es) := by
  subst he
  cases tg with
  | nil => trivial
  | no => exact h.elim
  | own t nb s => obtain ⟨_, rfl⟩ := h; simp [slTag, tagOf, NilOk]

theorem slTag_no {tg : Tag} {es : List V} {b o cap : Nat} (h : TagOk g es.length b o cap tg) : slTag tg es = .no := by
  cases tg with
  | nil => exact h.elim
  | no => rfl
  | own t nb s =>
    cases nb with
    | false => rfl
    | true => have := h.2.2 rfl; cases es <;> simp at this ⊢; simp [slTag, tagOf]

theorem RCs_take_drop_sz {sz : Nat} : ∀ {es : List V} {ds : List Value} (_ : elsOk sz es) (_ : RCs g w es ds) (n : Nat), RCs g w (es.take n) (ds.take (n * sz)) ∧ RCs g w (es.drop n) (ds.drop (n * sz))
  | [], ds, _, h, n => by simp only [RCs] at h; subst h; simp [RCs]
  | x :: xs, ds, hs, h, n => by
    have h' := h
    simp only [RCs] at h
    obtain ⟨u1, u2, rfl, h1, h2⟩ := h
    have hl := RC_length g w x u1 h1
    rw [hs x (by simp)] at hl
    cases n with
    | zero => simp only [List.take_zero, List.drop_zero, Nat.zero_mul]; exact ⟨by simp [RCs], h'⟩
    | succ n =>
      obtain ⟨k1, k2⟩ := RCs_take_drop_sz (es := xs) (ds := u2) (fun y hy => hs y (by simp [hy])) h2 n
      have e1 : (n + 1) * sz = u1.length + n * sz := by rw [Nat.add_mul, Nat.one_mul, hl]; omega
      rw [e1, List.take_length_add_append, List.drop_length_add_append]
      simp only [List.take_succ_cons, List.drop_succ_cons]
      exact ⟨by simp only [RCs]; exact ⟨u1, _, rfl, h1, k1⟩, k2⟩

theorem bound_ops {e : Env} (hr : Rel X g e st a w) (x : Option Operand) : (∀ v, x.map e.ev = some v → ∃ u, x.map a.eval = some u ∧ RV g w v u) ∧ (x.map e.ev = none → x.map a.eval = none) := by
  cases x with
  | none => exact ⟨fun v h => by simp at h, fun _ => rfl⟩
  | some x => exact ⟨fun v h => by simp at h; subst h; exact ⟨_, rfl, hr.ev x⟩, fun h => by simp at h⟩

theorem aSlice_spec {t : TypeId} {x : V} {lo hi : Option V} {K : V → Prop} (h : aSlice P t x lo hi K) {ux : Value} {ulo uhi : Option Value} (hx : RV g w x ux)
    (hlo : (∀ v, lo = some v → ∃ u, ulo = some u ∧ RV g w v u) ∧ (lo = none → ulo = none)) (hhi : (∀ v, hi = some v → ∃ u, uhi = some u ∧ RV g w v u) ∧ (hi = none → uhi = none)) :
    ∃ v u, K v ∧ RV g w v u ∧ (Instr.sliceAt t ux ulo uhi none).run P w = .ok u w := by
  have cl : ∀ {l : Int}, ((lo = none ∧ ulo = none ∧ l = 0) ∨ ∃ k, ulo = some (.int k l)) → (ulo = none ∧ l = 0) ∨ ∃ k, ulo = some (.int k l) := fun h => h.imp (fun h => ⟨h.2.1, h.2.2⟩) id
  unfold aSlice at h
  split at h
  · rename_i tg es
    split at h
    · cases h
    · rename_i el hel
      have hu := elT_spec hel
      obtain ⟨h1, h2, h⟩ := h
      obtain ⟨l, h, hl⟩ := boundV_spec h hlo.1 hlo.2
      obtain ⟨hh', h, hh⟩ := boundV_spec h hhi.1 hhi.2
      obtain ⟨⟨b0, b1, b2⟩, hk⟩ := h
      have hv := RV_lst hx
      simp only [RC] at hv
      rcases hv with ⟨rfl, hux, hn⟩ | ⟨b, o, cap, ds, hux, hc, ht, hr, ⟨sz, hf1, hf2⟩, ha⟩
      · injection hux with hux _
        subst hux
        simp only [List.length_nil] at b2
        have e1 : l = 0 := by omega
        have e2 : hh' = 0 := by simp at b2; omega
        subst e1; subst e2
        have hsb := run_sliceBounds (P := P) (w := w) (isS := true) (len := 0) (cap := 0) (lo := ulo) (hi := uhi) (cl hl) (hh.imp (fun h => ⟨h.2.1, h.2.2⟩) id) (by omega) (by omega) (by simp)
        refine ⟨_, .slice none 0 0, hk, RV_lst_mk ?_, ?_⟩
        · simp only [RC]
          exact .inl ⟨by simp, trivial, slTag_nil hn rfl⟩
        · simp [Instr.sliceAt, Instr.slice, run_underlying hu, hsb, run_sizeOf' h1]
      · injection hux with hux _
        subst hux
        have hcast : hh' ≤ (cap : Int) := by omega
        have hsb := run_sliceBounds (P := P) (w := w) (isS := true) (len := es.length) (cap := cap) (lo := ulo) (hi := uhi) (cl hl) (hh.imp (fun h => ⟨h.2.1, h.2.2⟩) id) b0 b1 hcast
        have hszn : es = [] ∨ sz = P.cellsOf el := by
          rcases h2 with h2 | h2
          · exact .inl h2
          · cases es with
            | nil => exact .inl rfl
            | cons x xs => exact .inr ((hf1 x (by simp)).symm.trans (h2 x (by simp)))
        have hrun : (Instr.sliceAt t (.slice (some ⟨b, o, none⟩) es.length cap) ulo uhi none).run P w = .ok (.slice (if cap = l.toNat then some ⟨b, o, none⟩ else some ⟨b, o + l.toNat * P.cellsOf el, none⟩) (hh'.toNat - l.toNat) (cap - l.toNat)) w := by
          simp only [Instr.sliceAt, Instr.slice, Sem.run_bind, run_underlying hu, Result.andThen_ok, hsb, run_sizeOf' h1, Sem.run_pure]
          congr 2
          split
          · rfl
          · simp [addr_add]
        refine ⟨_, _, hk, RV_lst_mk ?_, hrun⟩
        rw [slTag_no ht]
        have hlen : ((es.take hh'.toNat).drop l.toNat).length = hh'.toNat - l.toNat := by simp; omega
        simp only [RC]
        refine .inr ⟨b, if cap = l.toNat then o else o + l.toNat * P.cellsOf el, cap - l.toNat, (ds.take (hh'.toNat * sz)).drop (l.toNat * sz), ?_, by rw [hlen]; omega, trivial, ?_, ?_, ?_⟩
        · rw [hlen]; split <;> rfl
        · exact (RCs_take_drop_sz (fun x hx => hf1 x (List.mem_of_mem_take hx)) (RCs_take_drop_sz hf1 hr hh'.toNat).1 l.toNat).2
        · exact ⟨sz, fun x hx => hf1 x (List.mem_of_mem_take (List.mem_of_mem_drop hx)), fun _ _ _ e => by cases e⟩
        · have hdl : ds.length = es.length * sz := elsOk_length hf1 hr
          by_cases ec : cap = l.toNat
          · rw [if_pos ec]
            have : (ds.take (hh'.toNat * sz)).drop (l.toNat * sz) = [] := by
              apply List.drop_of_length_le
              rw [List.length_take]
              have : hh'.toNat * sz ≤ l.toNat * sz := Nat.mul_le_mul_right _ (by omega)
              omega
            rw [this]
            intro k u hk; simp at hk
          · rw [if_neg ec]
            rcases hszn with rfl | rfl
            · simp only [RCs] at hr; subst hr; intro k u hk; simp at hk
            · have := ha.sub (l.toNat * P.cellsOf el) (hh'.toNat * P.cellsOf el - l.toNat * P.cellsOf el)
              rwa [List.take_drop, Nat.add_sub_cancel' (Nat.mul_le_mul_right _ (by omega))] at this
  · rename_i b o len cap
    have e := RV_at hx
    subst e
    split at h
    · cases h
    · rename_i el hel
      have hu := elT_spec hel
      obtain ⟨h1, h⟩ := h
      obtain ⟨l, h, hl⟩ := boundV_spec h hlo.1 hlo.2
      obtain ⟨hh', h, hh⟩ := boundV_spec h hhi.1 hhi.2
      obtain ⟨⟨b0, b1, b2⟩, hk⟩ := h
      have hsb := run_sliceBounds (P := P) (w := w) (isS := true) (len := len) (cap := cap) (lo := ulo) (hi := uhi) (cl hl) (hh.imp (fun h => ⟨h.2.1, h.2.2⟩) id) b0 b1 b2
      refine ⟨_, _, hk, RV_at_mk rfl, ?_⟩
      simp only [Instr.sliceAt, Instr.slice, Sem.run_bind, run_underlying hu, Result.andThen_ok, hsb, run_sizeOf' h1, Sem.run_pure]
      congr 2
      by_cases ec : cap = l.toNat
      · rw [if_pos ec, if_pos (by omega)]
      · rw [if_neg ec, if_neg (by omega)]; simp [addr_add]
  · rename_i s
    have hu := isStrT_spec h.1
    have e := RV_at hx
    subst e
    obtain ⟨l, h, hl⟩ := boundV_spec h.2 hlo.1 hlo.2
    obtain ⟨hh', h, hh⟩ := boundV_spec h hhi.1 hhi.2
    obtain ⟨⟨b0, b1, b2⟩, hk⟩ := h
    have hsb := run_sliceBounds (P := P) (w := w) (isS := false) (len := s.size) (cap := s.size) (lo := ulo) (hi := uhi) (cl hl) (hh.imp (fun h => ⟨h.2.1, h.2.2⟩) id) b0 b1 b2
    refine ⟨_, _, hk, RV_at_mk rfl, ?_⟩
    simp [Instr.sliceAt, Instr.slice, run_underlying hu, hsb]
  · cases h

end
end Go.Al
