/-
  AL, part 10: append is sound. General: no program in sight.
-/
import Derived.Test.YtdedkemkmccliaaAl9
set_option linter.unusedVariables false
set_option linter.unusedSimpArgs false
namespace Go.Al
open Go.RowKit

section
variable {P : Program} {X : Cx} {g : Gh} {w : World} {a : Act} {o : Oper} {st : S} {K : V → S → Prop} {KP : List PanicEntry → S → Prop}

/-- append where there is no room. -/
theorem run_grow {t el : TypeId} (hu : P.underlying t = some (.slice el)) (h1 : hasT P el = true) (hz : (zeroC P el).map List.length = some (P.cellsOf el)) {ux : Value} {m : Nat} {news : List Value}
    (hs : Src P (P.cellsOf el) t ux m news w) (ty : TypeId) {base : Option Addr} {n cap : Nat} {olds : List Value} (hold : (Builtin.firstCells (P.cellsOf el) n (.slice base n cap)).run P w.drew = .ok olds.toArray w.drew)
    (hg : cap < n + m) (hb : (n + m) * P.bytesOf el ≤ 140737488355328) (hm : n + m ≤ maxLen) :
    ∃ cap' extra, n + m ≤ cap' ∧ cap' ≤ maxLen ∧ extra.length = (cap' - (n + m)) * P.cellsOf el ∧
      (Builtin.append_ #[t, t] ty #[.slice base n cap, ux]).run P w = .ok (.slice (some ⟨w.heap.size, 0, none⟩) (n + m) cap') (w.drew.alloc (.cells ((olds ++ news) ++ extra).toArray el)) := by
  obtain ⟨z, hz1, hz2⟩ := zero_size hz
  obtain ⟨i, hi1, hi2⟩ := zeroOf_info hz1
  have hsz : i.size = P.cellsOf el := by simp [Program.cellsOf, hi1]
  have hby : i.bytes = P.bytesOf el := by simp [Program.bytesOf, hi1]
  have hm' := hm
  simp only [maxLen] at hm'
  have hr := run_append_grow_src (P := P) w t t ty el i z hu hi1 hi2 base n cap olds (by rw [hsz]; exact hold) ux m news (by rw [hsz]; exact hs) hg (by omega) (by rw [hby]; exact growslice_fits hg hb)
  refine ⟨_, (Builtin.zeroCells z.cells (grownCap w (n + m) cap el - (n + m))).toList, grownCap_ge w (n + m) cap el, grownCap_le_maxLen w (n + m) cap el hm, ?_, ?_⟩
  · rw [Array.length_toList, size_zeroCells, hz2]
  · rw [hr]
    congr 3
    apply Array.ext'
    simp

/-- The cells of one's own block, behind what is there. -/
theorem out_own_write {B : Nat} (hi : Inv B g st w) {t : Nat} (ht : t ∈ st.tg) {b cap n sz : Nat} (hb : g.tb t = some (some (b, cap, n, sz))) {arr : Array Value} {el : TypeId} (hh : w.heap[b]? = some (.cells arr el (0, 0)))
    (arr' : Array Value) (hs : arr'.size = arr.size) (hp : ∀ k, k < n * sz → arr'[k]? = arr[k]?) (m : Nat) :
    Out B g w ⟨fun j => if j = b then (n + m) * sz else g.wm j, g.tb⟩ ⟨st.box, st.tg.erase t, st.nx⟩ (w.setRow b arr') := by
  obtain ⟨p1, p2, p3, p4, p5, arr0, el0, p6, p7⟩ := hi.own t ht b cap n sz hb
  have hoth : ∀ j, j ≠ b → (w.setRow b arr').heap[j]? = w.heap[j]? := fun j hj => setRow_other w b j _ hj
  have hsame := setRow_heap w b arr arr' el (0, 0) hh
  have hwm : g.wm b ≤ (n + m) * sz := by rw [p2]; exact Nat.mul_le_mul_right _ (by omega)
  have hla : Later g w ⟨fun j => if j = b then (n + m) * sz else g.wm j, g.tb⟩ (w.setRow b arr') := by
    refine ⟨fun j => ?_, fun _ _ e => e, fun j o ho => ?_⟩
    · show g.wm j ≤ if j = b then (n + m) * sz else g.wm j
      split
      · rename_i e; subst e; exact hwm
      · exact Nat.le_refl _
    · by_cases e : j = b
      · subst e
        rw [cell_of_row _ j o arr' el (0, 0) hsame, cell_of_row _ j o arr el (0, 0) hh]
        exact hp o (by rw [p2] at ho; exact ho)
      · exact World.cell?_of_block (hoth j e)
  have hbase := hi.base
  refine ⟨⟨hla, ⟨rfl, rfl, rfl, by simp, fun j hj => hoth j (by omega)⟩, fun ad => ?_, fun j hj => if_neg (by omega)⟩, ?_⟩
  · by_cases e : ad.block = b
    · subst e; simp [World.frozen?, hsame, hh]
    · exact World.frozen?_of_block (hoth _ e)
  · have hd := hi.dropTag t
    have hlt : b < w.heap.size := (Array.getElem?_eq_some_iff.1 hh).1
    refine ⟨by simpa using hd.base, ?_, hd.tag, ?_, hd.dist, hd.nodup, fun j hj => ?_, hd.names⟩
    · intro b' cs k hl
      obtain ⟨q1, q2, q3, q4, arr2, el2, us2, q5, q6, q7, q8⟩ := hi.box b' cs k hl
      have hne : b' ≠ b := fun e => by subst e; rw [p5] at hl; cases hl
      exact ⟨q1, by show (if b' = b then _ else g.wm b') = 0; rw [if_neg hne]; exact q2, q3, q4, arr2, el2, us2, by rw [hoth b' hne]; exact q5, q6, RCs_later hla _ _ q7, q8⟩
    · intro t' ht' b' cap' n' sz' hb'
      have ht2 := List.mem_of_mem_erase ht'
      obtain ⟨q1, q2, q3, q4, q5, arr2, el2, q6, q7⟩ := hi.own t' ht2 b' cap' n' sz' hb'
      have hne : b' ≠ b := fun e => by
        subst e
        have := hi.dist t ht t' ht2 b' _ _ hb hb'
        subst this
        exact (List.Nodup.not_mem_erase hi.nodup) ht'
      exact ⟨q1, by show (if b' = b then _ else g.wm b') = _; rw [if_neg hne]; exact q2, q3, q4, q5, arr2, el2, by rw [hoth b' hne]; exact q6, q7⟩
    · show (if j = b then _ else g.wm j) = 0
      simp only [setRow_size] at hj
      rw [if_neg (by omega)]; exact hi.fresh j hj

theorem drew_eq (w : World) : w.drew = { w with drawn := w.drawn + 1 } := rfl

theorem elsOk_append {sz : Nat} {xs ys : List V} (h : elsOk sz xs) (h' : elsOk sz ys) : elsOk sz (xs ++ ys) := fun x hx => (List.mem_append.1 hx).elim (h x) (h' x)

/-- append onto nil. -/
theorem append_nil {t el : TypeId} (hu : P.underlying t = some (.slice el)) (h1 : hasT P el = true) (hz : (zeroC P el).map List.length = some (P.cellsOf el))
    {tgx : Tag} {ys : List V} (hs : elsOk (P.cellsOf el) ys) (hb : ys.length * P.bytesOf el ≤ 140737488355328) (hm : ys.length ≤ maxLen)
    (hi : Inv X.B g st w) {ux : Value} (hx : RV g w (.lst tgx ys) ux) (ty : TypeId) (hk : K (.lst (.own st.nx true (P.cellsOf el)) ys) ⟨st.box, st.nx :: st.tg, st.nx + 1⟩) :
    ∃ v u g' st' w', K v st' ∧ Out X.B g w g' st' w' ∧ RV g' w' v u ∧ (Builtin.append_ #[t, t] ty #[.slice none 0 0, ux]).run P w = .ok u w' := by
  obtain ⟨news, hsrc, hr⟩ := src_of hu hx hs
  by_cases h0 : ys.length = 0
  · have hys : ys = [] := List.eq_nil_of_length_eq_zero h0
    subst hys
    obtain ⟨i2, l2⟩ := hi.addTag rfl none (fun _ _ _ _ e => by cases e)
    have hsl := hsrc.len
    have hsc := hsrc.cells
    simp only [List.length_nil] at hsl hsc
    refine ⟨_, .slice none 0 0, _, _, w, hk, ⟨⟨l2, .refl _ _, fun _ => rfl, fun _ _ => rfl⟩, i2⟩, RV_lst_mk ?_, ?_⟩
    · simp only [RC]
      exact .inl ⟨trivial, trivial, if_pos rfl, rfl⟩
    · simp [Builtin.append_, run_underlying hu, run_sizeOf' h1, hsl, hsc]
  · obtain ⟨cap', extra, c1, c2, c3, hrun⟩ := run_grow hu h1 hz hsrc ty (base := none) (n := 0) (cap := 0) (olds := []) (by simp [Builtin.firstCells]) (by omega) (by simpa using hb) (by omega)
    simp only [Nat.zero_add, List.nil_append] at c1 c3 hrun
    have ho1 := out_drew hi (w.drawn + 1)
    have hlen := elsOk_length hs hr
    obtain ⟨g', ho, hv⟩ := new_own (X := X) (w := w.drew) ho1.inv hs (RCs_later ho1.step.later.bare _ _ hr) el extra cap' c1 c2 (by rw [hlen, c3, ← Nat.add_mul]; congr 1; omega) true (fun _ => h0)
    exact ⟨_, _, g', _, _, hk, ⟨ho1.step.trans ho.step, ho.inv⟩, hv, hrun⟩

theorem append_own {t el : TypeId} (hu : P.underlying t = some (.slice el)) (h1 : hasT P el = true) (hz : (zeroC P el).map List.length = some (P.cellsOf el))
    {tgx : Tag} {ys : List V} (hs : elsOk (P.cellsOf el) ys) {tn : Nat} {nb : Bool} {es : List V} (htn : tn ∈ st.tg) (hb : (es.length + ys.length) * P.bytesOf el ≤ 140737488355328) (hm : es.length + ys.length ≤ maxLen)
    (hi : Inv X.B g st w) {us ux : Value} (hsv : RV g w (.lst (.own tn nb (P.cellsOf el)) es) us) (hx : RV g w (.lst tgx ys) ux) (ty : TypeId)
    (hk : K (.lst (.own st.nx nb (P.cellsOf el)) (es ++ ys)) ⟨st.box, st.nx :: st.tg.erase tn, st.nx + 1⟩) :
    ∃ v u g' st' w', K v st' ∧ Out X.B g w g' st' w' ∧ RV g' w' v u ∧ (Builtin.append_ #[t, t] ty #[us, ux]).run P w = .ok u w' := by
  have hl := RV_lst hsv
  simp only [RC] at hl
  have hdrop := hi.dropTag tn
  rcases hl with ⟨rfl, hux, hn1, rfl⟩ | ⟨b, o, cap, ds, hux, hc, ⟨ht1, rfl, ht3⟩, hr, ⟨sz, hf1, hf2⟩, ha⟩
  · injection hux with hux _
    subst hux
    simp only [List.nil_append] at hk
    exact append_nil (st := ⟨st.box, st.tg.erase tn, st.nx⟩) hu h1 hz hs (by simpa using hb) (by simpa using hm) hdrop hx ty hk
  · injection hux with hux _
    subst hux
    obtain ⟨p1, p2, p3, p4, p5, arr, el', p6, p7⟩ := hi.own tn htn b cap es.length _ ht1
    obtain ⟨news, hsrc, hrn⟩ := src_of hu hx hs
    have hlen : ds.length = es.length * P.cellsOf el := by
      rcases hf2 tn nb _ rfl with e | e
      · rw [RCs_length _ w es ds hr]; exact (RCs_length _ w es ds hr).symm.trans (elsOk_length (fun x hx => (hf1 x hx).trans e.symm) hr)
      · subst e; simp only [RCs] at hr; subst hr; simp
    have hes : elsOk (P.cellsOf el) es := by
      rcases hf2 tn nb _ rfl with e | e
      · exact fun x hx => (hf1 x hx).trans e.symm
      · subst e; exact fun x hx => by cases hx
    have hlenN := elsOk_length hs hrn
    have hnb : nb = true → (es ++ ys).length ≠ 0 := fun e => by have := ht3 e; simp; intro h; subst h; simp at this
    by_cases hroom : es.length + ys.length ≤ cap
    · have hrun := run_room hu h1 hsrc ty p6 hroom (by omega)
      have hle : (es.length + ys.length) * P.cellsOf el ≤ cap * P.cellsOf el := Nat.mul_le_mul_right _ hroom
      rw [Nat.add_mul] at hle
      have hdsa : arr.toList.take (es.length * P.cellsOf el) = ds := by
        apply List.ext_getElem?
        intro k
        rw [List.getElem?_take]
        split
        · have hk : k < ds.length := by omega
          have := (ha k ds[k] (by simp [hk])).1
          rw [Nat.zero_add, cell_of_row w b k arr el' (0, 0) p6] at this
          rw [List.getElem?_eq_getElem hk, ← this]; simp
        · rw [List.getElem?_eq_none (by omega)]
      have hsz' : (arr.toList.take (es.length * P.cellsOf el) ++ news ++ arr.toList.drop (es.length * P.cellsOf el + news.length)).toArray.size = arr.size := by simp; omega
      have ho := out_own_write (B := X.B) hi htn ht1 p6 (arr.toList.take (es.length * P.cellsOf el) ++ news ++ arr.toList.drop (es.length * P.cellsOf el + news.length)).toArray hsz'
        (fun k hk => by
          rw [List.getElem?_toArray, List.append_assoc, List.getElem?_append_left (by simp; omega), List.getElem?_take, if_pos hk]
          simp) ys.length
      have hsame := setRow_heap w b arr (arr.toList.take (es.length * P.cellsOf el) ++ news ++ arr.toList.drop (es.length * P.cellsOf el + news.length)).toArray el' (0, 0) p6
      obtain ⟨i2, l2⟩ := ho.inv.addTag rfl (some (b, cap, es.length + ys.length, P.cellsOf el)) (fun b' c n s e => by
        injection e with e; injection e with e1 e; injection e with e2 e; injection e with e3 e4
        subst e1; subst e2; subst e3; subst e4
        refine ⟨p1, if_pos rfl, hroom, p4, p5, ⟨_, el', hsame, by rw [hsz']; exact p7⟩, fun t ht x hx => ?_⟩
        have ht2 := List.mem_of_mem_erase ht
        have := hi.dist tn htn t ht2 b _ x ht1 hx
        subst this
        exact (List.Nodup.not_mem_erase hi.nodup) ht)
      refine ⟨_, _, _, _, _, hk, ⟨ho.step.trans ⟨l2, .refl _ _, fun _ => rfl, fun _ _ => rfl⟩, i2⟩, RV_lst_mk ?_, hrun⟩
      have hal := RCs_later (ho.step.later.trans l2).bare _ _ (RCs_append hr hrn)
      simp only [RC]
      refine .inr ⟨b, 0, cap, ds ++ news, by rw [List.length_append], by rw [List.length_append]; exact hroom, ⟨by rw [List.length_append]; exact if_pos rfl, rfl, hnb⟩, hal,
        ⟨P.cellsOf el, elsOk_append hes hs, fun _ _ _ e => by cases e; exact .inl rfl⟩, ?_⟩
      intro k u hk
      have hkl : k < ds.length + news.length := by
        rcases Nat.lt_or_ge k (ds ++ news).length with h | h
        · simpa using h
        · rw [List.getElem?_eq_none h] at hk; cases hk
      refine ⟨?_, ?_⟩
      · rw [Nat.zero_add, cell_of_row _ b k _ el' (0, 0) hsame, hdsa, List.getElem?_toArray, List.getElem?_append_left (by simpa using hkl)]
        exact hk
      · show 0 + k < if b = b then (es.length + ys.length) * P.cellsOf el else g.wm b
        rw [if_pos rfl, Nat.add_mul]; omega
    · have hold : (Builtin.firstCells (P.cellsOf el) es.length (.slice (some ⟨b, 0, none⟩) es.length cap)).run P w.drew = .ok ds.toArray w.drew :=
        run_firstCells_some w.drew _ es.length ⟨b, 0, none⟩ es.length cap ds hlen (fun j u hj => by rw [addr_add]; exact (ha j u hj).1)
      obtain ⟨cap', extra, c1, c2, c3, hrun⟩ := run_grow hu h1 hz hsrc ty hold (by omega) hb hm
      have ho1 := out_drew hdrop (w.drawn + 1)
      obtain ⟨g', ho, hv⟩ := new_own (X := X) (w := w.drew) ho1.inv (elsOk_append hes hs) (RCs_later ho1.step.later.bare _ _ (RCs_append hr hrn)) el extra cap' (by simpa using c1) c2
        (by rw [List.length_append, hlen, hlenN, c3, ← Nat.add_mul, ← Nat.add_mul]; congr 1; omega) nb hnb
      rw [List.length_append] at hv
      exact ⟨_, _, g', _, _, hk, ⟨ho1.step.trans ho.step, ho.inv⟩, hv, hrun⟩

end
end Go.Al
