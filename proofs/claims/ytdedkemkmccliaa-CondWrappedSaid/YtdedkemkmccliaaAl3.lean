/-
  AL, part 3: what an operation may do to the world, and that the invariant lasts. General: no program in sight.
-/
import Derived.Test.YtdedkemkmccliaaAl2
set_option linter.unusedVariables false
set_option linter.unusedSimpArgs false
namespace Go.Al
open Go.RowKit

theorem cell_lt {w : World} {b o : Nat} {u : Value} (h : w.cell? ⟨b, o, none⟩ = some u) : b < w.heap.size := World.block_lt_of_cell? w _ h

/-- The world grows: old blocks stay. -/
theorem Inv.grow {B : Nat} {g g' : Gh} {st : S} {w w' : World} (h : Inv B g st w) (l : Later g w g' w') (hs : w.heap.size ≤ w'.heap.size) (hb : ∀ b, b < w.heap.size → w'.heap[b]? = w.heap[b]?)
    (hwm : ∀ b, b < w.heap.size → g'.wm b = g.wm b) (hf : ∀ b, w'.heap.size ≤ b → g'.wm b = 0) (htb : g'.tb = g.tb) : Inv B g' st w' := by
  have lt : ∀ {b : Nat} {o : Obj}, w.heap[b]? = some o → b < w.heap.size := fun hh => (Array.getElem?_eq_some_iff.1 hh).1
  refine ⟨Nat.le_trans h.base hs, ?_, ?_, ?_, ?_, h.nodup, hf, ?_⟩
  · intro b cs k hl
    obtain ⟨h1, h2, h3, h4, arr, el, us, h5, h6, h7, h8⟩ := h.box b cs k hl
    exact ⟨h1, by rw [hwm b (lt h5)]; exact h2, h3, h4, arr, el, us, by rw [hb b (lt h5)]; exact h5, h6, RCs_later l _ _ h7, h8⟩
  · rw [htb]; exact h.tag
  · rw [htb]
    intro t ht b cap n sz hbt
    obtain ⟨h1, h2, h3, h4, h5, arr, el, h6, h7⟩ := h.own t ht b cap n sz hbt
    exact ⟨h1, by rw [hwm b (lt h6)]; exact h2, h3, h4, h5, arr, el, by rw [hb b (lt h6)]; exact h6, h7⟩
  · rw [htb]; exact h.dist
  · rw [htb]; exact h.names

theorem later_of_heap {g g' : Gh} {w w' : World} (hf : ∀ b, w.heap.size ≤ b → g.wm b = 0) (hb : ∀ b, b < w.heap.size → w'.heap[b]? = w.heap[b]?) (hwm : ∀ b, g.wm b ≤ g'.wm b) (htb : ∀ t x, g.tb t = some x → g'.tb t = some x) : Later g w g' w' :=
  ⟨hwm, htb, fun b o ho => World.cell?_of_block (hb b (by
    rcases Nat.lt_or_ge b w.heap.size with h | h
    · exact h
    · rw [hf b h] at ho; omega))⟩

/-- What an operation leaves: a step, and the invariant. -/
structure Out (B : Nat) (g : Gh) (w : World) (g' : Gh) (st' : S) (w' : World) : Prop where
  step : Step B g w g' w'
  inv : Inv B g' st' w'

theorem Out.refl {B : Nat} {g : Gh} {st : S} {w : World} (h : Inv B g st w) : Out B g w g st w := ⟨.refl _ _ _, h⟩

theorem frozen_of_heap {w w' : World} {b : Nat} (h : w'.heap[b]? = w.heap[b]?) (o : Nat) (s : Option Nat) : w'.frozen? ⟨b, o, s⟩ = w.frozen? ⟨b, o, s⟩ := World.frozen?_of_block (w := w) h

/-- Some answers drawn from the tape. -/
theorem out_drew {B : Nat} {g : Gh} {st : S} {w : World} (h : Inv B g st w) (n : Nat) : Out B g w g st { w with drawn := n } :=
  ⟨⟨⟨fun _ => Nat.le_refl _, fun _ _ e => e, fun _ _ _ => rfl⟩, ⟨rfl, rfl, rfl, Nat.le_refl _, fun _ _ => rfl⟩, fun _ => rfl, fun _ _ => rfl⟩,
   h.grow ⟨fun _ => Nat.le_refl _, fun _ _ e => e, fun _ _ _ => rfl⟩ (Nat.le_refl _) (fun _ _ => rfl) (fun _ _ => rfl) h.fresh rfl⟩

theorem alloc_old (w : World) (o : Obj) (b : Nat) (h : b < w.heap.size) : (w.alloc o).heap[b]? = w.heap[b]? := Below.heap_alloc w o b h
theorem alloc_new (w : World) (o : Obj) : (w.alloc o).heap[w.heap.size]? = some o := heap_alloc_new w o

theorem alloc_frozen (w : World) (cs : Array Value) (el : TypeId) (a : Addr) : (w.alloc (.cells cs el)).frozen? a = w.frozen? a := by
  rcases Nat.lt_trichotomy a.block w.heap.size with h | h | h
  · exact World.frozen?_of_block (alloc_old w _ _ h)
  · have h1 : (w.alloc (.cells cs el)).heap[a.block]? = some (.cells cs el) := by rw [h]; exact alloc_new w _
    have h2 : w.heap[a.block]? = none := by simp [h]
    simp [World.frozen?, h1, h2]
  · have h1 : (w.alloc (.cells cs el)).heap[a.block]? = none := by simp; omega
    have h2 : w.heap[a.block]? = none := by simp; omega
    simp [World.frozen?, h1, h2]

/-- A new block, of which m cells are never written again. -/
theorem out_alloc {B : Nat} {g : Gh} {st : S} {w : World} (h : Inv B g st w) (cs : Array Value) (el : TypeId) (m : Nat) :
    Out B g w ⟨fun b => if b = w.heap.size then m else g.wm b, g.tb⟩ st (w.alloc (.cells cs el)) := by
  have hsz : (w.alloc (.cells cs el)).heap.size = w.heap.size + 1 := by simp
  have hl : Later g w ⟨fun b => if b = w.heap.size then m else g.wm b, g.tb⟩ (w.alloc (.cells cs el)) :=
    later_of_heap h.fresh (fun b hb => alloc_old w _ b hb) (fun b => by
      show g.wm b ≤ if b = w.heap.size then m else g.wm b
      split
      · rename_i e; rw [h.fresh b (by omega)]; omega
      · exact Nat.le_refl _) (fun _ _ e => e)
  refine ⟨⟨hl, (Below.refl _ _).alloc h.base _, fun a => alloc_frozen w cs el a, fun b hb => ?_⟩, h.grow hl (by omega) (fun b hb => alloc_old w _ b hb) (fun b hb => ?_) (fun b hb => ?_) rfl⟩
  · have := h.base
    show (if b = w.heap.size then m else g.wm b) = _
    rw [if_neg (by omega)]
  · show (if b = w.heap.size then m else g.wm b) = _
    rw [if_neg (by omega)]
  · show (if b = w.heap.size then m else g.wm b) = 0
    rw [hsz] at hb
    rw [if_neg (by omega)]; exact h.fresh b (by omega)

theorem at_alloc {g : Gh} {w : World} (cs : Array Value) (el : TypeId) (us : List Value) (m : Nat) (hm : us.length ≤ m) (hp : cs.toList.take us.length = us) :
    At ⟨fun b => if b = w.heap.size then m else g.wm b, g.tb⟩ (w.alloc (.cells cs el)) w.heap.size 0 us := by
  intro k u hu
  have hk : k < us.length := by
    rcases Nat.lt_or_ge k us.length with h | h
    · exact h
    · rw [List.getElem?_eq_none h] at hu; cases hu
  refine ⟨?_, by show 0 + k < (if w.heap.size = w.heap.size then m else g.wm _); rw [if_pos rfl]; omega⟩
  rw [Nat.zero_add, cell_of_row _ w.heap.size k cs el (0, 0) (alloc_new w _)]
  have h2 := congrArg (fun l => l[k]?) hp
  simp only [List.getElem?_take, if_pos hk] at h2
  rw [← hu, ← h2]
  simp

theorem look_lay_none {l : List (Nat × List V × Nat)} {b j : Nat} {x : List V × Nat} (h : look (lay l b x) j = none) : b ≠ j ∧ look l j = none := by
  rw [look_lay] at h
  by_cases e : b = j
  · rw [if_pos e] at h; cases h
  · rw [if_neg e] at h; exact ⟨e, h⟩

/-- A block of no one's becomes a box. -/
theorem Inv.addBox {B : Nat} {g : Gh} {st : S} {w : World} (h : Inv B g st w) {b : Nat} {arr : Array Value} {el : TypeId} {cs : List V} {us : List Value} (hB : B ≤ b) (hw : g.wm b = 0)
    (hh : w.heap[b]? = some (.cells arr el (0, 0))) (hc : cs.length ≤ arr.size) (h1 : ∀ c ∈ cs, c.isOne = true) (hr : RCs g w cs us) (hu : arr.toList.take cs.length = us)
    (hno : ∀ t ∈ st.tg, ∀ d, g.tb t = some (some (b, d)) → False) : Inv B g ⟨lay st.box b (cs, arr.size), st.tg, st.nx⟩ w := by
  refine ⟨h.base, ?_, h.tag, ?_, h.dist, h.nodup, h.fresh, h.names⟩
  · intro b' cs' k' hl
    simp only [look_lay] at hl
    by_cases e : b = b'
    · subst e
      rw [if_pos rfl] at hl
      injection hl with hl
      injection hl with e1 e2
      subst e1; subst e2
      exact ⟨hB, hw, hc, h1, arr, el, us, hh, rfl, hr, hu⟩
    · rw [if_neg e] at hl
      exact h.box b' cs' k' hl
  · intro t ht b' cap n sz hb
    obtain ⟨p1, p2, p3, p4, p5, p6⟩ := h.own t ht b' cap n sz hb
    refine ⟨p1, p2, p3, p4, ?_, p6⟩
    simp only [look_lay]
    rw [if_neg]
    · exact p5
    · intro e; subst e; exact hno t ht _ hb

/-- A box's cells are written. -/
theorem out_setRow {B : Nat} {g : Gh} {st : S} {w : World} (h : Inv B g st w) {b : Nat} {cs : List V} {k : Nat} (hl : look st.box b = some (cs, k)) {arr : Array Value} {el : TypeId}
    (hh : w.heap[b]? = some (.cells arr el (0, 0))) (arr' : Array Value) (hs : arr'.size = arr.size) (cs' : List V) (us' : List Value) (hc : cs'.length ≤ arr.size) (h1 : ∀ c ∈ cs', c.isOne = true)
    (hr : RCs g w cs' us') (hu : arr'.toList.take cs'.length = us') : Out B g w g ⟨lay st.box b (cs', k), st.tg, st.nx⟩ (w.setRow b arr') := by
  obtain ⟨p1, p2, p3, p4, arr0, el0, us0, p5, p6, p7, p8⟩ := h.box b cs k hl
  have he : arr0 = arr ∧ el0 = el := by rw [hh] at p5; injection p5 with p5; injection p5 with e1 e2; exact ⟨e1.symm, e2.symm⟩
  obtain ⟨rfl, rfl⟩ := he
  have hoth : ∀ j, j ≠ b → (w.setRow b arr').heap[j]? = w.heap[j]? := fun j hj => setRow_other w b j _ hj
  have hsame := setRow_heap w b arr0 arr' el0 (0, 0) hh
  have hcell : ∀ j o, o < g.wm j → (w.setRow b arr').cell? ⟨j, o, none⟩ = w.cell? ⟨j, o, none⟩ := fun j o ho => by
    refine World.cell?_of_block (hoth j ?_)
    intro e; subst e; rw [p2] at ho; omega
  have hla : Later g w g (w.setRow b arr') := ⟨fun _ => Nat.le_refl _, fun _ _ e => e, hcell⟩
  refine ⟨⟨hla, ⟨rfl, rfl, rfl, by simp, fun j hj => hoth j (by omega)⟩, fun a => ?_, fun _ _ => rfl⟩, ?_⟩
  · by_cases e : a.block = b
    · subst e; simp [World.frozen?, hsame, hh]
    · exact World.frozen?_of_block (hoth _ e)
  · refine ⟨by simpa using h.base, ?_, h.tag, ?_, h.dist, h.nodup, fun j hj => h.fresh j (by simpa using hj), h.names⟩
    · intro b' cs2 k2 hl2
      replace hl2 : look (lay st.box b (cs', k)) b' = some (cs2, k2) := hl2
      rw [look_lay] at hl2
      by_cases e : b = b'
      · subst e
        rw [if_pos rfl] at hl2
        injection hl2 with hl2
        injection hl2 with e1 e2
        subst e1; subst e2
        exact ⟨p1, p2, by omega, h1, arr', el0, us', hsame, by omega, RCs_later hla _ _ hr, hu⟩
      · rw [if_neg e] at hl2
        obtain ⟨q1, q2, q3, q4, arr2, el2, us2, q5, q6, q7, q8⟩ := h.box b' cs2 k2 hl2
        exact ⟨q1, q2, q3, q4, arr2, el2, us2, by rw [hoth b' (Ne.symm e)]; exact q5, q6, RCs_later hla _ _ q7, q8⟩
    · intro t ht b' cap n sz hb
      obtain ⟨q1, q2, q3, q4, q5, arr2, el2, q6, q7⟩ := h.own t ht b' cap n sz hb
      have hne : b ≠ b' := fun e => by subst e; rw [hl] at q5; cases q5
      refine ⟨q1, q2, q3, q4, ?_, arr2, el2, by rw [hoth b' (Ne.symm hne)]; exact q6, q7⟩
      simp only [look_lay]
      rw [if_neg hne]; exact q5

/-- The next ghost name is fresh. -/
theorem Inv.freshName {B : Nat} {g : Gh} {st : S} {w : World} (h : Inv B g st w) : g.tb st.nx = none ∧ st.nx ∉ st.tg := by
  refine ⟨h.names _ (Nat.le_refl _), fun hm => ?_⟩
  obtain ⟨d, hd⟩ := h.tag _ hm
  rw [h.names _ (Nat.le_refl _)] at hd; cases hd

/-- A new name: for nil, or for a block that is no one's. -/
theorem Inv.addTag {B : Nat} {g : Gh} {st : S} {w : World} (h : Inv B g st w) {t : Nat} (htn : t = st.nx) (d : Option (Nat × Nat × Nat × Nat))
    (hd : ∀ b cap n sz, d = some (b, cap, n, sz) → B ≤ b ∧ g.wm b = n * sz ∧ n ≤ cap ∧ cap ≤ maxLen ∧ look st.box b = none ∧ (∃ arr el, w.heap[b]? = some (.cells arr el (0, 0)) ∧ arr.size = cap * sz) ∧
      (∀ t ∈ st.tg, ∀ x, g.tb t = some (some (b, x)) → False)) :
    Inv B ⟨g.wm, fun j => if j = t then some d else g.tb j⟩ ⟨st.box, t :: st.tg, st.nx + 1⟩ w ∧ Later g w ⟨g.wm, fun j => if j = t then some d else g.tb j⟩ w := by
  have ht : g.tb t = none := by rw [htn]; exact h.freshName.1
  have hnt : t ∉ st.tg := by rw [htn]; exact h.freshName.2
  have hla : Later g w ⟨g.wm, fun j => if j = t then some d else g.tb j⟩ w := ⟨fun _ => Nat.le_refl _, fun j x e => by
    show (if j = t then some d else g.tb j) = some x
    rw [if_neg (fun e2 => by subst e2; rw [ht] at e; cases e)]
    exact e, fun _ _ _ => rfl⟩
  have hget : ∀ j ∈ st.tg, (if j = t then some d else g.tb j) = g.tb j := fun j hj => if_neg (fun e => by subst e; exact hnt hj)
  refine ⟨⟨h.base, ?_, ?_, ?_, ?_, List.nodup_cons.2 ⟨hnt, h.nodup⟩, h.fresh, ?_⟩, hla⟩
  · intro b cs k hl
    obtain ⟨h1, h2, h3, h4, arr, el, us, h5, h6, h7, h8⟩ := h.box b cs k hl
    exact ⟨h1, h2, h3, h4, arr, el, us, h5, h6, RCs_later hla _ _ h7, h8⟩
  · intro j hj
    rcases List.mem_cons.1 hj with rfl | hj
    · exact ⟨d, if_pos rfl⟩
    · obtain ⟨x, hx⟩ := h.tag j hj; exact ⟨x, (hget j hj).trans hx⟩
  · intro j hj b cap n sz hb
    rcases List.mem_cons.1 hj with rfl | hj
    · have hb' : some d = some (some (b, cap, n, sz)) := by rw [← hb]; exact (if_pos rfl).symm
      injection hb' with hb'
      obtain ⟨q1, q2, q3, q4, q5, q6, _⟩ := hd b cap n sz hb'
      exact ⟨q1, q2, q3, q4, q5, q6⟩
    · exact h.own j hj b cap n sz ((hget j hj).symm.trans hb)
  · intro j hj j' hj' b x y hx hy
    rcases List.mem_cons.1 hj with e1 | m1 <;> rcases List.mem_cons.1 hj' with e2 | m2
    · rw [e1, e2]
    · subst e1
      have hx' : some d = some (some (b, x)) := by rw [← hx]; exact (if_pos rfl).symm
      injection hx' with hx'
      obtain ⟨x1, x2, x3⟩ := x
      obtain ⟨_, _, _, _, _, _, q⟩ := hd b x1 x2 x3 hx'
      exact (q j' m2 y ((hget j' m2).symm.trans hy)).elim
    · subst e2
      have hy' : some d = some (some (b, y)) := by rw [← hy]; exact (if_pos rfl).symm
      injection hy' with hy'
      obtain ⟨y1, y2, y3⟩ := y
      obtain ⟨_, _, _, _, _, _, q⟩ := hd b y1 y2 y3 hy'
      exact (q j m1 x ((hget j m1).symm.trans hx)).elim
    · exact h.dist j m1 j' m2 b x y ((hget j m1).symm.trans hx) ((hget j' m2).symm.trans hy)
  · intro j hj
    replace hj : st.nx + 1 ≤ j := hj
    show (if j = t then some d else g.tb j) = none
    rw [if_neg (by omega)]; exact h.names j (by omega)

/-- A name is given up. -/
theorem Inv.dropTag {B : Nat} {g : Gh} {st : S} {w : World} (h : Inv B g st w) (t : Nat) : Inv B g ⟨st.box, st.tg.erase t, st.nx⟩ w :=
  h.weaken ⟨fun _ _ e => e, fun _ hm => List.mem_of_mem_erase hm, fun hn => hn.erase t, fun _ e => e, Nat.le_refl _⟩

/-- A box is given up. -/
theorem Inv.dropBox {B : Nat} {g : Gh} {st : S} {w : World} (h : Inv B g st w) (b : Nat) : Inv B g ⟨wipe st.box b, st.tg, st.nx⟩ w :=
  h.weaken ⟨fun j c e => by
    simp only [look_wipe] at e
    split at e
    · cases e
    · exact e, fun _ hm => hm, fun hn => hn, fun j e => by
    simp only [look_wipe]
    split
    · rfl
    · exact e, Nat.le_refl _⟩

end Go.Al
