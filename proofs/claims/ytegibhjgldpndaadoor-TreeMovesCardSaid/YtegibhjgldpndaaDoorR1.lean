/-
  The iterator over a tree's parts: what it hands to each round, in which order. By the kit's rules for a range over a function.
-/
import Derived.Test.YtegibhjgldpndaaDoorT
import Derived.Test.YtegibhjgldpndaaDoorD12
import Derived.RangeFuncNested
import Derived.RangeFuncBound
import Derived.RangeFuncLeaves
import Derived.RangeFuncWrites
import Derived.Shelf.Abstract
import Derived.OwnWalkIn
import Derived.TacticsInMore
import Derived.LoopIn
set_option linter.unusedVariables false
set_option linter.unusedSimpArgs false
namespace Go.Proofs.YtegibhjgldpndaaDoor
open Go.Al Go.Den Go.RowKit Go.Shelf

/-- A part, and the value that stands for it in the world where the walk begins. -/
def El (g : Gh) (w0 : World) : Type := { x : Nd × Value // RV g w0 (encNd x.1) x.2 }

/-- What a round may write: the box in bx, and the block that it points at. -/
def exb (bx : Nat) (W : World) (b : Nat) : Prop := b = bx ∨ ∃ o l c, W.cell? ⟨bx, 0, none⟩ = some (.slice (some ⟨b, o, none⟩) l c)
def BoxOk (n0 bx : Nat) (W : World) : Prop := n0 ≤ bx ∧ (∃ arr t m, W.heap[bx]? = some (.cells arr t m)) ∧ ∀ b, exb bx W b → n0 ≤ b ∧ b < W.heap.size
/-- What a round keeps. -/
structure Kept (n0 bx : Nat) (A B : World) : Prop where
  ok : BoxOk n0 bx B
  size : A.heap.size ≤ B.heap.size
  same : ∀ b o v, A.cell? ⟨b, o, none⟩ = some v → ¬ exb bx A b → B.cell? ⟨b, o, none⟩ = some v
  ex : ∀ b, exb bx B b → exb bx A b ∨ A.heap.size ≤ b
  low : ∀ b, b < n0 → B.heap[b]? = A.heap[b]?
def KeptIf (n0 bx : Nat) (A B : World) : Prop := BoxOk n0 bx A → Kept n0 bx A B

theorem cell_lt {A : World} {b o : Nat} {v : Value} (h : A.cell? ⟨b, o, none⟩ = some v) : b < A.heap.size := by
  rcases Nat.lt_or_ge b A.heap.size with h1 | h1
  · exact h1
  · unfold World.cell? at h
    have : A.heap[b]? = none := Array.getElem?_eq_none h1
    simp only [this] at h
    cases h
theorem cell_of_heap {A B : World} {b : Nat} (h : B.heap[b]? = A.heap[b]?) (o : Nat) : B.cell? ⟨b, o, none⟩ = A.cell? ⟨b, o, none⟩ := World.cell?_of_block h
theorem Kept.refl {n0 bx : Nat} {A : World} (h : BoxOk n0 bx A) : Kept n0 bx A A := ⟨h, Nat.le_refl _, fun _ _ _ h _ => h, fun _ h => .inl h, fun _ _ => rfl⟩
theorem Kept.trans {n0 bx : Nat} {A B C : World} (h : Kept n0 bx A B) (k : Kept n0 bx B C) : Kept n0 bx A C := by
  refine ⟨k.ok, Nat.le_trans h.size k.size, fun b o v hb hx => ?_, fun b hb => ?_, fun b hb => (k.low b hb).trans (h.low b hb)⟩
  · refine k.same b o v (h.same b o v hb hx) (fun hx2 => ?_)
    rcases h.ex b hx2 with h1 | h1
    · exact hx h1
    · have := cell_lt hb; omega
  · rcases k.ex b hb with h1 | h1
    · exact h.ex b h1
    · exact .inr (Nat.le_trans h.size h1)
theorem keptIf_t {n0 bx : Nat} {A B C : World} (h : KeptIf n0 bx A B) (k : KeptIf n0 bx B C) : KeptIf n0 bx A C := fun hA => (h hA).trans (k (h hA).ok)

theorem exb_congr {bx : Nat} {A B : World} (h : B.heap[bx]? = A.heap[bx]?) (b : Nat) : exb bx B b ↔ exb bx A b := by
  unfold exb; rw [cell_of_heap h]
/-- What leaves all cells as they lay, and lays some. -/
theorem BoxOk.grown {n0 bx : Nat} {A B : World} (h : BoxOk n0 bx A) (hs : A.heap.size ≤ B.heap.size) (hb : B.heap[bx]? = A.heap[bx]?) : BoxOk n0 bx B := by
  obtain ⟨h1, ⟨arr, t, m, h2⟩, h3⟩ := h
  exact ⟨h1, ⟨arr, t, m, hb.trans h2⟩, fun b hx => ⟨(h3 b ((exb_congr hb b).1 hx)).1, Nat.lt_of_lt_of_le (h3 b ((exb_congr hb b).1 hx)).2 hs⟩⟩
theorem BoxOk.lt {n0 bx : Nat} {A : World} (h : BoxOk n0 bx A) : bx < A.heap.size := (h.2.2 bx (.inl rfl)).2
theorem Kept.grown {n0 bx : Nat} {A B : World} (h : BoxOk n0 bx A) (hg : A.grownBy B none) : Kept n0 bx A B := by
  have hb : ∀ b, b < A.heap.size → B.heap[b]? = A.heap[b]? := fun b hb => hg.block b hb (by simp)
  refine ⟨h.grown hg.size (hb bx h.lt), hg.size, fun b o v ho _ => (cell_of_heap (hb b (cell_lt ho)) o).trans ho, fun b hx => .inl ((exb_congr (hb bx h.lt) b).1 hx), fun b hl => hb b (Nat.lt_trans (Nat.lt_of_lt_of_le hl h.1) h.lt)⟩
theorem keptIf_b {n0 bx : Nat} (W : World) (l : Nat) (o o' : Obj) (hl : n0 ≤ l) (h : W.heap[l]? = some o) (hc : o.isCells = false) : KeptIf n0 bx W (W.putObj l o') := by
  intro hW
  have hne : bx ≠ l := by
    rintro rfl
    obtain ⟨_, ⟨arr, t, m, h2⟩, _⟩ := hW
    rw [h] at h2; injection h2 with h2; subst h2; cases hc
  have hb : (W.putObj l o').heap[bx]? = W.heap[bx]? := World.putObj_heap_other hne
  have hsz : (W.putObj l o').heap.size = W.heap.size := by simp [World.putObj]
  refine ⟨hW.grown (Nat.le_of_eq hsz.symm) hb, Nat.le_of_eq hsz.symm, fun b o1 v h1 _ => (cell_of_heap (World.putObj_heap_other ?_) o1).trans h1, fun b hx => .inl ((exb_congr hb b).1 hx), fun b hb => World.putObj_heap_other (by omega)⟩
  rintro rfl
  unfold World.cell? at h1
  simp only [h] at h1
  cases o <;> first | (cases hc; done) | (cases h1; done) | (simp at h1; done)

/-- What may be read lies as it lay. -/
def Same (g : Gh) (w0 W : World) : Prop := ∀ b o, o < g.wm b → W.cell? ⟨b, o, none⟩ = w0.cell? ⟨b, o, none⟩
theorem Same.later {wm : Nat → Nat} {w0 W : World} (h : Same ⟨wm, fun _ => none⟩ w0 W) : Later ⟨wm, fun _ => none⟩ w0 ⟨wm, fun _ => none⟩ W := ⟨fun _ => Nat.le_refl _, fun _ _ h => h, h⟩
theorem Same.back {wm : Nat → Nat} {w0 W : World} (h : Same ⟨wm, fun _ => none⟩ w0 W) : Later ⟨wm, fun _ => none⟩ W ⟨wm, fun _ => none⟩ w0 := ⟨fun _ => Nat.le_refl _, fun _ _ h => h, fun b o ho => (h b o ho).symm⟩

theorem Same.kept {wm : Nat → Nat} {n0 bx : Nat} {w0 W W' : World} (hwm : ∀ b, n0 ≤ b → wm b = 0) (h : Same ⟨wm, fun _ => none⟩ w0 W) (k : Kept n0 bx W W') : Same ⟨wm, fun _ => none⟩ w0 W' := fun b o ho => by
  have hb : b < n0 := by
    rcases Nat.lt_or_ge b n0 with h1 | h1
    · exact h1
    · replace ho : o < wm b := ho
      rw [hwm b h1] at ho; omega
  exact (cell_of_heap (k.low b hb) o).trans (h b o ho)

mutual
/-- A tree's parts, the outer ones first. -/
def allT : Nd → List Nd
  | .mk k a ks => .mk k a ks :: allK ks
def allK : List Nd → List Nd
  | [] => []
  | t :: r => allT t ++ allK r
end

theorem RV_node {g : Gh} {w : World} {k a : Int} {ks : List Nd} {v : Value} (h : RV g w (encNd (.mk k a ks)) v) : ∃ sv, v = .agg #[.int .i64 k, .int .i64 a, sv] ∧ RC g w (.lst (tagOf (encNds ks)) (encNds ks)) [sv] := by
  obtain ⟨us, h1, h2⟩ := RV_agg (show RV g w (.agg [vi k, vi a, sl (encNds ks)]) v from h)
  simp only [RCs, vi, sl] at h1
  obtain ⟨u1, u2, rfl, ⟨rfl, _⟩, u3, u4, rfl, ⟨rfl, _⟩, u5, u6, rfl, h3, rfl⟩ := h1
  have := RC_length g w _ _ h3
  simp only [V.size] at this
  obtain ⟨sv, rfl⟩ := List.length_eq_one_iff.1 this
  exact ⟨sv, by rw [h2]; simp, h3⟩
theorem RCs_nodes {g : Gh} {w : World} : ∀ {ks : List Nd} {us : List Value} (i : Nat) (h : i < ks.length), RCs g w (encNds ks) us → ∃ v0 v1 v2, RV g w (encNd ks[i]) (.agg #[v0, v1, v2]) ∧ us[3 * i]? = some v0 ∧ us[3 * i + 1]? = some v1 ∧ us[3 * i + 2]? = some v2
  | .mk k a l :: r, us, 0, _, h => by
    simp only [encNds, encNd, RCs] at h
    obtain ⟨u1, u2, rfl, h1, h2⟩ := h
    have hv : RV g w (encNd (.mk k a l)) (.agg u1.toArray) := RV_agg_mk (by simpa only [RC] using h1)
    obtain ⟨sv, e, _⟩ := RV_node hv
    have : u1 = [.int .i64 k, .int .i64 a, sv] := by
      have := congrArg (fun v => match v with | Value.agg a => a.toList | _ => []) e
      simpa using this
    subst this
    exact ⟨_, _, _, hv, rfl, rfl, rfl⟩
  | .mk k a l :: r, us, i + 1, hi, h => by
    simp only [encNds, encNd, RCs] at h
    obtain ⟨u1, u2, rfl, h1, h2⟩ := h
    have h3 := RC_length g w _ _ h1
    have h4 : u1.length = 3 := by rw [h3]; rfl
    obtain ⟨v0, v1, v2, k0, k1, k2, k3⟩ := RCs_nodes i (by simpa using hi) h2
    have ap : ∀ j, (u1 ++ u2)[3 * (i + 1) + j]? = u2[3 * i + j]? := fun j => by
      rw [List.getElem?_append_right (by omega), h4]; congr 1; omega
    exact ⟨v0, v1, v2, k0, (ap 0).trans k1, (ap 1).trans k2, (ap 2).trans k3⟩


theorem setCell_last (w : World) (t : TypeId) (c : Array Value) (i : Nat) (v : Value) : (w.alloc (.cells c t)).setCell ⟨w.heap.size, i, none⟩ v = w.alloc (.cells (c.setIfInBounds i v) t) := by
  unfold World.setCell World.alloc
  simp only [Option.isSome_none, Bool.false_eq_true, if_false]
  congr 1
  refine Array.ext_getElem? fun j => ?_
  rw [Array.getElem?_modify, Array.getElem?_push, Array.getElem?_push]
  by_cases h : w.heap.size = j
  · subst h; simp
  · have h2 : ¬ j = w.heap.size := fun e => h e.symm
    simp [h, h2]
theorem store_last {P : Program} (w : World) (t : TypeId) (c : Array Value) (i : Nat) (hi : i < c.size) (v : Value) (hv : v.oneCell' = true) : (store ⟨w.heap.size, i, none⟩ v).run P (w.alloc (.cells c t)) = .ok () (w.alloc (.cells (c.setIfInBounds i v) t)) := by
  have h1 : (w.alloc (.cells c t)).heap[w.heap.size]? = some (.cells c t (0, 0)) := World.alloc_heap_new w _
  have h2 : (w.alloc (.cells c t)).cell? ⟨w.heap.size, i, none⟩ = some c[i] := by unfold World.cell?; simp only [h1]; simp [hi]
  have h3 : (w.alloc (.cells c t)).frozen? ⟨w.heap.size, i, none⟩ = false := by unfold World.frozen?; simp only [h1]; simp
  rw [run_store P _ _ v _ hv, h2, h3]
  simp only [Bool.false_eq_true, if_false]
  rw [setCell_last]
theorem store3 {P : Program} (w : World) (t : TypeId) (z0 z1 z2 v0 v1 v2 : Value) (h0 : v0.oneCell' = true) (h1 : v1.oneCell' = true) (h2 : v2.oneCell' = true) :
    (((store ⟨w.heap.size, 0, none⟩ v0).run P (w.alloc (.cells #[z0, z1, z2] t))).andThen fun _ w' => ((store ⟨w.heap.size, 1, none⟩ v1).run P w').andThen fun _ w' => (store ⟨w.heap.size, 2, none⟩ v2).run P w') = .ok () (w.alloc (.cells #[v0, v1, v2] t)) := by
  rw [store_last w t _ 0 (by simp) v0 h0]
  simp only [Result.andThen]
  rw [store_last w t _ 1 (by simp) v1 h1]
  simp only [Result.andThen]
  rw [store_last w t _ 2 (by simp) v2 h2]
  rfl

theorem allK_app (x : Nd) : ∀ ks : List Nd, allK (ks ++ [x]) = allK ks ++ allT x
  | [] => by simp [allK]
  | t :: r => by simp only [List.cons_append, allK, allK_app x r, List.append_assoc]
theorem allK_take : ∀ (ks : List Nd) (j : Nat), (allK (ks.take j)).length ≤ (allK ks).length
  | [], j => by simp
  | t :: r, 0 => by simp [allK]
  | t :: r, j + 1 => by have := allK_take r j; simp only [List.take_succ_cons, allK, List.length_append]; omega
theorem RV_ones3 {g : Gh} {w : World} {t : Nd} {v0 v1 v2 : Value} (h : RV g w (encNd t) (.agg #[v0, v1, v2])) : v0.oneCell' = true ∧ v1.oneCell' = true ∧ v2.oneCell' = true := by
  obtain ⟨k, a, ks⟩ := t
  obtain ⟨sv, e, h2⟩ := RV_node h
  have h3 := RC_ones _ _ _ _ h2 sv (by simp)
  injection e with e
  have e0 := congrArg Array.toList e
  simp only [List.cons.injEq, and_true] at e0
  obtain ⟨rfl, rfl, rfl⟩ := e0
  exact ⟨rfl, rfl, h3⟩
theorem meas_lt {n j : Nat} (h : j < n) : n - Int.toNat ((j + 1 : Nat) : Int) < n - Int.toNat ((j : Nat) : Int) := by
  rw [Int.toNat_natCast, Int.toNat_natCast]; omega
theorem allT_pos (t : Nd) : 0 < (allT t).length := by cases t; simp [allT]
theorem allK_len : ∀ ks : List Nd, ks.length ≤ (allK ks).length
  | [] => by simp
  | t :: r => by have := allK_len r; have := allT_pos t; simp only [allK, List.length_cons, List.length_append]; omega

/-- The parts of a node, as they lie. -/
theorem RC_kids {wm : Nat → Nat} {w : World} {ks : List Nd} {sv : Value} (h : RC ⟨wm, fun _ => none⟩ w (.lst (tagOf (encNds ks)) (encNds ks)) [sv]) :
    ∃ ad cap, sv = .slice ad ks.length cap ∧ ∀ i (hi : i < ks.length), ∃ b o v0 v1 v2, ad = some ⟨b, o, none⟩ ∧ RV ⟨wm, fun _ => none⟩ w (encNd ks[i]) (.agg #[v0, v1, v2]) ∧
      (w.cell? ⟨b, o + 3 * i, none⟩ = some v0 ∧ o + 3 * i < wm b) ∧ (w.cell? ⟨b, o + (3 * i + 1), none⟩ = some v1 ∧ o + (3 * i + 1) < wm b) ∧ (w.cell? ⟨b, o + (3 * i + 2), none⟩ = some v2 ∧ o + (3 * i + 2) < wm b) := by
  have hl : (encNds ks).length = ks.length := by rw [encNds_map]; simp
  simp only [RC] at h
  rcases h with ⟨he, hu, _⟩ | ⟨b, o, cap, ds, hu, hc, _, hr, _, ha⟩
  · have h0 : ks = [] := by cases ks with | nil => rfl | cons x r => cases he
    subst h0
    injection hu with hu
    exact ⟨none, 0, hu, fun i hi => absurd hi (by simp)⟩
  · injection hu with hu
    refine ⟨_, cap, by rw [hu, hl], fun i hi => ?_⟩
    obtain ⟨v0, v1, v2, k0, k1, k2, k3⟩ := RCs_nodes i hi hr
    exact ⟨b, o, v0, v1, v2, rfl, k0, ha _ _ k1, ha _ _ k2, ha _ _ k3⟩

/-- What the walk over a tree does: all its parts come, in order; or a round said that it is enough. -/
def WalkAt (F : Fence) (l n0 bx N by' bw : Nat) (wm : Nat → Nat) (w0 : World) (J Jx : List (El ⟨wm, fun _ => none⟩ w0) → World → Prop) (t : Nd) : Prop :=
  ∀ (m : Nat) (v : Value) (pre : List (El ⟨wm, fun _ => none⟩ w0)) (W : World), Same ⟨wm, fun _ => none⟩ w0 W → RV ⟨wm, fun _ => none⟩ w0 (encNd t) v → J pre W → BoxOk n0 bx W →
    W.cell? ⟨by', 0, none⟩ = some (.func (.yield l) #[] #[]) → ¬ exb bx W by' → W.cell? ⟨bw, 0, none⟩ = some (.func (.func 36) #[] #[.pointer (some ⟨by', 0, none⟩), .pointer (some ⟨bw, 0, none⟩)]) → ¬ exb bx W bw →
    pre.length + (allT t).length ≤ N →
    CallsIn F m Tryd.prog 36 #[v, .pointer (some ⟨by', 0, none⟩), .pointer (some ⟨bw, 0, none⟩)] W fun e W' =>
      (e = .returned (.bool true) ∧ ∃ q : List (El ⟨wm, fun _ => none⟩ w0), q.map (·.1.1) = allT t ∧ J (pre ++ q) W' ∧ Kept n0 bx W W') ∨ (e = .returned (.bool false) ∧ ∃ q, Jx (pre ++ q) W')

set_option maxRecDepth 100000 in
set_option maxHeartbeats 1000000 in
/-- The function that walks, and hands to each round. -/
theorem walk36 (F : Fence) (hd : F.depth = none) (hF : ∀ f, F.fn f) (hro : F.round = none) (l n0 bx N by' bw : Nat) (wm : Nat → Nat) (w0 : World) (hwm : ∀ b, n0 ≤ b → wm b = 0) (hNb : N ≤ 1000000) (J Jx : List (El ⟨wm, fun _ => none⟩ w0) → World → Prop)
    (hJ : ∀ pre W W', J pre W → W.grownBy W' none → J pre W')
    (hY : ∀ m pre (x : El ⟨wm, fun _ => none⟩ w0) W, J pre W → pre.length < N → YieldAt F m Tryd.prog l #[x.1.2] W fun e W' => (e = .returned (.bool true) ∧ J (pre ++ [x]) W' ∧ KeptIf n0 bx W W') ∨ (e = .returned (.bool false) ∧ Jx (pre ++ [x]) W'))
    (k a : Int) (ks : List Nd)
    (ih : ∀ t ∈ ks, WalkAt F l n0 bx N by' bw wm w0 J Jx t) : WalkAt F l n0 bx N by' bw wm w0 J Jx (.mk k a ks) := by
  intro m v pre W hS hv hJ0 hB hby hxy hbw hxw hN
  have hdd : ∀ k : Nat, (F.depth.isSome = true → 1 ≤ k) := fun k h => by rw [hd] at h; cases h
  obtain ⟨sv, rfl, hsv⟩ := RV_node hv
  obtain ⟨ad, cap, rfl, hkid⟩ := RC_kids hsv
  have c1 : (W.alloc (.cells #[.int .i64 k, .int .i64 a, (.slice ad ks.length cap)] 25)).cell? ⟨by', 0, none⟩ = some (.func (.yield l) #[] #[]) := by
    rw [cell_of_heap (Below.heap_alloc _ _ _ (cell_lt hby))]; exact hby
  refine callsIn_of_wp Tryd.func36 rfl (hF _) ?_ hro
  simp only [Tryd.ntmps36, List.size_toArray, List.length_cons, List.length_nil, Nat.reduceAdd, Nat.reduceSub, Array.replicate_succ, Array.replicate_zero, List.push_toArray, List.append_toArray, List.nil_append, List.cons_append]
  obtain ⟨W1, hW1⟩ : ∃ W1, W.alloc (.cells #[.int .i64 k, .int .i64 a, (.slice ad ks.length cap)] 25) = W1 := ⟨_, rfl⟩
  have hK1 : Kept n0 bx W W1 := by rw [← hW1]; exact Kept.grown hB (World.grownBy_alloc W _ none)
  have hn1 : W1.heap[W.heap.size]? = some (.cells #[.int .i64 k, .int .i64 a, (.slice ad ks.length cap)] 25 (0, 0)) := by rw [← hW1]; exact World.alloc_heap_new W _
  have e1 : W1.heap[bx]? = W.heap[bx]? := by rw [← hW1]; exact Below.heap_alloc _ _ _ hB.lt
  have hnx : ¬ exb bx W1 W.heap.size := fun h => by
    have := (hB.2.2 _ ((exb_congr e1 _).1 h)).2
    omega
  have d0 : W1.cell? ⟨W.heap.size, 0, none⟩ = some (.int .i64 k) := by simp [World.cell?, hn1]
  have d1 : W1.cell? ⟨W.heap.size, 1, none⟩ = some (.int .i64 a) := by simp [World.cell?, hn1]
  have d2 : W1.cell? ⟨W.heap.size, 2, none⟩ = some (.slice ad ks.length cap) := by simp [World.cell?, hn1]
  have hJ1 : J pre W1 := hJ pre W W1 hJ0 (by rw [← hW1]; exact World.grownBy_alloc W _ none)
  have hY1 : YieldAt F (m - 1) Tryd.prog l #[.agg #[.int .i64 k, .int .i64 a, (.slice ad ks.length cap)]] W1 fun e W2 =>
      (e = .returned (.bool true) ∧ J (pre ++ [⟨(.mk k a ks, .agg #[.int .i64 k, .int .i64 a, (.slice ad ks.length cap)]), hv⟩]) W2 ∧ Kept n0 bx W1 W2 ∧ W2.cell? ⟨W.heap.size, 2, none⟩ = some (.slice ad ks.length cap)) ∨ (e = .returned (.bool false) ∧ ∃ q, Jx (pre ++ q) W2) := by
    refine YieldAt.mono (hY (m - 1) pre ⟨(.mk k a ks, .agg #[.int .i64 k, .int .i64 a, (.slice ad ks.length cap)]), hv⟩ W1 hJ1 (by simp only [allT, List.length_cons] at hN; omega)) fun e W2 h => h.elim (fun ⟨he, hj, hk⟩ => .inl ⟨he, hj, hk hK1.ok, ?_⟩) (fun ⟨he, hx⟩ => .inr ⟨he, _, hx⟩)
    exact (hk hK1.ok).same _ _ _ d2 hnx
  obtain ⟨fn, tmps, assign, body, hy, hR⟩ := hY1
  rw [hW1] at c1
  gi_wp2_with (first
    | ((try refine ⟨hdd _, ?_⟩); refine hR.mono ?_; clear hR; rintro e W2 (⟨rfl, hJ2, hK2, hc2⟩ | ⟨rfl, hx2⟩))
    | (rw [hW1]))
  · gi_loopw [14] (fun u14 wr => ∃ (j : Nat) (q : List (El ⟨wm, fun _ => none⟩ w0)), u14 = .int .i64 j ∧ j ≤ ks.length ∧ q.map (·.1.1) = .mk k a ks :: allK (ks.take j) ∧ J (pre ++ q) wr ∧ Kept n0 bx W1 wr)
      (fun u14 _ => match u14 with | .int _ z => ks.length - z.toNat | _ => 0)
    case atStart => exact ⟨0, [⟨(.mk k a ks, _), hv⟩], rfl, Nat.zero_le _, rfl, hJ2, hK2⟩
    case round =>
      obtain ⟨j, q, rfl, hj, hq, hJq, hKq⟩ := hrel
      by_cases hlt : j < ks.length
      · obtain ⟨b, o, v0, v1, v2, rfl, hvj, ⟨a0, b0⟩, ⟨a1, b1⟩, ⟨a2, b2⟩⟩ := hkid j hlt
        have hSr := (hS.kept hwm hK1).kept hwm hKq
        have f0 : wr.cell? ⟨b, o + j * 3, none⟩ = some v0 := by rw [Nat.mul_comm j 3]; exact (hSr _ _ b0).trans a0
        have f1 : wr.cell? ⟨b, o + j * 3 + 1, none⟩ = some v1 := by rw [Nat.mul_comm j 3]; exact (hSr _ _ b1).trans a1
        have f2 : wr.cell? ⟨b, o + j * 3 + 2, none⟩ = some v2 := by rw [Nat.mul_comm j 3]; exact (hSr _ _ b2).trans a2
        have h1c := RV_ones3 hvj
        have hst := store3 (P := Tryd.prog) wr 25 (.int .i64 0) (.int .i64 0) (.slice none 0 0) v0 v1 v2 h1c.1 h1c.2.1 h1c.2.2
        obtain ⟨W3, hW3⟩ : ∃ W3, wr.alloc (.cells #[v0, v1, v2] 25) = W3 := ⟨_, rfl⟩
        rw [hW3] at hst
        have hK3 : Kept n0 bx wr W3 := by rw [← hW3]; exact Kept.grown hKq.ok (World.grownBy_alloc wr _ none)
        have hK03 : Kept n0 bx W W3 := (hK1.trans hKq).trans hK3
        have hn3 : W3.heap[wr.heap.size]? = some (.cells #[v0, v1, v2] 25 (0, 0)) := by rw [← hW3]; exact World.alloc_heap_new wr _
        have g0 : W3.cell? ⟨wr.heap.size, 0, none⟩ = some v0 := by simp [World.cell?, hn3]
        have g1 : W3.cell? ⟨wr.heap.size, 1, none⟩ = some v1 := by simp [World.cell?, hn3]
        have g2 : W3.cell? ⟨wr.heap.size, 2, none⟩ = some v2 := by simp [World.cell?, hn3]
        have hby3 := hK03.same _ _ _ hby hxy
        have g3 := hK03.same _ _ _ hbw hxw
        have hxy3 : ¬ exb bx W3 by' := fun h => (hK03.ex _ h).elim hxy (fun h => by have := cell_lt hby; omega)
        have hxw3 : ¬ exb bx W3 bw := fun h => (hK03.ex _ h).elim hxw (fun h => by have := cell_lt hbw; omega)
        have hJ3 : J (pre ++ q) W3 := hJ _ wr W3 hJq (by rw [← hW3]; exact World.grownBy_alloc wr _ none)
        have hql : q.length = 1 + (allK (ks.take j)).length := by
          have := congrArg List.length hq
          simp only [List.length_map, List.length_cons] at this
          omega
        have htk : ks.take (j + 1) = ks.take j ++ [ks[j]] := List.take_succ_eq_append_getElem hlt
        have hal := allK_take ks (j + 1)
        rw [htk, allK_app, List.length_append] at hal
        have ihj := ih ks[j] (List.getElem_mem hlt) (m - 1) (.agg #[v0, v1, v2]) (pre ++ q) W3 (hS.kept hwm hK03) hvj hJ3 hK3.ok hby3 hxy3 g3 hxw3 (by
          simp only [allT, List.length_cons] at hN
          rw [List.length_append]; omega)
        gi_wp2_with (first
          | (rw [hst])
          | ((try refine ⟨hdd _, ?_⟩); gi_at_call 36; refine ihj.mono ?_; clear ihj; rintro e W4 (⟨rfl, q4, hq4, hJ4, hK4⟩ | ⟨rfl, q4, hx4⟩)))
        · have hkl := allK_len ks
          simp only [allT, List.length_cons] at hN
          have hw : wrap64 ((j : Int) + 1) = ((j + 1 : Nat) : Int) := by rw [IntWalk.wrap64_in _ ⟨by omega, by omega⟩]; omega
          rw [hw]
          refine ⟨⟨j + 1, q ++ q4, rfl, hlt, ?_, by rw [← List.append_assoc]; exact hJ4, (hKq.trans hK3).trans hK4⟩, ?_⟩
          · rw [List.map_append, hq, hq4, htk, allK_app]; rfl
          · show ks.length - Int.toNat ((j + 1 : Nat) : Int) < ks.length - Int.toNat ((j : Nat) : Int)
            exact meas_lt hlt
        · go_ret
          exact .inr ⟨rfl, q ++ q4, by rw [← List.append_assoc]; exact hx4⟩
      · gi_wp2
        go_ret
        have e2 : ks.take j = ks := List.take_of_length_le (by omega)
        rw [e2] at hq
        exact .inl ⟨rfl, q, by rw [hq]; simp only [allT], hJq, hK1.trans hKq⟩
  · go_ret
    exact .inr ⟨rfl, hx2⟩

theorem walk_all (F : Fence) (hd : F.depth = none) (hF : ∀ f, F.fn f) (hro : F.round = none) (l n0 bx N by' bw : Nat) (wm : Nat → Nat) (w0 : World) (hwm : ∀ b, n0 ≤ b → wm b = 0) (hNb : N ≤ 1000000) (J Jx : List (El ⟨wm, fun _ => none⟩ w0) → World → Prop)
    (hJ : ∀ pre W W', J pre W → W.grownBy W' none → J pre W')
    (hY : ∀ m pre (x : El ⟨wm, fun _ => none⟩ w0) W, J pre W → pre.length < N → YieldAt F m Tryd.prog l #[x.1.2] W fun e W' => (e = .returned (.bool true) ∧ J (pre ++ [x]) W' ∧ KeptIf n0 bx W W') ∨ (e = .returned (.bool false) ∧ Jx (pre ++ [x]) W')) :
    ∀ t : Nd, WalkAt F l n0 bx N by' bw wm w0 J Jx t
  | .mk k a ks => walk36 F hd hF hro l n0 bx N by' bw wm w0 hwm hNb J Jx hJ hY k a ks fun t ht =>
    have : SizeOf.sizeOf t < 1 + SizeOf.sizeOf k + SizeOf.sizeOf a + SizeOf.sizeOf ks := by have := List.sizeOf_lt_of_mem ht; omega
    walk_all F hd hF hro l n0 bx N by' bw wm w0 hwm hNb J Jx hJ hY t

set_option maxRecDepth 100000 in
set_option maxHeartbeats 1000000 in
/-- The iterator. -/
theorem all1_in (F : Fence) (hd : F.depth = none) (hF : ∀ f, F.fn f) (hro : F.round = none) (l n0 bx N Bt : Nat) (wm : Nat → Nat) (w0 : World) (hwm : ∀ b, n0 ≤ b → wm b = 0) (hNb : N ≤ 1000000) (J Jx : List (El ⟨wm, fun _ => none⟩ w0) → World → Prop)
    (hJ : ∀ pre W W', J pre W → W.grownBy W' none → J pre W')
    (hY : ∀ m pre (x : El ⟨wm, fun _ => none⟩ w0) W, J pre W → pre.length < N → YieldAt F m Tryd.prog l #[x.1.2] W fun e W' => (e = .returned (.bool true) ∧ J (pre ++ [x]) W' ∧ KeptIf n0 bx W W') ∨ (e = .returned (.bool false) ∧ Jx (pre ++ [x]) W'))
    (t : Nd) (m : Nat) (v0 v1 v2 : Value) (W : World) (hS : Same ⟨wm, fun _ => none⟩ w0 W) (hv : RV ⟨wm, fun _ => none⟩ w0 (encNd t) (.agg #[v0, v1, v2])) (hJ0 : J [] W) (hB : BoxOk n0 bx W)
    (hbt : W.heap[Bt]? = some (.cells #[v0, v1, v2] 25 (0, 0))) (hN : (allT t).length ≤ N) :
    CallsIn F m Tryd.prog 35 #[.func (.yield l) #[] #[], .pointer (some ⟨Bt, 0, none⟩)] W fun e W' => (∃ v, e = .returned v) ∧ ((∃ q : List (El ⟨wm, fun _ => none⟩ w0), q.map (·.1.1) = allT t ∧ J q W') ∨ (∃ q, True ∧ Jx q W')) := by
  have hdd : ∀ k : Nat, (F.depth.isSome = true → 1 ≤ k) := fun k h => by rw [hd] at h; cases h
  refine callsIn_of_wp Tryd.func35 rfl (hF _) ?_ hro
  simp only [Tryd.ntmps35, List.size_toArray, List.length_cons, List.length_nil, Nat.reduceAdd, Nat.reduceSub, Array.replicate_succ, Array.replicate_zero, List.push_toArray, List.append_toArray, List.nil_append, List.cons_append]
  obtain ⟨Wy, hWy⟩ : ∃ Wy, W.alloc (.cells #[.func (.yield l) #[] #[]] 66) = Wy := ⟨_, rfl⟩
  have hsy : Wy.heap.size = W.heap.size + 1 := by rw [← hWy]; simp
  obtain ⟨W3, hW3⟩ : ∃ W3, Wy.alloc (.cells #[.func (.func 36) #[] #[.pointer (some ⟨W.heap.size, 0, none⟩), .pointer (some ⟨W.heap.size + 1, 0, none⟩)]] 66) = W3 := ⟨_, rfl⟩
  have hst : (store ⟨W.heap.size + 1, 0, none⟩ (.func (.func 36) #[] #[.pointer (some ⟨W.heap.size, 0, none⟩), .pointer (some ⟨W.heap.size + 1, 0, none⟩)])).run Tryd.prog (Wy.alloc (.cells #[.nilFunc] 66)) = .ok () W3 := by
    have := store_last (P := Tryd.prog) Wy 66 #[.nilFunc] 0 (by simp) (.func (.func 36) #[] #[.pointer (some ⟨W.heap.size, 0, none⟩), .pointer (some ⟨W.heap.size + 1, 0, none⟩)]) rfl
    rw [hsy] at this
    rw [this, ← hW3]
    rfl
  have hKy : Kept n0 bx W Wy := by rw [← hWy]; exact Kept.grown hB (World.grownBy_alloc W _ none)
  have hK3 : Kept n0 bx W W3 := hKy.trans (by rw [← hW3]; exact Kept.grown hKy.ok (World.grownBy_alloc Wy _ none))
  have hn1 : W3.heap[W.heap.size]? = some (.cells #[.func (.yield l) #[] #[]] 66 (0, 0)) := by
    rw [← hW3, Below.heap_alloc _ _ _ (by omega), ← hWy]; exact World.alloc_heap_new W _
  have hn2 : W3.heap[W.heap.size + 1]? = some (.cells #[.func (.func 36) #[] #[.pointer (some ⟨W.heap.size, 0, none⟩), .pointer (some ⟨W.heap.size + 1, 0, none⟩)]] 66 (0, 0)) := by
    have := World.alloc_heap_new Wy (.cells #[.func (.func 36) #[] #[.pointer (some ⟨W.heap.size, 0, none⟩), .pointer (some ⟨W.heap.size + 1, 0, none⟩)]] 66 (0, 0))
    rw [hW3, hsy] at this
    exact this
  have hlb : Bt < W.heap.size := (Array.getElem?_eq_some_iff.1 hbt).1
  have hn3 : W3.heap[Bt]? = some (.cells #[v0, v1, v2] 25 (0, 0)) := by
    rw [← hW3, Below.heap_alloc _ _ _ (by omega), ← hWy, Below.heap_alloc _ _ _ hlb]; exact hbt
  have g4 : W3.cell? ⟨W.heap.size, 0, none⟩ = some (.func (.yield l) #[] #[]) := by simp [World.cell?, hn1]
  have g0 : W3.cell? ⟨Bt, 0, none⟩ = some v0 := by simp [World.cell?, hn3]
  have g1 : W3.cell? ⟨Bt, 1, none⟩ = some v1 := by simp [World.cell?, hn3]
  have g2 : W3.cell? ⟨Bt, 2, none⟩ = some v2 := by simp [World.cell?, hn3]
  have g3 : W3.cell? ⟨W.heap.size + 1, 0, none⟩ = some (.func (.func 36) #[] #[.pointer (some ⟨W.heap.size, 0, none⟩), .pointer (some ⟨W.heap.size + 1, 0, none⟩)]) := by simp [World.cell?, hn2]
  have hxn : ∀ b, W.heap.size ≤ b → ¬ exb bx W3 b := fun b hb hx => by
    have hbx : W3.heap[bx]? = W.heap[bx]? := by
      rw [← hW3, Below.heap_alloc _ _ _ (by have := hB.lt; omega), ← hWy, Below.heap_alloc _ _ _ hB.lt]
    have := (hB.2.2 _ ((exb_congr hbx b).1 hx)).2
    omega
  have hJ3 : J [] W3 := hJ _ Wy W3 (hJ _ W Wy hJ0 (by rw [← hWy]; exact World.grownBy_alloc W _ none)) (by rw [← hW3]; exact World.grownBy_alloc Wy _ none)
  have hwk := walk_all F hd hF hro l n0 bx N W.heap.size (W.heap.size + 1) wm w0 hwm hNb J Jx hJ hY t (m - 1) (.agg #[v0, v1, v2]) [] W3 (hS.kept hwm hK3) hv hJ3 hK3.ok g4 (hxn _ (Nat.le_refl _)) g3 (hxn _ (by omega)) (by simpa using hN)
  gi_wp2_with (first
    | (rw [hst])
    | ((try refine ⟨hdd _, ?_⟩); gi_at_call 36; refine hwk.mono ?_; clear hwk; rintro e W4 (⟨rfl, q4, hq4, hJ4, hK4⟩ | ⟨rfl, q4, hx4⟩)))
  · go_end0
    exact ⟨⟨_, rfl⟩, .inl ⟨q4, hq4, by simpa using hJ4⟩⟩
  · go_end0
    exact ⟨⟨_, rfl⟩, .inr ⟨q4, trivial, by simpa using hx4⟩⟩

/-- The iterator's contract. -/
theorem all_stops (F : Fence) (hd : F.depth = none) (hF : ∀ f, F.fn f) (hro : F.round = none) (m n0 bx Bt : Nat) (wm : Nat → Nat) (w0 w : World) (hwm : ∀ b, n0 ≤ b → wm b = 0) (t : Nd) (hNb : (allT t).length ≤ 1000000)
    (v0 v1 v2 : Value) (hS : Same ⟨wm, fun _ => none⟩ w0 w) (hv : RV ⟨wm, fun _ => none⟩ w0 (encNd t) (.agg #[v0, v1, v2])) (hB : BoxOk n0 bx w) (hn0 : n0 ≤ w.heap.size) (hbt : w.heap[Bt]? = some (.cells #[v0, v1, v2] 25 (0, 0))) :
    SeqStopsK F m Tryd.prog 35 #[.pointer (some ⟨Bt, 0, none⟩)] (fun x : El ⟨wm, fun _ => none⟩ w0 => #[x.1.2]) (KeptIf n0 bx) (fun q => q.map (·.1.1) = allT t) (fun _ => True) (allT t).length w := fun l J Jx W hW hJa _ hY h0 => by
  have hS2 : Same ⟨wm, fun _ => none⟩ w0 W := fun b o ho => by
    have hb : b < n0 := by
      rcases Nat.lt_or_ge b n0 with h1 | h1
      · exact h1
      · replace ho : o < wm b := ho
        rw [hwm b h1] at ho; omega
    exact (cell_of_heap (hW.block b (by omega)) o).trans (hS b o ho)
  exact all1_in F hd hF hro l n0 bx (allT t).length Bt wm w0 hwm hNb J Jx (fun pre A B hj hg => hJa pre A B none hj hg (fun r e => by cases e)) (fun m' pre x W' hj hl => by
      obtain ⟨fn, tmps, assign, body, hy, hR⟩ := hY pre x W' hj hl
      exact ⟨fn, tmps, assign, body, hy, hR.1, fun c cs _ => hR.2 c cs (fun d h => by rw [hd] at h; cases h)⟩)
    t m v0 v1 v2 W hS2 hv h0 (hB.grown hW.size (hW.block _ hB.lt)) ((hW.block _ (Array.getElem?_eq_some_iff.1 hbt).1).trans hbt) (Nat.le_refl _)

def lvI (ts : List Nd) : List Int := (ts.filter fun t => t.kind == 0).map Nd.tok
theorem lvI_add (ts : List Nd) (a : Int) (ks : List Nd) : lvI (ts ++ [.mk 0 a ks]) = lvI ts ++ [a] := by simp [lvI, Nd.kind, Nd.tok]
theorem lvI_skip (ts : List Nd) (k a : Int) (ks : List Nd) (h : k ≠ 0) : lvI (ts ++ [.mk k a ks]) = lvI ts := by simp [lvI, Nd.kind, h]
end Go.Proofs.YtegibhjgldpndaaDoor
