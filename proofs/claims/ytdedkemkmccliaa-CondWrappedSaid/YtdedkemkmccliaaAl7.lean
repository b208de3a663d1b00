/-
  AL, part 7: each operation that makes or turns memory is sound. General: no program in sight.
-/
import Derived.Test.YtdedkemkmccliaaAl6
import Derived.Deep.AppendSrc
set_option linter.unusedVariables false
set_option linter.unusedSimpArgs false
namespace Go.Al
open Go.RowKit

section
variable {P : Program} {X : Cx} {g : Gh} {w : World} {a : Act} {o : Oper} {st : S} {K : V → S → Prop} {KP : List PanicEntry → S → Prop}

theorem one_eq (v : Value) : one v = v.oneCell' := by cases v <;> rfl

end
mutual
theorem RC_ones (g : Gh) (w : World) : ∀ (x : V) (us : List Value), RC g w x us → ∀ u ∈ us, u.oneCell' = true
  | .any, us, h => by simp [RC] at h
  | .at v, us, h => by simp only [RC] at h; obtain ⟨rfl, h1⟩ := h; intro u hu; simp at hu; subst hu; rw [← one_eq]; exact h1
  | .agg fs, us, h => by simp only [RC] at h; exact RCs_ones g w fs us h
  | .tup vs, us, h => by simp [RC] at h
  | .lst tg es, us, h => by
    simp only [RC] at h
    rcases h with ⟨_, rfl, _⟩ | ⟨b, o, cap, ds, rfl, _⟩ <;> (intro u hu; simp at hu; subst hu; rfl)
  | .rptr x, us, h => by simp only [RC] at h; obtain ⟨b, o, ds, rfl, _⟩ := h; intro u hu; simp at hu; subst hu; rfl
  | .iface t x, us, h => by simp only [RC] at h; obtain ⟨ds, _, rfl⟩ := h; intro u hu; simp at hu; subst hu; rfl
  | .clo fn caps, us, h => by simp only [RC] at h; obtain ⟨ds, _, rfl⟩ := h; intro u hu; simp at hu; subst hu; rfl
theorem RCs_ones (g : Gh) (w : World) : ∀ (xs : List V) (us : List Value), RCs g w xs us → ∀ u ∈ us, u.oneCell' = true
  | [], us, h => by simp only [RCs] at h; subst h; simp
  | x :: xs, us, h => by
    simp only [RCs] at h
    obtain ⟨u1, u2, rfl, h1, h2⟩ := h
    intro u hu
    rcases List.mem_append.1 hu with hu | hu
    · exact RC_ones g w x u1 h1 u hu
    · exact RCs_ones g w xs u2 h2 u hu
end

section
variable {P : Program} {X : Cx} {g : Gh} {w : World} {a : Act} {o : Oper} {st : S} {K : V → S → Prop} {KP : List PanicEntry → S → Prop}

/-- The cells of a value in a slot, flat. -/
theorem RV_flat {x : V} {u : Value} (h : RV g w x u) (h1 : allOne x.flat) : ∃ us, RCs g w x.flat us ∧ u.cells = us.toArray ∧ us.length = x.flat.length := by
  cases x with
  | any => simp [V.flat, allOne, V.isOne] at h1
  | tup vs => simp [V.flat, allOne, V.isOne] at h1
  | agg fs =>
    obtain ⟨us, h2, rfl⟩ := RV_agg h
    have := RCs_length g w fs us h2
    have h1' : allOne fs := h1
    rw [sizes_one h1'] at this
    exact ⟨us, h2, rfl, this⟩
  | _ =>
    obtain ⟨us, h2, h3⟩ := h
    obtain ⟨v, rfl⟩ := RC_single h2 rfl
    refine ⟨[v], ?_, ?_, rfl⟩
    · simp only [V.flat, RCs]; exact ⟨[v], [], rfl, h2, rfl⟩
    · have hv := RC_ones g w _ _ h2 v (by simp)
      have : u = v := h3
      subst this
      cases u <;> simp [Value.oneCell'] at hv <;> rfl

theorem aLoad_spec {t : TypeId} {x : V} {K : V → Prop} (h : aLoad P st t x K) (hi : Inv X.B g st w) {ux : Value} (hx : RV g w x ux) : ∃ v u, K v ∧ RV g w v u ∧ (Instr.loadAt t ux).run P w = .ok u w := by
  unfold aLoad at h
  split at h
  · obtain ⟨b, o, ds, rfl, h1, h2⟩ := RV_rptr hx
    refine ⟨_, _, h.2, RV_of_RC (RC_named g w _ _ h1), ?_⟩
    simp only [Instr.loadAt, Instr.sureAddr, Sem.run_bind, Sem.run_pure, Result.andThen_ok]
    exact run_loadVar' h.1 h1 fun k u hk => (h2 k u hk).1
  · rename_i b o
    have e1 := RV_at hx; subst e1
    split at h
    · rename_i cs k hl
      obtain ⟨p1, p2, p3, p4, arr, el, us, p5, p6, p7, p8⟩ := hi.box b cs k hl
      have hone : allOne cs := by unfold allOne; rw [List.all_eq_true]; exact p4
      obtain ⟨q1, q2, q3⟩ := part_RC hone h.1 p7
      refine ⟨_, _, h.2, RV_of_RC q1, ?_⟩
      simp only [Instr.loadAt, Instr.sureAddr, Sem.run_bind, Sem.run_pure, Result.andThen_ok]
      refine run_loadVar' ⟨h.1.1, q3, q2⟩ q1 fun j u hj => ?_
      rw [List.getElem?_take] at hj
      split at hj
      · rw [List.getElem?_drop, ← p8, List.getElem?_take] at hj
        split at hj
        · rw [cell_of_row w b _ arr el (0, 0) p5]; simpa using hj
        · cases hj
      · cases hj
    · cases h
  · cases h

theorem allOne_mem {fs : List V} (h : allOne fs) : ∀ c ∈ fs, c.isOne = true := List.all_eq_true.1 h

theorem aStore_spec {t : TypeId} {x y : V} {K : S → Prop} (h : aStore P st t x y K) (hi : Inv X.B g st w) {ux uy : Value} (hx : RV g w x ux) (hy : RV g w y uy) :
    ∃ st' w', K st' ∧ Out X.B g w g st' w' ∧ (Instr.storeAt t ux uy).run P w = .ok () w' := by
  unfold aStore at h
  split at h
  · rename_i b o
    have e1 := RV_at hx; subst e1
    split at h
    · rename_i cs k hl
      obtain ⟨h1, h2, h3, h4, h5⟩ := h
      obtain ⟨p1, p2, p3, p4, arr, el, us, p5, p6, p7, p8⟩ := hi.box b cs k hl
      have hone : allOne cs := by unfold allOne; rw [List.all_eq_true]; exact p4
      have hl' := RCs_length g w cs us p7
      rw [sizes_one hone] at hl'
      obtain ⟨vs, q1, q2, q3⟩ := RV_flat hy h3
      have hst := run_storeCells_at (P := P) b o el vs 0 arr w p5 (by omega) (RCs_ones g w _ _ q1)
      simp only [Nat.add_zero] at hst
      have hrow : (us.take o ++ vs ++ us.drop (o + vs.length)) = ((arr.toList.take o ++ vs ++ arr.toList.drop (o + vs.length))).take (spl cs o y.flat).length := by
        have e3 : (spl cs o y.flat).length = cs.length := by simp [spl]; omega
        rw [e3, ← p8]
        apply List.ext_getElem?
        intro j
        simp only [List.getElem?_append, List.getElem?_take, List.getElem?_drop, List.length_append, List.length_take, Array.length_toList]
        have m1 : min o (min cs.length arr.size) = o := by omega
        have m2 : min o arr.size = o := by omega
        rw [m1, m2]
        by_cases j1 : j < o
        · simp [j1, show j < o + vs.length by omega, show j < cs.length by omega]
        · by_cases j2 : j < o + vs.length
          · simp [j1, j2, show j < cs.length by omega]
          · by_cases j3 : j < cs.length
            · simp [j1, j2, j3, show o + vs.length + (j - (o + vs.length)) < cs.length by omega]
            · simp [j1, j2, j3, show ¬ (o + vs.length + (j - (o + vs.length)) < cs.length) by omega]
      refine ⟨_, w.setRow b (arr.toList.take o ++ vs ++ arr.toList.drop (o + vs.length)).toArray, h5, ?_, ?_⟩
      · refine out_setRow hi hl p5 _ (by simp; omega) _ (us.take o ++ vs ++ us.drop (o + vs.length)) (by simp [spl]; omega) ?_ ?_ (by simpa using hrow.symm)
        · intro c hc
          simp only [spl, List.mem_append] at hc
          rcases hc with (hc | hc) | hc
          · exact p4 c (List.mem_of_mem_take hc)
          · exact allOne_mem h3 c hc
          · exact p4 c (List.mem_of_mem_drop hc)
        · unfold spl
          rw [← q3]
          exact RCs_append (RCs_append (RCs_take_drop hone p7 o).1 q1) (RCs_take_drop hone p7 _).2
      · have hcs : uy.cells.size = P.cellsOf t := by rw [q2]; simpa using q3.trans h2
        have hcl : uy.cells.toList = vs := by rw [q2]
        simp only [Instr.storeAt, Instr.sureAddr, storeVar, Sem.run_bind, Sem.run_pure, Result.andThen_ok, run_sizeOf' h1, hcs, ne_eq, not_true_eq_false, if_false, hcl]
        exact hst
    · cases h
  · cases h

/-- A new box. -/
theorem aNew_spec {cs : List V} (h : aNew st cs K) (hi : Inv X.B g st w) {us : List Value} (hr : RCs g w cs us) (el : TypeId) :
    ∃ v u g' st', K v st' ∧ Out X.B g w g' st' (w.alloc (.cells us.toArray el)) ∧ RV g' (w.alloc (.cells us.toArray el)) v u ∧ u = .pointer (some ⟨w.heap.size, 0, none⟩) := by
  obtain ⟨h1, h2⟩ := h
  have hl := RCs_length g w cs us hr
  rw [sizes_one h1] at hl
  have hfree : look st.box w.heap.size = none := by
    cases hq : look st.box w.heap.size with
    | none => rfl
    | some p =>
      obtain ⟨c, k⟩ := p
      obtain ⟨_, _, _, _, arr, el, us, p5, _⟩ := hi.box _ c k hq
      have := (Array.getElem?_eq_some_iff.1 p5).1
      omega
  have ho := out_alloc hi us.toArray el 0
  refine ⟨_, _, _, _, h2 _ hfree, ⟨ho.step, ?_⟩, RV_at_mk rfl, rfl⟩
  have := ho.inv.addBox (b := w.heap.size) (arr := us.toArray) (el := el) (cs := cs) (us := us) hi.base (if_pos rfl) (alloc_new w _) (by simp; omega) (allOne_mem h1) (RCs_later ho.step.later _ _ hr)
    (by simp only [← hl]; exact List.take_length) (fun t ht d hd => by
      obtain ⟨x1, x2, x3⟩ := d
      obtain ⟨_, _, _, _, _, arr, el, p5, _⟩ := hi.own t ht _ x1 x2 x3 hd
      have := (Array.getElem?_eq_some_iff.1 p5).1
      omega)
  simpa [hl] using this

theorem zeroC_spec {t : TypeId} {cs : List V} (h : zeroC P t = some cs) : ∃ z, zeroOf P t = some z ∧ RCs g w cs z.cells.toList ∧ cs.length = z.cells.size := by
  unfold zeroC at h
  cases hz : zeroOf P t with
  | none => simp [hz] at h
  | some z =>
    simp only [hz, Option.bind_some] at h
    split at h
    · rename_i ho
      injection h with h
      subst h
      exact ⟨z, rfl, RCs_cV1 g w _ ho, by simp⟩
    · cases h

theorem zeroOf_info {t : TypeId} {z : Value} (h : zeroOf P t = some z) : ∃ i, P.info? t = some i ∧ i.zero = some z := by
  unfold zeroOf at h
  cases hi : P.info? t with
  | none => simp [hi] at h
  | some i => simp [hi] at h; exact ⟨i, rfl, h⟩

theorem aAlloc_spec {t : TypeId} (h : aAlloc P st t K) (hi : Inv X.B g st w) (old : Value) :
    ∃ v u g' st' w', K v st' ∧ Out X.B g w g' st' w' ∧ RV g' w' v u ∧ (Instr.alloc t true old).run P w = .ok u w' := by
  unfold aAlloc at h
  split at h
  · rename_i cs hz
    obtain ⟨z, hz', hr, _⟩ := zeroC_spec (g := g) (w := w) hz
    obtain ⟨i, hi1, hi2⟩ := zeroOf_info hz'
    obtain ⟨v, u, g', st', q1, q2, q3, q4⟩ := aNew_spec (X := X) h hi hr t
    refine ⟨v, u, g', st', _, q1, q2, q3, ?_⟩
    subst q4
    simp [Instr.alloc, zeroValue, typeInfo, hi1, hi2, newVar, newRow]
  · cases h

theorem aBox_spec {t : TypeId} {x : V} (h : aNew st x.flat K) (hi : Inv X.B g st w) {ux : Value} (hx : RV g w x ux) :
    ∃ v u g' st' w', K v st' ∧ Out X.B g w g' st' w' ∧ RV g' w' v u ∧ (Instr.box t ux).run P w = .ok u w' := by
  obtain ⟨us, h1, h2, h3⟩ := RV_flat hx h.1
  obtain ⟨v, u, g', st', q1, q2, q3, q4⟩ := aNew_spec (X := X) h hi h1 t
  refine ⟨v, u, g', st', _, q1, q2, q3, ?_⟩
  subst q4
  simp [Instr.box, newVar, newRow, h2]

theorem zipIdx_foldl_set (vs : List Value) : ∀ (off : Nat) (k : Nat) (cells : Array Value), off + k + vs.length ≤ cells.size →
    ((vs.zipIdx k).foldl (fun cs (c, j) => cs.setIfInBounds (off + j) c) cells).toList = cells.toList.take (off + k) ++ vs ++ cells.toList.drop (off + k + vs.length) := by
  induction vs with
  | nil => intro off k cells h; simp
  | cons v vs ih =>
    intro off k cells h
    simp only [List.zipIdx_cons, List.foldl_cons, List.length_cons] at h ⊢
    rw [ih off (k + 1) _ (by simp; omega)]
    apply List.ext_getElem?
    intro j
    simp only [Array.toList_setIfInBounds, List.getElem?_append, List.length_append, List.length_take, List.getElem?_take, List.getElem?_drop, List.getElem?_set, Array.length_toList, List.length_set, List.length_cons]
    have m1 : min (off + (k + 1)) cells.size = off + (k + 1) := by omega
    have m2 : min (off + k) cells.size = off + k := by omega
    rw [m1, m2]
    by_cases j1 : j < off + k
    · simp [j1, show j < off + (k + 1) by omega, show j < off + (k + 1) + vs.length by omega, show off + k ≠ j by omega, show j < off + k + (vs.length + 1) by omega]
    · by_cases j2 : j = off + k
      · subst j2
        simp [show off + k < off + (k + 1) by omega, show off + k < off + (k + 1) + vs.length by omega, show off + k < cells.size by omega]
      · by_cases j3 : j < off + (k + 1) + vs.length
        · have e : j - (off + k) = (j - (off + (k + 1))) + 1 := by omega
          simp [j1, j3, show ¬ j < off + (k + 1) by omega, e, show j < off + k + (vs.length + 1) by omega]
        · simp [j1, j3, show ¬ j < off + (k + 1) by omega, show ¬ j < off + k + (vs.length + 1) by omega, show off + k ≠ off + (k + 1) + vs.length + (j - (off + (k + 1) + vs.length)) by omega]
          congr 1
          omega

inductive Parts (g : Gh) (w : World) : List (Nat × V) → List (Nat × Value) → Prop where
  | nil : Parts g w [] []
  | cons {i x u ps qs} (h : RV g w x u) (hs : Parts g w ps qs) : Parts g w ((i, x) :: ps) ((i, u) :: qs)

theorem fillV_spec {place : Nat → Option (Nat × Nat)} : ∀ {ps : List (Nat × V)} {qs : List (Nat × Value)} (_ : Parts g w ps qs) {cells : List V} {us : List Value} {cs' : List V} (_ : allOne cells) (_ : RCs g w cells us)
    (_ : fillV place cells ps = some cs'), ∃ us', Instr.fill place us.toArray qs = some us'.toArray ∧ RCs g w cs' us' ∧ allOne cs' := by
  intro ps qs hp
  induction hp with
  | nil =>
    intro cells us cs' h1 h2 h3
    simp only [fillV] at h3
    injection h3 with h3
    subst h3
    exact ⟨us, rfl, h2, h1⟩
  | @cons i x u ps qs h hs ih =>
    intro cells us cs' h1 h2 h3
    simp only [fillV] at h3
    cases hpl : place i with
    | none => rw [hpl] at h3; cases h3
    | some p =>
      obtain ⟨off, size⟩ := p
      simp only [hpl] at h3
      split at h3
      · rename_i hc
        obtain ⟨c1, c2, c3⟩ := hc
        obtain ⟨vs, q1, q2, q3⟩ := RV_flat h c3
        have hl := RCs_length g w cells us h2
        rw [sizes_one h1] at hl
        have hone : allOne (spl cells off x.flat) := by
          unfold allOne spl
          rw [List.all_eq_true]
          intro c hc
          simp only [List.mem_append] at hc
          rcases hc with (hc | hc) | hc
          · exact allOne_mem h1 c (List.mem_of_mem_take hc)
          · exact allOne_mem c3 c hc
          · exact allOne_mem h1 c (List.mem_of_mem_drop hc)
        have hr : RCs g w (spl cells off x.flat) (us.take off ++ vs ++ us.drop (off + vs.length)) := by
          unfold spl
          rw [← q3]
          exact RCs_append (RCs_append (RCs_take_drop h1 h2 off).1 q1) (RCs_take_drop h1 h2 _).2
        obtain ⟨us', r1, r2, r3⟩ := ih hone hr h3
        refine ⟨us', ?_, r2, r3⟩
        simp only [Instr.fill, hpl, q2]
        have hb : (decide (vs.toArray.size ≠ size) || decide (off + vs.toArray.size > us.toArray.size)) = false := by simp; omega
        have hz := zipIdx_foldl_set vs off 0 us.toArray (by simp; omega)
        simp only [Nat.add_zero] at hz
        simp only [hb, Bool.false_eq_true, if_false]
        rw [← r1]
        congr 1
        apply Array.ext'
        rw [← hz]
        simp
      · cases h3

end
end Go.Al
