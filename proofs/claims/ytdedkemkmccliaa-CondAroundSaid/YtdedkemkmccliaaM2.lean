/-
  The stack's contracts by what the store holds.
-/
import Derived.Test.YtdedkemkmccliaaM
set_option linter.unusedVariables false
set_option linter.unusedSimpArgs false
namespace Go.Proofs.Ytdedkemkmccliaa
open Go.Al

theorem opCells_at (r : List O) (c0 c1 c2 c3 : V) (junk : List V) : 
    (opCells r ++ [c0, c1, c2, c3] ++ junk).getD (r.length * 4) .any = c0 ∧ (opCells r ++ [c0, c1, c2, c3] ++ junk).getD (r.length * 4 + 1) .any = c1 ∧ (opCells r ++ [c0, c1, c2, c3] ++ junk).getD (r.length * 4 + 2) .any = c2 ∧ (opCells r ++ [c0, c1, c2, c3] ++ junk).getD (r.length * 4 + 3) .any = c3 := by
  have hl := opCells_length r
  have key : ∀ j, (opCells r ++ [c0, c1, c2, c3] ++ junk).getD (r.length * 4 + j) .any = ([c0, c1, c2, c3] ++ junk).getD j .any := fun j => by
    rw [List.append_assoc, List.getD_eq_getElem?_getD, List.getElem?_append_right (by omega), hl, Nat.add_sub_cancel_left, List.getD_eq_getElem?_getD]
  exact ⟨key 0, key 1, key 2, key 3⟩

theorem push_ok {b5 : Nat} {ops : List O} {bx : List (Nat × List V × Nat)} (h : StOk b5 ops bx) (o : O) (hb : Go.Al.look bx o.bb = none) (hc : o.brs.length + 1 ≤ o.cap) (hl : ops.length ≤ 1000000) (tg : List Nat) (nx : Nat) :
    FnC Try.prog 19 [.at (.pointer (some ⟨b5, 0, none⟩)), .agg o.cells] ⟨lay bx o.bb (o.brCells, o.cap * 2), tg, nx⟩ fun oc s => oc = .ret (.tup []) ∧ ∃ bx', s = ⟨bx', tg, nx⟩ ∧ StOk b5 (o :: ops) bx' := by
  have hb5 : ¬ o.bb = b5 := fun e => by obtain ⟨c, hc5⟩ := h.look5; rw [e, hc5] at hb; cases hb
  have hbo : ∀ o' ∈ ops, ¬ o.bb = o'.bb := fun o' ho e => by rw [e, (h.br o' ho).1] at hb; cases hb
  have hnd : ((o :: ops).map O.bb).Nodup := by
    rw [List.map_cons, List.nodup_cons]
    refine ⟨fun hm => ?_, h.dist⟩
    obtain ⟨o', ho', e⟩ := List.mem_map.1 hm
    exact hbo o' ho' e.symm
  rcases h.stk with ⟨rfl, h5⟩ | ⟨bA, capA, junk, h5, hA, hcap, hne, hnA⟩
  · refine fnC_mono (push_nil (lay bx o.bb (o.brCells, o.cap * 2)) tg nx b5 _ _ _ _ _ (by rw [look_lay, if_neg hb5]; exact h5)) ?_
    rintro oc s ⟨h1, b', cap', p1, p2, p3, rfl⟩
    refine ⟨h1, _, rfl, ?_, ?_, hnd⟩
    · rw [look_lay] at p2
      refine .inr ⟨b', cap', [], by rw [look_lay, if_pos rfl]; rfl, ?_, p3, p1, fun o' ho' e => ?_⟩
      · rw [look_lay, if_neg p1, look_lay, if_pos rfl]
        simp [opCells, O.cells, vi]
      · simp only [List.mem_singleton] at ho'
        subst ho'
        rw [if_pos e] at p2; cases p2
    · intro o' ho'
      simp only [List.mem_singleton] at ho'
      subst ho'
      have hb' : ¬ b' = o'.bb := fun e => by rw [look_lay, if_pos e.symm] at p2; cases p2
      exact ⟨by rw [look_lay, if_neg (fun e => hb5 e.symm), look_lay, if_neg hb', look_lay, if_pos rfl], hc, hb5⟩
  · have hbA : ¬ o.bb = bA := fun e => by rw [e, hA] at hb; cases hb
    refine fnC_mono (push_box (lay bx o.bb (o.brCells, o.cap * 2)) tg nx b5 bA ops.length capA _ _ _ _ _ _ (by rw [look_lay, if_neg hb5]; exact h5) (by rw [look_lay, if_neg hbA]; exact hA) hne hcap (by simp [opCells_length]) hl) ?_
    rintro oc s ⟨h1, b', cap', p1, p2, p3, rfl⟩
    have hbb' : ¬ b' = o.bb := fun e => by
      rcases p2 with p2 | p2
      · exact hbA (e.symm.trans p2)
      · rw [look_lay, if_pos e.symm] at p2; cases p2
    have hob' : ∀ o' ∈ ops, ¬ b' = o'.bb := fun o' ho e => by
      rcases p2 with p2 | p2
      · exact hnA o' ho (e.symm.trans p2)
      · rw [look_lay, e, if_neg (hbo o' ho), (h.br o' ho).1] at p2; cases p2
    refine ⟨h1, _, rfl, ?_, ?_, hnd⟩
    · refine .inr ⟨b', cap', [], by rw [look_lay, if_pos rfl]; rfl, ?_, p3, p1, fun o' ho' e => ?_⟩
      · rw [look_lay, if_neg p1, look_lay, if_pos rfl]
        have hl := opCells_length ops
        rw [List.append_nil, List.take_append_of_le_length (by omega), List.take_of_length_le (by omega)]
        rfl
      · rcases List.mem_cons.1 ho' with rfl | ho'
        · exact hbb' e.symm
        · exact hob' o' ho' e.symm
    · intro o' ho'
      rcases List.mem_cons.1 ho' with rfl | ho'
      · exact ⟨by rw [look_lay, if_neg (fun e => hb5 e.symm), look_lay, if_neg hbb', look_wipe, if_neg (fun e => hbA e.symm), look_lay, if_pos rfl], hc, hb5⟩
      · have q := h.br o' ho'
        exact ⟨by rw [look_lay, if_neg (fun e => q.2.2 e.symm), look_lay, if_neg (hob' o' ho'), look_wipe, if_neg (fun e => hnA o' ho' e.symm), look_lay, if_neg (hbo o' ho')]; exact q.1, q.2⟩

/-- Where the top lies. -/
structure TopAt (b5 : Nat) (o : O) (r : List O) (bx : List (Nat × List V × Nat)) (bA capA : Nat) (junk : List V) : Prop where
  h5 : Go.Al.look bx b5 = some ([.at (.slice (some ⟨bA, 0, none⟩) (r.length + 1) capA)], 1)
  hA : Go.Al.look bx bA = some (opCells r ++ o.cells ++ junk, capA * 4)
  cap : r.length + 1 ≤ capA
  ne : ¬ b5 = bA
  nA : ∀ o' ∈ o :: r, ¬ o'.bb = bA

theorem StOk.top {b5 : Nat} {o : O} {r : List O} {bx : List (Nat × List V × Nat)} (h : StOk b5 (o :: r) bx) : ∃ bA capA junk, TopAt b5 o r bx bA capA junk := by
  rcases h.stk with ⟨h1, _⟩ | ⟨bA, capA, junk, h1, h2, h3, h4, h5⟩
  · cases h1
  · exact ⟨bA, capA, junk, h1, by rw [h2]; rfl, h3, h4, h5⟩

theorem top_ok {b5 : Nat} {o : O} {r : List O} {bx : List (Nat × List V × Nat)} {bA capA : Nat} {junk : List V} (h : TopAt b5 o r bx bA capA junk) (hl : r.length ≤ 1000000) (tg : List Nat) (nx : Nat) :
    FnC Try.prog 20 [.at (.pointer (some ⟨b5, 0, none⟩))] ⟨bx, tg, nx⟩ fun oc s => oc = .ret (.at (.pointer (some ⟨bA, r.length * 4, none⟩))) ∧ s = ⟨bx, tg, nx⟩ :=
  top_box bx tg nx b5 bA r.length capA h.h5 hl

theorem pop_ok {b5 : Nat} {o : O} {r : List O} {bx : List (Nat × List V × Nat)} (h : StOk b5 (o :: r) bx) (hl : r.length ≤ 1000000) (tg : List Nat) (nx : Nat) :
    FnC Try.prog 22 [.at (.pointer (some ⟨b5, 0, none⟩))] ⟨bx, tg, nx⟩ fun oc s => oc = .ret (.agg o.cells) ∧ ∃ bx', s = ⟨bx', tg, nx⟩ ∧ StOk b5 r bx' ∧ Go.Al.look bx' o.bb = some (o.brCells, o.cap * 2) ∧ (∀ o' ∈ r, ¬ o.bb = o'.bb) ∧ ¬ o.bb = b5 ∧ ∀ bA capA, Go.Al.look bx' b5 = some ([.at (.slice (some ⟨bA, 0, none⟩) r.length capA)], 1) → ¬ o.bb = bA := by
  obtain ⟨bA, capA, junk, t⟩ := h.top
  have hol := opCells_length r
  have hob := h.br o (by simp)
  refine fnC_mono (pop_box bx tg nx b5 bA r.length capA (opCells r ++ o.cells ++ junk) (capA * 4) _ _ _ _ _ t.h5 t.hA (by
    rw [List.append_assoc, List.drop_append_of_le_length (by omega), List.drop_of_length_le (by omega), List.nil_append, List.take_append_of_le_length (by simp [O.cells])]
    rfl) (by simp [O.cells, hol]) t.cap hl t.ne) ?_
  rintro oc s ⟨h1, rfl⟩
  have hnd := h.dist
  rw [List.map_cons, List.nodup_cons] at hnd
  refine ⟨h1, _, rfl, ⟨.inr ⟨bA, capA, o.cells ++ junk, by rw [look_lay, if_pos rfl], by rw [look_lay, if_neg t.ne, t.hA, List.append_assoc], by have := t.cap; omega, t.ne, fun o' ho' => t.nA o' (by simp [ho'])⟩,
    fun o' ho' => ?_, hnd.2⟩, by rw [look_lay, if_neg (fun e => hob.2.2 e.symm)]; exact hob.1, fun o' ho' e => hnd.1 (List.mem_map.2 ⟨o', ho', e.symm⟩), hob.2.2, ?_⟩
  · have q := h.br o' (by simp [ho'])
    exact ⟨by rw [look_lay, if_neg (fun e => q.2.2 e.symm)]; exact q.1, q.2⟩
  · intro bA' capA' e
    rw [look_lay, if_pos rfl] at e
    simp only [Option.some.injEq, Prod.mk.injEq, List.cons.injEq, V.at.injEq, Value.slice.injEq, Addr.mk.injEq] at e
    rw [← e.1.1.1.1]
    exact t.nA o (by simp)

/-- The items of the last branch, in the branch's cells. -/
def O.brCellsE (o : O) (x : V) : List V := flats (o.brs.map encBr) ++ [vi o.cur, x]

theorem spl_br (o : O) (x : V) : spl o.brCells (o.brs.length * 2 + 1) [x] = o.brCellsE x := by
  have hl := flats_brs o.brs
  unfold spl O.brCells O.brCellsE
  rw [List.take_append, List.take_of_length_le (by omega), List.drop_append, List.drop_of_length_le (by simp; omega), hl]
  have : o.brs.length * 2 + 1 - o.brs.length * 2 = 1 := by omega
  rw [this]
  simp
  omega

theorem ends_ok {b5 : Nat} {o : O} {r : List O} {bx : List (Nat × List V × Nat)} (h : StOk b5 (o :: r) bx) {bA capA : Nat} {junk : List V} (t : TopAt b5 o r bx bA capA junk) (hl : o.brs.length ≤ 1000000) (tgi : Tag) (its : List V) (tg : List Nat) (nx : Nat) :
    FnC Try.prog 21 [.at (.pointer (some ⟨bA, r.length * 4, none⟩)), .lst tgi its] ⟨bx, tg, nx⟩ fun oc s => oc = .ret (.tup []) ∧ s = ⟨lay bx o.bb (o.brCellsE (.lst tgi its), o.cap * 2), tg, nx⟩ := by
  have hob := h.br o (by simp)
  have e := ends_box bx tg nx bA (r.length * 4) o.bb o.brs.length o.cap _ o.brCells (capA * 4) (o.cap * 2) tgi its t.hA (opCells_at r _ _ _ _ junk).2.1 (by simp [O.cells, opCells_length]) hob.1 (by rw [brCells_length]; omega) hl
  rw [spl_br] at e
  exact e

/-- One step of the machine, whatever the store has. -/
theorem runP_go {i : Nat} {k : Int} {ks : List Int} {ops ops' ops2 : List O} {its its' : List It} {R : List It × Int × Int} (h : runP i (k :: ks) ops its = R) (hs : stepP k i ops its = some (ops', its')) (hb : ops'.map O.bare = ops2.map O.bare) :
    runP ((i + 1 : Nat) : Int) ks ops2 its' = R := by
  rw [← h]
  show _ = (match stepP k i ops its with | none => ([], (i : Int), 50) | some (ops', its') => runP ((i : Int) + 1) ks ops' its')
  rw [hs]
  show _ = runP ((i : Int) + 1) ks ops' its'
  rw [← runP_bare ks _ ops' its', hb, runP_bare]
  rfl
theorem runP_err {i : Int} {k : Int} {ks : List Int} {ops : List O} {its : List It} {R : List It × Int × Int} (h : runP i (k :: ks) ops its = R) (hs : stepP k i ops its = none) : R = ([], i, 50) := by
  rw [← h]
  show (match stepP k i ops its with | none => ([], (i : Int), 50) | some (ops', its') => runP ((i : Int) + 1) ks ops' its') = _
  rw [hs]

theorem TgOk.push {ti nx : Nat} {ops : List O} {tg : List Nat} {o : O} (h : TgOk ti ops tg nx) (ho : o.t = ti := by rfl) : TgOk nx (o :: ops) (nx :: tg) (nx + 1) := by
  subst ho
  refine ⟨?_, fun t ht => ?_⟩
  · rw [List.nodup_cons]
    refine ⟨fun hm => ?_, h.nodup⟩
    have := (h.mem nx hm).2
    omega
  · rcases List.mem_cons.1 ht with rfl | ht
    · exact ⟨by simp, by omega⟩
    · have := h.mem t ht
      exact ⟨List.mem_cons_of_mem _ this.1, by omega⟩

theorem SzOk.push {n : Nat} {ops : List O} {its : List It} {o : O} (h : SzOk n ops its) (h1 : o.brs.length = 0) (h2 : o.ah.length = its.length) : SzOk (n + 1) (o :: ops) [] := by
  have := h.nops
  have := h.nits
  refine ⟨by simp; omega, Nat.zero_le _, fun o' ho => ?_⟩
  rcases List.mem_cons.1 ho with rfl | ho
  · omega
  · have := h.each o' ho; omega

theorem TgOk.app {ti nx : Nat} {ops : List O} {tg : List Nat} (h : TgOk ti ops tg nx) : TgOk nx ops (nx :: tg.erase ti) (nx + 1) := by
  have hn := h.nodup
  rw [List.nodup_cons] at hn
  refine ⟨?_, fun t ht => ?_⟩
  · rw [List.nodup_cons]
    refine ⟨fun hm => ?_, hn.2⟩
    have := (h.mem nx (by simp only [List.mem_cons]; exact .inr hm)).2
    omega
  · rcases List.mem_cons.1 ht with rfl | ht
    · exact ⟨by simp, by omega⟩
    · have := h.mem t (by simp only [List.mem_cons]; exact .inr ht)
      have hne : t ≠ ti := fun e => hn.1 (e ▸ ht)
      exact ⟨List.mem_cons_of_mem _ ((List.mem_erase_of_ne hne).2 this.1), by omega⟩

theorem SzOk.app {n : Nat} {ops : List O} {its : List It} (x : It) (h : SzOk n ops its) : SzOk (n + 1) ops (its ++ [x]) := by
  have := h.nops
  have := h.nits
  refine ⟨by omega, by simp; omega, fun o' ho => ?_⟩
  have := h.each o' ho; omega

theorem StOk.empty {b5 : Nat} {bx : List (Nat × List V × Nat)} (h : StOk b5 [] bx) : Go.Al.look bx b5 = some ([.lst .nil []], 1) ∨ ∃ bA cap, Go.Al.look bx b5 = some ([.at (.slice (some ⟨bA, 0, none⟩) 0 cap)], 1) := by
  rcases h.stk with ⟨_, h⟩ | ⟨bA, cap, junk, h, _⟩
  · exact .inl h
  · exact .inr ⟨bA, cap, h⟩

theorem TgOk.pop {ti nx : Nat} {o : O} {r : List O} {tg : List Nat} (h : TgOk ti (o :: r) tg nx) : TgOk nx r (nx :: tg.erase o.t) (nx + 1) := by
  have hn := h.nodup
  simp only [List.map_cons, List.nodup_cons] at hn
  refine ⟨?_, fun t ht => ?_⟩
  · rw [List.nodup_cons]
    refine ⟨fun hm => ?_, hn.2.2⟩
    have := (h.mem nx (by simp only [List.map_cons, List.mem_cons]; exact .inr (.inr hm))).2
    omega
  · rcases List.mem_cons.1 ht with rfl | ht
    · exact ⟨by simp, by omega⟩
    · have := h.mem t (by simp only [List.map_cons, List.mem_cons]; exact .inr (.inr ht))
      have hne : t ≠ o.t := fun e => hn.2.1 (e ▸ ht)
      exact ⟨List.mem_cons_of_mem _ ((List.mem_erase_of_ne hne).2 this.1), by omega⟩

theorem SzOk.pop {n : Nat} {o : O} {r : List O} {its : List It} (x : It) (h : SzOk n (o :: r) its) : SzOk (n + 1) r (o.ah ++ [x]) := by
  have h1 := h.nops
  have h2 := (h.each o (by simp)).2
  simp only [List.length_cons] at h1
  refine ⟨by omega, by simp; omega, fun o' ho => ?_⟩
  have := h.each o' (by simp [ho]); omega

theorem StOk.keep {b5 : Nat} {r : List O} {bx bx' : List (Nat × List V × Nat)} (h : StOk b5 r bx) (x : Nat) (h5 : ¬ x = b5) (hr : ∀ o' ∈ r, ¬ x = o'.bb) (hA : ∀ bA capA, Go.Al.look bx b5 = some ([.at (.slice (some ⟨bA, 0, none⟩) r.length capA)], 1) → ¬ x = bA)
    (hm : ∀ b c, ¬ x = b → Go.Al.look bx b = some c → Go.Al.look bx' b = some c) : StOk b5 r bx' := by
  refine ⟨?_, fun o ho => ⟨hm _ _ (hr o ho) (h.br o ho).1, (h.br o ho).2⟩, h.dist⟩
  rcases h.stk with ⟨h1, h2⟩ | ⟨bA, capA, junk, h1, h2, h3⟩
  · exact .inl ⟨h1, hm _ _ h5 h2⟩
  · exact .inr ⟨bA, capA, junk, hm _ _ h5 h1, hm _ _ (hA _ _ h1) h2, h3⟩

theorem flats_append (xs ys : List V) : flats (xs ++ ys) = flats xs ++ flats ys := by
  induction xs with
  | nil => rfl
  | cons x r ih => simp [flats, ih]

/-- The branches, the last with its items. -/
theorem brCellsE_flats (o : O) (its : List It) : o.brCellsE (.lst (tagOf (its.map encIt)) (its.map encIt)) = flats ((o.brs ++ [Br.mk o.cur its]).map encBr) := by
  rw [List.map_append, flats_append]
  simp [O.brCellsE, flats, encBr_mk, V.flat, sl]

theorem untag_encBr (b : Br) : (encBr b).untag = encBr b := by
  cases b with | mk l is => rw [encBr_mk]; simp only [V.untag, List.map_cons, List.map_nil, vi, sl, untag1_at, untag1_tagOf]
theorem size_encBr (b : Br) : (encBr b).size = 2 := by
  cases b with | mk l is => rw [encBr_mk]; simp [V.size, sizes, vi, sl]
theorem one_encBr (b : Br) : allOne (encBr b).flat := by
  cases b with | mk l is => rw [encBr_mk]; simp [V.flat, allOne, V.isOne, vi, sl]

theorem sl_no {es : List V} (h : es ≠ []) : sl es = .lst .no es := by
  cases es with
  | nil => exact absurd rfl h
  | cons x r => rfl
theorem encIts_snoc (its : List It) (x : It) : (its ++ [x]).map encIt = its.map encIt ++ [encIt x] := by rw [List.map_append]; rfl

theorem brCellsE_length (o : O) (x : V) : (o.brCellsE x).length = o.brs.length * 2 + 2 := by simp [O.brCellsE, flats_brs]
theorem spl_length {cs xs : List V} {o : Nat} (h : o + xs.length ≤ cs.length) : (spl cs o xs).length = cs.length := by
  unfold spl; simp; omega

theorem spl_two (Pf : List V) (c0 c1 c2 c3 x y : V) (J : List V) (m : Nat) (h : Pf.length = m) : spl (spl (Pf ++ [c0, c1, c2, c3] ++ J) (m + 1) [x]) (m + 2) [y] = Pf ++ [c0, x, y, c3] ++ J := by
  subst h
  have e1 : spl (Pf ++ [c0, c1, c2, c3] ++ J) (Pf.length + 1) [x] = Pf ++ [c0, x, c2, c3] ++ J := by
    unfold spl
    simp only [List.append_assoc, List.length_cons, List.length_nil]
    rw [List.take_length_add_append, Nat.add_assoc, List.drop_length_add_append]
    simp
  rw [e1]
  unfold spl
  simp only [List.append_assoc, List.length_cons, List.length_nil]
  rw [List.take_length_add_append, Nat.add_assoc, List.drop_length_add_append]
  simp

theorem TgOk.fresh {ti nx : Nat} {o o' : O} {r : List O} {tg : List Nat} (h : TgOk ti (o :: r) tg nx) (he : o'.t = o.t) : TgOk nx (o' :: r) (nx :: tg) (nx + 1) := by
  have hn := h.nodup
  rw [List.nodup_cons] at hn
  simp only [List.map_cons] at hn
  refine ⟨?_, fun t ht => ?_⟩
  · rw [List.nodup_cons, List.map_cons, he]
    refine ⟨fun hm => ?_, hn.2⟩
    have := (h.mem nx (by simp only [List.map_cons, List.mem_cons] at hm ⊢; exact .inr hm)).2
    omega
  · rcases List.mem_cons.1 ht with rfl | ht
    · exact ⟨by simp, by omega⟩
    · have := h.mem t (by rw [List.map_cons, he] at ht; simp only [List.map_cons, List.mem_cons] at ht ⊢; exact .inr ht)
      exact ⟨List.mem_cons_of_mem _ this.1, by omega⟩

theorem SzOk.upd {n : Nat} {o o' : O} {r : List O} {its : List It} (h : SzOk n (o :: r) its) (h1 : o'.brs.length = o.brs.length + 1) (h2 : o'.ah = o.ah) : SzOk (n + 1) (o' :: r) [] := by
  have h3 := h.nops
  have h4 := h.each o (by simp)
  refine ⟨by simp at h3 ⊢; omega, Nat.zero_le _, fun q hq => ?_⟩
  rcases List.mem_cons.1 hq with rfl | hq
  · rw [h2]; omega
  · have := h.each q (by simp [hq]); omega

theorem upd_ok {b5 : Nat} {o o' : O} {r : List O} {bx : List (Nat × List V × Nat)} (h : StOk b5 (o :: r) bx) {bA capA : Nat} {junk : List V} (t : TopAt b5 o r bx bA capA junk) (its : List It) (x0 : List V × Nat) (ne5 : ¬ o'.bb = b5) (neA : ¬ o'.bb = bA) (hb2 : o'.bb = o.bb ∨ Go.Al.look bx o'.bb = none)
    (e1 : o'.l = o.l) (e2 : o'.brs = o.brs ++ [.mk o.cur its]) (e3 : o'.ah = o.ah) (e4 : o'.t = o.t) (hcap : o.brs.length + 1 + 1 ≤ o'.cap) :
    StOk b5 (o' :: r) (lay (lay (lay (wipe (lay bx o.bb x0) o.bb) o'.bb ((o.brCellsE (.lst (tagOf (its.map encIt)) (its.map encIt))).take ((o.brs.length + 1) * 2) ++ [vi o'.cur, .lst .nil []], o'.cap * 2)) bA
      (spl (opCells r ++ o.cells ++ junk) (r.length * 4 + 1) [.at (.slice (some ⟨o'.bb, 0, none⟩) (o.brs.length + 1 + 1) o'.cap)], capA * 4)) bA (spl (spl (opCells r ++ o.cells ++ junk) (r.length * 4 + 1) [.at (.slice (some ⟨o'.bb, 0, none⟩) (o.brs.length + 1 + 1) o'.cap)]) (r.length * 4 + 2) [.at (.bool o'.last)], capA * 4)) := by
  have hob := h.br o (by simp)
  have hoA := t.nA o (by simp)
  have hd := h.dist
  rw [List.map_cons, List.nodup_cons] at hd
  have hor : ∀ q ∈ r, ¬ o.bb = q.bb := fun q hq e => hd.1 (List.mem_map.2 ⟨q, hq, e.symm⟩)
  have hor' : ∀ q ∈ r, ¬ o'.bb = q.bb := fun q hq e => by
    rcases hb2 with h2 | h2
    · exact hor q hq (h2.symm.trans e)
    · rw [e, (h.br q (by simp [hq])).1] at h2; cases h2
  have hA5 : ¬ bA = b5 := fun e => t.ne e.symm
  refine ⟨.inr ⟨bA, capA, junk, ?_, ?_, t.cap, t.ne, ?_⟩, ?_, ?_⟩
  · rw [look_lay, if_neg hA5, look_lay, if_neg hA5, look_lay, if_neg ne5, look_wipe, if_neg hob.2.2, look_lay, if_neg hob.2.2]
    exact t.h5
  · rw [look_lay, if_pos rfl]
    have := spl_two (opCells r) (vi o.l) (.at (.slice (some ⟨o.bb, 0, none⟩) (o.brs.length + 1) o.cap)) (.at (.bool o.last)) (.lst (.own o.t true 3) (o.ah.map encIt)) (.at (.slice (some ⟨o'.bb, 0, none⟩) (o.brs.length + 1 + 1) o'.cap)) (.at (.bool o'.last)) junk (r.length * 4) (opCells_length r)
    have e5 : o'.cells = [vi o.l, .at (.slice (some ⟨o'.bb, 0, none⟩) (o.brs.length + 1 + 1) o'.cap), .at (.bool o'.last), .lst (.own o.t true 3) (o.ah.map encIt)] := by
      unfold O.cells; rw [e1, e2, e3, e4]; simp
    show some (_, _) = some (opCells r ++ o'.cells ++ junk, _)
    rw [e5, ← this]
    rfl
  · intro q hq
    rcases List.mem_cons.1 hq with rfl | hq
    · exact neA
    · exact t.nA q (by simp [hq])
  · intro q hq
    rcases List.mem_cons.1 hq with rfl | hq
    · refine ⟨?_, by rw [e2]; simp; omega, ne5⟩
      rw [look_lay, if_neg (fun e => neA e.symm), look_lay, if_neg (fun e => neA e.symm), look_lay, if_pos rfl, List.take_of_length_le (by rw [brCellsE_length]; omega), brCellsE_flats, ← e2]
      rfl
    · have q1 := h.br q (by simp [hq])
      have q2 := t.nA q (by simp [hq])
      refine ⟨?_, q1.2⟩
      rw [look_lay, if_neg (fun e => q2 e.symm), look_lay, if_neg (fun e => q2 e.symm), look_lay, if_neg (hor' q hq), look_wipe, if_neg (hor q hq), look_lay, if_neg (hor q hq)]
      exact q1.1
  · rw [List.map_cons, List.nodup_cons]
    exact ⟨fun hm => by obtain ⟨q, hq, e⟩ := List.mem_map.1 hm; exact hor' q hq e.symm, hd.2⟩

end Go.Proofs.Ytdedkemkmccliaa
