/-
  AL, part 21: what was written is only read from now on. General: no program in sight.
-/
import Derived.Test.YtdedkemkmccliaaAl20
set_option linter.unusedVariables false
set_option linter.unusedSimpArgs false
namespace Go.Al
open Go.RowKit

/-- append onto a row that is written. -/
def sAppW (P : Program) (st : S) (b len cap : Nat) (ys : List V) (w : Bool) (el : TypeId) (q : Option (List V × Nat)) (K : V → S → Prop) : Prop :=
  match q with
  | none => False
  | some (cs, k) => appOk P el len ys ∧ w = true ∧ k = cap * P.cellsOf el ∧ len ≤ cap ∧ len * P.cellsOf el ≤ cs.length ∧ allOne (flats ys) ∧
    ∀ b' cap', look (wipe st.box b) b' = none → len + ys.length ≤ cap' →
      K (.at (.slice (some ⟨b', 0, none⟩) (len + ys.length) cap')) ⟨lay (wipe st.box b) b' (cs.take (len * P.cellsOf el) ++ flats ys, cap' * P.cellsOf el), st.tg, st.nx⟩
theorem sApp_box (P : Program) (L : Pol) (d : Nat) (st : S) (t : TypeId) (b len cap : Nat) (ys : List V) (el : TypeId) (K : V → S → Prop) :
    sApp P L (some d) st t t (.at (.slice (some ⟨b, 0, none⟩) len cap)) ys (some el) K = sAppW P st b len cap ys (L.wr d) el (look st.box b) K := by
  unfold sApp sAppW appOk
  simp only [true_and]
  cases look st.box b with
  | none => simp
  | some p =>
    obtain ⟨cs, k⟩ := p
    simp only [Option.map_some, Option.getD_some]
    refine propext ⟨fun ⟨a, b, c, d, e, f, g, h, i, j, k, l⟩ => ⟨⟨a, b, c, d, i, j⟩, e, f, g, h, k, l⟩, fun ⟨⟨a, b, c, d, i, j⟩, e, f, g, h, k, l⟩ => ⟨a, b, c, d, e, f, g, h, i, j, k, l⟩⟩
theorem sAppW_congr (P : Program) (st : S) (b len cap : Nat) (ys : List V) {w w' : Bool} (h1 : w = w') (el : TypeId) {q q' : Option (List V × Nat)} (h : q = q') (K : V → S → Prop) : sAppW P st b len cap ys w el q K = sAppW P st b len cap ys w' el q' K := by rw [h, h1]
theorem sAppW_some (P : Program) (st : S) (b len cap : Nat) (ys : List V) (el : TypeId) (cs : List V) (k : Nat) (K : V → S → Prop) : sAppW P st b len cap ys true el (some (cs, k)) K =
    (appOk P el len ys ∧ k = cap * P.cellsOf el ∧ len ≤ cap ∧ len * P.cellsOf el ≤ cs.length ∧ allOne (flats ys) ∧
    ∀ b' cap', look (wipe st.box b) b' = none → len + ys.length ≤ cap' →
      K (.at (.slice (some ⟨b', 0, none⟩) (len + ys.length) cap')) ⟨lay (wipe st.box b) b' (cs.take (len * P.cellsOf el) ++ flats ys, cap' * P.cellsOf el), st.tg, st.nx⟩) := by
  simp only [sAppW, true_and]

/-- append of a row that is written. -/
def appOkB (P : Program) (el : TypeId) (n m : Nat) : Prop :=
  hasT P el = true ∧ ((zeroC P el).map List.length = some (P.cellsOf el)) ∧ 0 < P.cellsOf el ∧ (n + m) * P.bytesOf el ≤ 140737488355328 ∧ n + m ≤ maxLen
def sAppS (P : Program) (st : S) (s : V) (m : Nat) (w : Bool) (q : Option TypeId) (q2 : Option (List V × Nat)) (K : V → S → Prop) : Prop :=
  match q, q2 with
  | some el, some (css, _) => hasT P el = true ∧ ((zeroC P el).map List.length = some (P.cellsOf el)) ∧ 0 < P.cellsOf el ∧ w = true ∧ m * P.cellsOf el ≤ css.length ∧
      (match s with
       | .lst .nil [] => m * P.bytesOf el ≤ 140737488355328 ∧ m ≤ maxLen ∧ m ≠ 0 ∧
          ∀ b cap, look st.box b = none → m ≤ cap → K (.at (.slice (some ⟨b, 0, none⟩) m cap)) ⟨lay st.box b (css.take (m * P.cellsOf el), cap * P.cellsOf el), st.tg, st.nx⟩
       | .at (.slice (some ⟨b, 0, none⟩) len cap) =>
          (match look st.box b with
           | some (cs, k) => k = cap * P.cellsOf el ∧ len ≤ cap ∧ len * P.cellsOf el ≤ cs.length ∧ (len + m) * P.bytesOf el ≤ 140737488355328 ∧ len + m ≤ maxLen ∧
              ∀ b' cap', look (wipe st.box b) b' = none → len + m ≤ cap' →
                K (.at (.slice (some ⟨b', 0, none⟩) (len + m) cap')) ⟨lay (wipe st.box b) b' (cs.take (len * P.cellsOf el) ++ css.take (m * P.cellsOf el), cap' * P.cellsOf el), st.tg, st.nx⟩
           | none => False)
       | _ => False)
  | _, _ => False
theorem aAppend_at (P : Program) (L : Pol) (d : Nat) (st : S) (t : TypeId) (s : V) (bs m cp : Nat) (K : V → S → Prop) :
    aAppend P L (some d) st t t s (.at (.slice (some ⟨bs, 0, none⟩) m cp)) K = sAppS P st s m (L.wr d) (elT P t) (look st.box bs) K := by
  unfold aAppend sAppS
  cases elT P t with
  | none => rfl
  | some el =>
    simp only [true_and]
    cases look st.box bs with
    | none => simp
    | some p => rfl
theorem sAppS_congr (P : Program) (st : S) {s s' : V} (h0 : s = s') (m : Nat) {w w' : Bool} (h1 : w = w') {q q' : Option TypeId} (h2 : q = q') {r r' : Option (List V × Nat)} (h3 : r = r') (K : V → S → Prop) : sAppS P st s m w q r K = sAppS P st s' m w' q' r' K := by
  rw [h0, h1, h2, h3]
theorem sAppS_nil (P : Program) (st : S) (m : Nat) (el : TypeId) (css : List V) (kk : Nat) (K : V → S → Prop) : sAppS P st (.lst .nil []) m true (some el) (some (css, kk)) K =
    (appOkB P el 0 m ∧ m * P.cellsOf el ≤ css.length ∧ m ≠ 0 ∧
      ∀ b cap, look st.box b = none → m ≤ cap → K (.at (.slice (some ⟨b, 0, none⟩) m cap)) ⟨lay st.box b (css.take (m * P.cellsOf el), cap * P.cellsOf el), st.tg, st.nx⟩) := by
  simp only [sAppS, appOkB, true_and, Nat.zero_add]
  refine propext ⟨fun ⟨a, b, c, d, e, f, g, h⟩ => ⟨⟨a, b, c, e, f⟩, d, g, h⟩, fun ⟨⟨a, b, c, e, f⟩, d, g, h⟩ => ⟨a, b, c, d, e, f, g, h⟩⟩
def sAppS2 (P : Program) (st : S) (b len cap m : Nat) (el : TypeId) (css : List V) (q : Option (List V × Nat)) (K : V → S → Prop) : Prop :=
  match q with
  | some (cs, k) => appOkB P el len m ∧ m * P.cellsOf el ≤ css.length ∧ k = cap * P.cellsOf el ∧ len ≤ cap ∧ len * P.cellsOf el ≤ cs.length ∧
              ∀ b' cap', look (wipe st.box b) b' = none → len + m ≤ cap' →
                K (.at (.slice (some ⟨b', 0, none⟩) (len + m) cap')) ⟨lay (wipe st.box b) b' (cs.take (len * P.cellsOf el) ++ css.take (m * P.cellsOf el), cap' * P.cellsOf el), st.tg, st.nx⟩
  | none => False
theorem sAppS_box (P : Program) (st : S) (b len cap m : Nat) (el : TypeId) (css : List V) (kk : Nat) (K : V → S → Prop) : sAppS P st (.at (.slice (some ⟨b, 0, none⟩) len cap)) m true (some el) (some (css, kk)) K =
    sAppS2 P st b len cap m el css (look st.box b) K := by
  simp only [sAppS, sAppS2, appOkB, true_and]
  cases look st.box b with
  | none => simp
  | some p =>
    obtain ⟨cs, k⟩ := p
    simp only
    refine propext ⟨fun ⟨a, b, c, d, e, f, g, h, i, j⟩ => ⟨⟨a, b, c, h, i⟩, d, e, f, g, j⟩, fun ⟨⟨a, b, c, h, i⟩, d, e, f, g, j⟩ => ⟨a, b, c, d, e, f, g, h, i, j⟩⟩
theorem sAppS2_congr (P : Program) (st : S) (b len cap m : Nat) (el : TypeId) (css : List V) {q q' : Option (List V × Nat)} (h : q = q') (K : V → S → Prop) : sAppS2 P st b len cap m el css q K = sAppS2 P st b len cap m el css q' K := by rw [h]
theorem sAppS2_some (P : Program) (st : S) (b len cap m : Nat) (el : TypeId) (css cs : List V) (k : Nat) (K : V → S → Prop) : sAppS2 P st b len cap m el css (some (cs, k)) K =
    (appOkB P el len m ∧ m * P.cellsOf el ≤ css.length ∧ k = cap * P.cellsOf el ∧ len ≤ cap ∧ len * P.cellsOf el ≤ cs.length ∧
              ∀ b' cap', look (wipe st.box b) b' = none → len + m ≤ cap' →
                K (.at (.slice (some ⟨b', 0, none⟩) (len + m) cap')) ⟨lay (wipe st.box b) b' (cs.take (len * P.cellsOf el) ++ css.take (m * P.cellsOf el), cap' * P.cellsOf el), st.tg, st.nx⟩) := rfl

theorem retER_normal (P : Program) (rs : List ResultVar) (Q : Outc → S → Prop) (e : Env) (s : S) : retER P rs Q .normal e s = aResultsR P rs e s fun xs => ∃ s0, s.sub s0 ∧ Q (.ret (finV xs)) s0 := rfl
theorem retER_ret (P : Program) (rs : List ResultVar) (Q : Outc → S → Prop) (e : Env) (s : S) : retER P rs Q .ret e s = aResultsR P rs e s fun xs => ∃ s0, s.sub s0 ∧ Q (.ret (finV xs)) s0 := rfl
theorem look_self {α : Type} (a : Nat) (x y : α) : (if a = a then x else y) = x := if_pos rfl
theorem Sub.drop' {x y : V} {xs ys : List V} (e : x.untag = y) (h : Sub xs ys) : Sub (x :: xs) (y :: ys) := by subst e; exact .drop h
section
variable {P : Program} {L : Pol} {ds : List (Option Nat)} {KP : List PanicEntry → S → Prop} {os : List Oper} {K : Env → S → Prop} {e : Env} {st : S}
variable {d : Option Nat} {ty : TypeId} {pos : String} {af : Array Edge}
/-- A guarded operation: by the slot of its guard. -/
def aGuardD (q : Option Nat) (e : Env) (b : Bool) (A B : Prop) : Prop :=
  match q with
  | some t => aGuard (e.get t) b A B
  | none => False
theorem AL_guardD (op : Op) (j : Nat) (b : Bool) : AL P L ds KP (⟨d, op, ty, pos, af, some (j, b)⟩ :: os) K e st =
    aGuardD (ds.getD j none) e b (AL P L ds KP (⟨d, op, ty, pos, af, none⟩ :: os) K e st) (AL P L ds KP os K (e.putO d (.tup [])) st) := by
  cases hj : ds.getD j none with
  | some t => exact AL_guard op j b t hj
  | none =>
    show astep P L ds KP ⟨d, op, ty, pos, af, some (j, b)⟩ (AL P L ds KP os K) e st = False
    unfold astep awant
    simp only [hj]
theorem aGuardD_congr {q q' : Option Nat} (h : q = q') (e : Env) (b : Bool) (A B : Prop) : aGuardD q e b A B = aGuardD q' e b A B := by rw [h]
theorem aGuardD_some (t : Nat) (e : Env) (b : Bool) (A B : Prop) : aGuardD (some t) e b A B = aGuard (e.get t) b A B := rfl
end
def sSliceB (P : Program) (b o cap : Nat) (h : Int) (q : Option TypeId) (K : V → Prop) : Prop :=
  match q with
  | some el => hasT P el = true ∧ (0 ≤ h ∧ h ≤ (cap : Int)) ∧ K (.at (.slice (some ⟨b, o, none⟩) h.toNat cap))
  | none => False
theorem aSlice_box_hi (P : Program) (t : TypeId) (b o len cap : Nat) (k : IntKind) (h : Int) (K : V → Prop) : aSlice P t (.at (.slice (some ⟨b, o, none⟩) len cap)) none (some (.at (.int k h))) K = sSliceB P b o cap h (elT P t) K := by
  unfold aSlice sSliceB
  cases elT P t with
  | none => rfl
  | some el =>
    have e1 : (if (cap : Int) = 0 then o else o + (0 : Int).toNat * P.cellsOf el) = o := by split <;> simp
    simp only [boundV, Int.toNat_zero, Nat.sub_zero, Int.le_refl, true_and]
    rw [Int.toNat_zero] at e1
    rw [e1]
theorem sSliceB_some (P : Program) (b o cap : Nat) (h : Int) (el : TypeId) (K : V → Prop) : sSliceB P b o cap h (some el) K = (hasT P el = true ∧ (0 ≤ h ∧ h ≤ (cap : Int)) ∧ K (.at (.slice (some ⟨b, o, none⟩) h.toNat cap))) := rfl
theorem sSliceB_congr (P : Program) (b o cap : Nat) {h h' : Int} (e : h = h') {q q' : Option TypeId} (e2 : q = q') (K : V → Prop) : sSliceB P b o cap h q K = sSliceB P b o cap h' q' K := by rw [e, e2]

theorem S.sub_look {bx bx' : List (Nat × List V × Nat)} {tg : List Nat} {n : Nat} (h : ∀ b, look bx b = look bx' b) : S.sub ⟨bx, tg, n⟩ ⟨bx', tg, n⟩ :=
  ⟨fun b c hl => (h b).trans hl, fun _ hm => hm, fun hn => hn, fun b hl => (h b).symm.trans hl, Nat.le_refl _⟩
theorem S.sub_less {bx bx' : List (Nat × List V × Nat)} {tg : List Nat} {n : Nat} (h : ∀ b, look bx' b = look bx b ∨ look bx' b = none) : S.sub ⟨bx, tg, n⟩ ⟨bx', tg, n⟩ := by
  refine ⟨fun b c hl => ?_, fun _ hm => hm, fun hn => hn, fun b hl => ?_, Nat.le_refl _⟩
  · rcases h b with h | h
    · rw [← h]; exact hl
    · replace hl : look bx' b = some c := hl
      rw [h] at hl; cases hl
  · rcases h b with h | h
    · exact h.trans hl
    · exact h

section
variable {P : Program} {X : Cx} {Q : Exit → Env → S → Prop} {e : Env} {st : S} {g : Gh} {w : World}

theorem RCs_set_at {v : Value} {x : V} (hx : RC g w x [v]) : ∀ {cs : List V} {us : List Value} {j : Nat}, cs[j]? = some (.at v) → RCs g w cs us → RCs g w (cs.set j x) us
  | [], us, j, hj, _ => by simp at hj
  | c :: r, us, 0, hj, h => by
    simp only [RCs] at h
    obtain ⟨u1, u2, rfl, h1, h2⟩ := h
    simp only [List.getElem?_cons_zero, Option.some.injEq] at hj
    subst hj
    simp only [RC] at h1
    simp only [List.set_cons_zero, RCs]
    exact ⟨u1, u2, rfl, by rw [h1.1]; exact hx, h2⟩
  | c :: r, us, j + 1, hj, h => by
    simp only [RCs] at h
    obtain ⟨u1, u2, rfl, h1, h2⟩ := h
    simp only [List.getElem?_cons_succ] at hj
    simp only [List.set_cons_succ, RCs]
    exact ⟨u1, u2, rfl, h1, RCs_set_at hx hj h2⟩

theorem RC_of_flat {x : V} {us : List Value} (h1 : allOne x.flat) (h : RCs g w x.flat us) : RC g w x us := by
  cases x with
  | any => simp [V.flat, allOne, V.isOne] at h1
  | tup vs => simp [V.flat, allOne, V.isOne] at h1
  | agg fs => simpa only [RC, V.flat] using h
  | _ =>
    simp only [V.flat, RCs] at h
    obtain ⟨u1, u2, rfl, h2, rfl⟩ := h
    simpa using h2

theorem RCs_part : ∀ {xs ys : List V} {us : List Value}, RCs g w (xs ++ ys) us → ∃ u1 u2, us = u1 ++ u2 ∧ RCs g w xs u1 ∧ RCs g w ys u2
  | [], ys, us, h => ⟨[], us, rfl, by simp [RCs], h⟩
  | x :: xs, ys, us, h => by
    simp only [List.cons_append, RCs] at h
    obtain ⟨u1, u2, rfl, h1, h2⟩ := h
    obtain ⟨v1, v2, rfl, h3, h4⟩ := RCs_part h2
    exact ⟨u1 ++ v1, v2, by simp, by simp only [RCs]; exact ⟨u1, v1, rfl, h1, h3⟩, h4⟩

theorem RCs_of_flats : ∀ {es : List V} {us : List Value}, (∀ x ∈ es, allOne x.flat) → RCs g w (flats es) us → RCs g w es us
  | [], us, _, h => h
  | x :: xs, us, h1, h => by
    obtain ⟨u1, u2, rfl, h2, h3⟩ := RCs_part (xs := x.flat) (ys := flats xs) h
    simp only [RCs]
    exact ⟨u1, u2, rfl, RC_of_flat (h1 x (by simp)) h2, RCs_of_flats (fun y hy => h1 y (by simp [hy])) h3⟩

/-- What is known in between. -/
theorem awp_cut {c c2 : Code} (E1 : Env) (S1 : S) (h1 : awp P X c (fun ex e' s' => ex = .normal ∧ e'.sub E1 ∧ s'.sub S1) e st) (h2 : awp P X c2 Q E1 S1) : awp P X c (thenE (awp P X c2 Q) Q) e st := by
  intro g a w hr
  refine wp_mono (h1 g a w hr) ?_
  rintro ex a' w' ⟨g', e', st', k1, k2, rfl, k3, k4⟩
  exact ⟨g', e', st', k1, k2, fun g2 a2 w2 hr2 => h2 g2 a2 w2 (hr2.weaken k3 k4)⟩

/-- A GHOST STEP: a row that was written, and that a box holds, is only read from now on. -/
theorem awp_freeze {c : Code} (b9 bb j n cap sz : Nat) (es : List V) {cs css : List V} {k kk : Nat} (h9 : look st.box b9 = some (cs, k)) (hj : cs[j]? = some (.at (.slice (some ⟨bb, 0, none⟩) n cap)))
    (hb : look st.box bb = some (css, kk)) (hne : ¬ b9 = bb) (hn : es.length = n) (hcap : n ≤ cap) (hes : css.take (n * sz) = flats es) (hlen : n * sz ≤ css.length) (hsz : elsOk sz es) (h1 : ∀ x ∈ es, allOne x.flat) (hu : es.map V.untag = es)
    (h : awp P X c Q e ⟨lay (wipe st.box bb) b9 (cs.set j (.lst .no es), k), st.tg, st.nx⟩) : awp P X c Q e st := by
  intro g a w hr
  have hi := hr.inv
  obtain ⟨p1, p2, p3, p4, arr, el, us, p5, p6, p7, p8⟩ := hi.box bb css kk hb
  obtain ⟨q1, q2, q3, q4, arr9, el9, us9, q5, q6, q7, q8⟩ := hi.box b9 cs k h9
  have hlt : bb < w.heap.size := (Array.getElem?_eq_some_iff.1 p5).1
  have hone : allOne css := by unfold allOne; rw [List.all_eq_true]; exact p4
  have hul := RCs_length g w css us p7
  rw [sizes_one hone] at hul
  have hla : Later g w ⟨fun i => if i = bb then n * sz else g.wm i, g.tb⟩ w := ⟨fun i => by
    show g.wm i ≤ if i = bb then n * sz else g.wm i
    split
    · rename_i e1; subst e1; rw [p2]; exact Nat.zero_le _
    · exact Nat.le_refl _, fun _ _ e1 => e1, fun _ _ _ => rfl⟩
  have hs : Step X.B g w ⟨fun i => if i = bb then n * sz else g.wm i, g.tb⟩ w := ⟨hla, .refl _ _, fun _ => rfl, fun i hi' => if_neg (by omega)⟩
  have hi1 : Inv X.B ⟨fun i => if i = bb then n * sz else g.wm i, g.tb⟩ ⟨wipe st.box bb, st.tg, st.nx⟩ w := by
    refine ⟨hi.base, ?_, hi.tag, ?_, hi.dist, hi.nodup, fun i hi' => ?_, hi.names⟩
    · intro b' cs' k' hl
      simp only [look_wipe] at hl
      split at hl
      · cases hl
      · rename_i e1
        obtain ⟨r1, r2, r3, r4, arr', el', us', r5, r6, r7, r8⟩ := hi.box b' cs' k' hl
        exact ⟨r1, by show (if b' = bb then _ else g.wm b') = 0; rw [if_neg (fun e2 => e1 e2.symm)]; exact r2, r3, r4, arr', el', us', r5, r6, RCs_later hla _ _ r7, r8⟩
    · intro t ht b' cap' n' sz' hb'
      obtain ⟨r1, r2, r3, r4, r5, r6⟩ := hi.own t ht b' cap' n' sz' hb'
      have e1 : b' ≠ bb := fun e1 => by subst e1; rw [hb] at r5; cases r5
      exact ⟨r1, by show (if b' = bb then _ else g.wm b') = _; rw [if_neg e1]; exact r2, r3, r4, by rw [look_wipe]; split <;> first | rfl | exact r5, r6⟩
    · show (if i = bb then _ else g.wm i) = 0
      rw [if_neg (by omega)]
      exact hi.fresh i hi'
  have hds : RCs g.bare w es (us.take (n * sz)) := by
    have h2 := (RCs_take_drop hone p7 (n * sz)).1
    rw [hes] at h2
    have h3 := RCs_untag_bare (RCs_of_flats h1 h2) h1
    rwa [hu] at h3
  have hlst : RC ⟨fun i => if i = bb then n * sz else g.wm i, g.tb⟩ w (.lst .no es) [.slice (some ⟨bb, 0, none⟩) n cap] := by
    simp only [RC]
    refine .inr ⟨bb, 0, cap, us.take (n * sz), by rw [hn], by omega, trivial, RCs_later hla.bare _ _ hds, ⟨sz, hsz, fun _ _ _ e1 => by cases e1⟩, ?_⟩
    intro i u hiu
    rw [List.getElem?_take] at hiu
    split at hiu
    · rename_i hlt2
      refine ⟨?_, ?_⟩
      · rw [Nat.zero_add, cell_of_row w bb i arr el (0, 0) p5]
        rw [← p8, List.getElem?_take] at hiu
        split at hiu
        · simpa using hiu
        · cases hiu
      · show 0 + i < if bb = bb then n * sz else g.wm bb
        rw [if_pos rfl]; omega
    · cases hiu
  have hfin : Inv X.B ⟨fun i => if i = bb then n * sz else g.wm i, g.tb⟩ ⟨lay (wipe st.box bb) b9 (cs.set j (.lst .no es), k), st.tg, st.nx⟩ w := by
    have := hi1.addBox (b := b9) (arr := arr9) (el := el9) (cs := cs.set j (.lst .no es)) (us := us9) q1 (by show (if b9 = bb then _ else g.wm b9) = 0; rw [if_neg hne]; exact q2) q5 (by simp; omega)
      (fun c hc => by
        rcases List.mem_or_eq_of_mem_set hc with h2 | h2
        · exact q4 c h2
        · subst h2; rfl)
      (RCs_set_at hlst hj (RCs_later hla _ _ q7)) (by simpa using q8) (fun t ht d hd => by
        obtain ⟨cap', n', sz'⟩ := d
        obtain ⟨r1, r2, r3, r4, r5, r6⟩ := hi.own t ht b9 cap' n' sz' hd
        rw [h9] at r5; cases r5)
    rw [q6] at this
    exact this
  refine wp_mono (h _ a w ⟨hfin, fun i => (hr.env i).later hla, hr.size, hr.df⟩) ?_
  rintro ex a' w' ⟨g', e', st', k1, k2, k3⟩
  exact ⟨g', e', st', hs.trans k1, k2, k3⟩

end
end Go.Al
