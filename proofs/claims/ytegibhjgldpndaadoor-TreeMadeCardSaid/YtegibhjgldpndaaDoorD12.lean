/-
  DEN, part 12: what was written is only read, once it is a result. General: no program in sight.
-/
import Derived.Test.YtegibhjgldpndaaDoorDB
set_option linter.unusedVariables false
set_option linter.unusedSimpArgs false
namespace Go.Den
open Go.Al

theorem awp_post {P : Program} {X : Cx} {Q Q' : Exit → Env → S → Prop} {c : Code} {E : Env} {s : S} (h : awp P X c Q E s) (hq : ∀ ex E' s', Q ex E' s' → ∃ E2 s2, Gst X E' s' E2 s2 ∧ Q' ex E2 s2) : awp P X c Q' E s := by
  intro g a w hr
  refine wpIn_mono (h g a w hr) ?_
  rintro ex a' w' ⟨g', e', st', k1, k2, k3⟩
  obtain ⟨E2, s2, hg, hq2⟩ := hq ex e' st' k3
  obtain ⟨g2, r1, r2⟩ := hg g' a' w' k2
  exact ⟨g2, E2, s2, k1.trans r1, r2, hq2⟩

theorem gst_freezeE {X : Cx} {E : Env} {s : S} (t bb n cap sz : Nat) (es : List V) {css : List V} {kk : Nat} (ht : E.get t = .at (.slice (some ⟨bb, 0, none⟩) n cap))
    (hb : Al.look s.box bb = some (css, kk)) (hn : es.length = n) (hcap : n ≤ cap) (hes : css.take (n * sz) = flats es) (hlen : n * sz ≤ css.length) (hsz : elsOk sz es) (h1 : ∀ x ∈ es, allOne x.flat) (hu : es.map V.untag = es) :
    Gst X E s (E.put t (.lst .no es)) ⟨wipe s.box bb, s.tg, s.nx⟩ := by
  intro g a w hr
  have hi := hr.inv
  obtain ⟨p1, p2, p3, p4, arr, el, us, p5, p6, p7, p8⟩ := hi.box bb css kk hb
  have hlt : bb < w.heap.size := (Array.getElem?_eq_some_iff.1 p5).1
  have hone : allOne css := by unfold allOne; rw [List.all_eq_true]; exact p4
  have hul := RCs_length g w css us p7
  rw [sizes_one hone] at hul
  have hla : Later g w ⟨fun i => if i = bb then n * sz else g.wm i, g.tb⟩ w := ⟨fun i => by
    show g.wm i ≤ if i = bb then n * sz else g.wm i
    split
    · rename_i e1; subst e1; rw [p2]; exact Nat.zero_le _
    · exact Nat.le_refl _, fun _ _ e1 => e1, fun _ _ _ => rfl⟩
  have hs : Step X.B g w ⟨fun i => if i = bb then n * sz else g.wm i, g.tb⟩ w := ⟨hla, .refl _ _, .refl _, fun i hi' => if_neg (by omega)⟩
  have hi1 : Inv X.B ⟨fun i => if i = bb then n * sz else g.wm i, g.tb⟩ ⟨wipe s.box bb, s.tg, s.nx⟩ w := by
    refine ⟨hi.base, ?_, hi.tag, ?_, hi.dist, hi.nodup, fun i hi' => ?_, hi.names⟩
    · intro b' cs' k' hl
      simp only [look_wipe] at hl
      split at hl
      · cases hl
      · rename_i e1
        obtain ⟨r1, r2, r3, r4, arr', el', us', r5, r6, r7, r8⟩ := hi.box b' cs' k' hl
        exact ⟨r1, by show (if b' = bb then _ else g.wm b') = 0; rw [if_neg (fun e2 => e1 e2.symm)]; exact r2, r3, r4, arr', el', us', r5, r6, RCs_later hla _ _ r7, r8⟩
    · intro t ht b' cap' n' sz' hb'
      obtain ⟨r1, r2, r3, r4, r5, r6⟩ := hi.own t ht b' cap' n' sz' hb'
      have e1 : b' ≠ bb := fun e1 => by subst e1; rw [hb] at r5; cases r5
      exact ⟨r1, by show (if b' = bb then _ else g.wm b') = _; rw [if_neg e1]; exact r2, r3, r4, by rw [look_wipe]; split <;> first | rfl | exact r5, r6⟩
    · show (if i = bb then _ else g.wm i) = 0
      rw [if_neg (by omega)]
      exact hi.fresh i hi'
  have hds : RCs g.bare w es (us.take (n * sz)) := by
    have h2 := (RCs_take_drop hone p7 (n * sz)).1
    rw [hes] at h2
    have h3 := RCs_untag_bare (RCs_of_flats h1 h2) h1
    rwa [hu] at h3
  have hlst : RC ⟨fun i => if i = bb then n * sz else g.wm i, g.tb⟩ w (.lst .no es) [.slice (some ⟨bb, 0, none⟩) n cap] := by
    simp only [RC]
    refine .inr ⟨bb, 0, cap, us.take (n * sz), by rw [hn], by omega, trivial, RCs_later hla.bare _ _ hds, ⟨sz, hsz, fun _ _ _ e1 => by cases e1⟩, ?_⟩
    intro i u hiu
    rw [List.getElem?_take] at hiu
    split at hiu
    · rename_i hlt2
      refine ⟨?_, ?_⟩
      · rw [Nat.zero_add, cell_of_row w bb i arr el (0, 0) p5]
        rw [← p8, List.getElem?_take] at hiu
        split at hiu
        · simpa using hiu
        · cases hiu
      · show 0 + i < if bb = bb then n * sz else g.wm bb
        rw [if_pos rfl]; omega
    · cases hiu
  refine ⟨_, hs, hi1, fun j => ?_, hr.size, hr.df, hr.gl⟩
  rw [Env.get_put]
  split
  · rename_i e1
    subst e1
    have h0 := hr.env t
    rw [ht] at h0
    rw [RV_at h0]
    exact RV_lst_mk hlst
  · exact (hr.env j).later hla

section
variable {U : TyU} (C : Cod U) (Tb : TypeId → TD U) {R : Type}

/-- Results that are written: only read from now on. -/
def frzR {R : Type} : List ResultVar → En U → St U → (En U → St U → Option R) → Option R
  | [], e, st, K => K e st
  | v :: r, e, st, K => match v with
    | .tmp t => (match eget e t with
      | .sl l n => (match lk st.bx l with
        | some (.ar i xs) => bif Nat.ble n xs.length then frzR r ((t, .lst (.b false) i (takeL n xs)) :: e) ⟨(l, none) :: st.bx, st.tg, st.nl, st.nx⟩ K else none
        | _ => none)
      | _ => frzR r e st K)
    | .cell _ _ => frzR r e st K

variable {C Tb} {P : Program} {r : R}

theorem frzR_ok (hC : CodOk C) {X : Cx} {N : NM} : ∀ (rs : List ResultVar) {e : En U} {E : Env} {st : St U} {s : S} {K : En U → St U → Option R}, SSim C N st s → ESim C N st e E → frzR rs e st K = some r →
    ∃ e' E' st' s', K e' st' = some r ∧ Gst X E s E' s' ∧ SSim C N st' s' ∧ ESim C N st' e' E'
  | [], e, E, st, s, K, hs, he, h => ⟨e, E, st, s, h, .refl _ _ _, hs, he⟩
  | v :: rs, e, E, st, s, K, hs, he, h => by
    have go : frzR rs e st K = some r → ∃ e' E' st' s', K e' st' = some r ∧ Gst X E s E' s' ∧ SSim C N st' s' ∧ ESim C N st' e' E' := fun hh => frzR_ok hC rs hs he hh
    cases v with
    | cell p t => simp only [frzR] at h; exact go h
    | tmp t =>
      simp only [frzR] at h
      split at h
      · rename_i l n ht
        split at h
        · rename_i i xs hl
          obtain ⟨h1, h2⟩ := bif_some h
          have h1 : n ≤ xs.length := by simpa [Nat.ble_eq] using h1
          have hw := hs.wf l _ hl
          have hE := ((he t).1).get (by rw [ht]; simp)
          rw [ht] at hE
          have hlen := flats_length hC i xs
          have htk : (takeL n xs).length = n := by unfold takeL; rw [List.length_take]; omega
          have hg : Gst X E s (E.put t (.lst .no ((takeL n xs).map (C.encV i)))) ⟨wipe s.box (N.bl l), s.tg, s.nx⟩ := by
            refine gst_freezeE t (N.bl l) n (N.cp l) (C.cells i) _ hE (hs.box l _ hl) (by rw [List.length_map, htk]) (by have := hw.2; omega) (flats_take hC i xs n) ?_ (elsOk_map hC i _) ?_ ?_
            · rw [hlen]; exact Nat.mul_le_mul_right _ h1
            · intro x hx
              obtain ⟨y, _, rfl⟩ := List.mem_map.1 hx
              exact hC.ones i y
            · rw [List.map_map]
              exact List.map_congr_left fun y _ => hC.untag i y
          have hs2 := hs.drop l hl
          have hb : bdd st.nl st.nx (T.lst (.b false) i (takeL n xs) : T U) = true := rfl
          have he2 : ESim C N ⟨(l, none) :: st.bx, st.tg, st.nl, st.nx⟩ ((t, .lst (.b false) i (takeL n xs)) :: e) (E.put t (.lst .no ((takeL n xs).map (C.encV i)))) := by
            have := ESim.put (st := ⟨(l, none) :: st.bx, st.tg, st.nl, st.nx⟩) (e := e) (E := E) (v := .lst (.b false) i (takeL n xs)) (v' := .lst .no ((takeL n xs).map (C.encV i))) he (.inr rfl) hb (some t)
            exact this
          obtain ⟨e', E', st', s', q1, q2, q3, q4⟩ := frzR_ok hC rs hs2 he2 h2
          exact ⟨e', E', st', s', q1, hg.trans q2, q3, q4⟩
        · cases h
      · exact go h

/-- A function's run. -/
def runF2 (C : Cod U) (Tb : TypeId → TD U) (fu d : Nat) (inl : Nat → Option (FD U)) (orc : Nat → Option (Con U)) (fd : FD U) (as rs : List (AK U)) (nf : Nat → Bool) (x : denAs as) : Option (denAs rs) :=
  drun C Tb fu (callD C Tb fu inl orc d) fd.fi fd.body (argsT 0 (argTs C as nf 0 x)) ⟨[], [], 0, 0⟩ fun ex e' st' => match ex with
    | .normal => frzR fd.rs e' st' fun e' st' => dres C Tb e' st' fd.rs fun vs => decAs C rs vs some
    | .ret => frzR fd.rs e' st' fun e' st' => dres C Tb e' st' fd.rs fun vs => decAs C rs vs some
    | _ => none

/-- A FUNCTION'S CONTRACT. -/
theorem runF2_ok (hT : TbOk C P Tb) (hC : CodOk C) (hm : P.follows .mixedOrders = true) {pf : FuncId → Bool} {fu d : Nat} {inl : Nat → Option (FD U)} {orc : Nat → Option (Con U)} (hpf : ∀ f, pf f = (orc f).isSome)
    (hin : ∀ f fd, inl f = some fd → FDOk P pf f fd) (hor : ∀ f c, orc f = some c → isCode P f = true ∧ ConOk C P f c) {f : Nat} {fd : FD U} (hfd : FDOk P pf f fd) {c : Con U} (hlen : c.as.length ≤ fd.n)
    (hrs : ∀ a ∈ c.rs, ∀ i, a ≠ .ls i) (h : ∀ nf x, runF2 C Tb fu d inl orc fd c.as c.rs nf x = c.fn x) : ConOk C P f c := by
  intro x y hx vs hvs
  obtain ⟨fn, q1, q2, q3, q4⟩ := hfd.fn
  have hnf : ∃ nf, vs = (argTs C c.as nf 0 x).map (trT C ⟨id, id, id, id⟩) := by
    have key : ∀ (as : List (AK U)) (x : denAs as) (vs : List V) (j : Nat), ArgVs C as x vs → ∃ nf : Nat → Bool, vs = (argTs C as nf j x).map (trT C ⟨id, id, id, id⟩) := by
      intro as
      induction as with
      | nil => intro x vs j h; exact ⟨fun _ => false, h⟩
      | cons a r ih =>
        intro x vs j h
        obtain ⟨v, vs', rfl, h1, h2⟩ := h
        obtain ⟨nf, h3⟩ := ih x.2 vs' (j + 1) h2
        have h4 : ∃ n, v = trT C ⟨id, id, id, id⟩ (argT C a n x.1) := by
          cases a with
          | ls i => obtain ⟨n, hn⟩ := h1; exact ⟨n, by rw [hn]; cases n <;> rfl⟩
          | _ => exact ⟨false, h1⟩
        obtain ⟨n, h4⟩ := h4
        have hcong : ∀ (as : List (AK U)) (x : denAs as) (nf nf' : Nat → Bool) (j : Nat), (∀ m, j ≤ m → nf m = nf' m) → argTs C as nf j x = argTs C as nf' j x := by
          intro as
          induction as with
          | nil => intros; rfl
          | cons a r ih =>
            intro x nf nf' j hh
            simp only [argTs, hh j (Nat.le_refl _), ih x.2 nf nf' (j + 1) fun m hm => hh m (by omega)]
        refine ⟨fun m => if m = j then n else nf m, ?_⟩
        simp only [argTs, List.map_cons, if_true]
        rw [h3, h4, hcong r x.2 (fun m => if m = j then n else nf m) nf (j + 1) fun m hm => if_neg (by omega)]
    exact key c.as x vs 0 hvs
  obtain ⟨nf, rfl⟩ := hnf
  have hlenA : ∀ (as : List (AK U)) (nf : Nat → Bool) (j : Nat) (x : denAs as), (argTs C as nf j x).length = as.length := by
    intro as
    induction as with
    | nil => intros; rfl
    | cons a r ih => intro nf j x; simp [argTs, ih]
  have hrun := (h nf x).trans hx
  unfold runF2 at hrun
  refine PureF_intro q1 q2 q3 q4 (by rw [List.length_map, hlenA]; exact hlen) fun B => ?_
  have resV : ∀ (rs : List (AK U)), (∀ a ∈ rs, ∀ i, a ≠ .ls i) → ∀ (y : denAs rs) (us : List V) (j : Nat), ArgVs C rs y us → us = (argTs C rs (fun _ => false) j y).map (trT C ⟨id, id, id, id⟩) := by
    intro rs
    induction rs with
    | nil => intro _ y us j hu; exact hu
    | cons a r ih =>
      intro hr y us j hu
      obtain ⟨v, vs', rfl, h1, h2⟩ := hu
      simp only [argTs, List.map_cons]
      rw [← ih (fun a ha => hr a (by simp [ha])) y.2 vs' (j + 1) h2]
      congr 1
      cases a with
      | ls i => exact absurd rfl (hr (.ls i) (by simp) i)
      | _ => exact h1
  refine awp_post (Q := fun ex E' s' => ∃ E2 s2, Gst ⟨B, fd.n, none⟩ E' s' E2 s2 ∧ retE P fd.rs (fun oc _ => oc = .ret (finV ((argTs C c.rs (fun _ => false) 0 y).map (trT C ⟨id, id, id, id⟩)))) ex E2 s2) ?_ (fun _ _ _ hq => hq)
  refine run_ok (X := ⟨B, fd.n, none⟩) hT hC hm (callD_ok hT hC hm hpf hin hor d fd.fi.wr fd.fi.own) fd.body (SSim.empty ⟨id, id, id, id⟩ 0 0 _) (argsE_sim (st := ⟨[], [], 0, 0⟩) _ 0 (argTs_bdd hC c.as nf 0 x)) hrun hfd.ok hfd.hok ?_
  intro ex N' e' st' E' s' p1 p2 p3 p4 _
  have fin : (frzR fd.rs e' st' fun e' st' => dres C Tb e' st' fd.rs fun vs => decAs C c.rs vs some) = some y → ∃ E2 s2, Gst ⟨B, fd.n, none⟩ E' s' E2 s2 ∧ aResults P fd.rs E2 s2 fun xs => Outc.ret (finV xs) = .ret (finV ((argTs C c.rs (fun _ => false) 0 y).map (trT C ⟨id, id, id, id⟩))) := fun hh => by
    obtain ⟨e2, E2, st2, s2, u1, u2, u3, u4⟩ := frzR_ok (X := ⟨B, fd.n, none⟩) hC fd.rs p3 p4 hh
    refine ⟨E2, s2, u2, dres_ok hT hC u3 u4 fd.rs u1 fun vs hv => ?_⟩
    obtain ⟨y', h1, h2⟩ := decAs_ok hC c.rs hv
    injection h1 with h1
    subst h1
    rw [resV c.rs hrs y' _ 0 (h2 N')]
  cases ex <;> simp only at p1 <;> first | exact fin p1 | cases p1

end
end Go.Den
