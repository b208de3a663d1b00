/-
  DEN, part 9: WHAT IS RUN ON TYPED VALUES IS WHAT THE PROGRAM DOES. General: no program in sight.
-/
import Derived.Test.YtdedkemkmccliaaD8
set_option linter.unusedVariables false
set_option linter.unusedSimpArgs false
namespace Go.Den
open Go.Al

section
variable {U : TyU} {C : Cod U} {P : Program} {Tb : TypeId → TD U} {R : Type} {r : R}

/-- A loop, with ghost steps. -/
theorem awp_loopG {X : Cx} {Q : Exit → Env → S → Prop} {c : Code} {α : Type} (I : α → Env → S → Prop) (μ : α → Nat) {x₀ : α} {E E0 : Env} {s s0 : S} (h0 : I x₀ E0 s0) (hg : Gst X E s E0 s0)
    (round : ∀ x E s, I x E s → awp P X c (thenE (fun E' s' => ∃ x' E2 s2, I x' E2 s2 ∧ μ x' < μ x ∧ Gst X E' s' E2 s2) Q) E s) : awp P X (.loop c) Q E s := by
  refine awp_gst hg ?_
  intro g a w hr
  refine wp_loop_ghost (fun n a' w' => ∃ x E s g', μ x = n ∧ I x E s ∧ Step X.B g w g' w' ∧ Rel X g' E s a' w') (μ x₀) ⟨x₀, E0, s0, g, rfl, h0, .refl _ _ _, hr⟩ ?_
  rintro n a1 w1 ⟨x, E1, s1, g1, rfl, p1, p2, p3⟩
  refine wp_mono (round x E1 s1 p1 g1 a1 w1 p3) ?_
  rintro ex a2 w2 ⟨g2, e2, st2, q1, q2, q3⟩
  cases ex with
  | normal =>
    obtain ⟨x2, E2, s2, r1, r2, r3⟩ := q3
    obtain ⟨g3, r4, r5⟩ := r3 g2 a2 w2 q2
    exact ⟨μ x2, r2, x2, E2, s2, g3, rfl, r1, (p2.trans q1).trans r4, r5⟩
  | exit id => exact ⟨g2, e2, st2, p2.trans q1, q2, q3⟩
  | goto l => exact ⟨g2, e2, st2, p2.trans q1, q2, q3⟩
  | ret => exact ⟨g2, e2, st2, p2.trans q1, q2, q3⟩
  | panic c => exact ⟨g2, e2, st2, p2.trans q1, q2, q3⟩
  | outgrown => exact ⟨g2, e2, st2, p2.trans q1, q2, q3⟩

theorem hasN_iff {l : List Nat} {t : Nat} : hasN l t = true ↔ t ∈ l := by
  refine ⟨hasN_mem, fun h => ?_⟩
  induction l with
  | nil => simp at h
  | cons k r ih =>
    simp only [hasN]
    by_cases e : k = t
    · have : Nat.beq k t = true := by simpa using e
      simp [this]
    · simp only [beq_ne e, cond_false]
      rcases List.mem_cons.1 h with h | h
      · exact absurd h.symm e
      · exact ih h

theorem noneIn_spec : ∀ {a l : List Nat}, noneIn a l = true → ∀ k ∈ a, k ∉ l
  | [], _, _, k, hk => by simp at hk
  | x :: r, l, h, k, hk => by
    simp only [noneIn, Bool.and_eq_true, Bool.not_eq_true'] at h
    rcases List.mem_cons.1 hk with rfl | hk
    · intro hh
      have := hasN_iff.2 hh
      rw [this] at h
      simp at h
    · exact noneIn_spec h.2 k hk

theorem noneIn_left : ∀ {f v w : List Nat}, noneIn f (v ++ w) = true → noneIn f v = true
  | [], _, _, _ => rfl
  | a :: r, v, w, h => by
    simp only [noneIn, Bool.and_eq_true, Bool.not_eq_true'] at h ⊢
    refine ⟨?_, noneIn_left h.2⟩
    cases hh : hasN v a with
    | false => rfl
    | true =>
      have := hasN_iff.2 (List.mem_append_left w (hasN_iff.1 hh))
      rw [this] at h; simp at h

theorem allThere_spec : ∀ {a : List Nat} {e : En U}, allThere a e = true → ∀ k ∈ a, eget e k ≠ .any
  | [], _, _, k, hk => by simp at hk
  | x :: r, e, h, k, hk => by
    simp only [allThere, Bool.and_eq_true, Bool.not_eq_true'] at h
    rcases List.mem_cons.1 hk with rfl | hk
    · intro hh
      rw [hh] at h
      simp [isAny] at h
    · exact allThere_spec h.2 k hk

theorem eget_keep (ks : List Nat) (e : En U) (k : Nat) : eget (ks.map fun k => (k, eget e k)) k = if k ∈ ks then eget e k else .any := by
  induction ks with
  | nil => rfl
  | cons x r ih =>
    simp only [List.map_cons, eget]
    by_cases hx : x = k
    · subst hx
      have : Nat.beq x x = true := by simp
      simp [this]
    · simp only [beq_ne hx, cond_false, ih, List.mem_cons]
      have : ¬ k = x := fun e => hx e.symm
      simp [this]
theorem get_keepE (ks : List Nat) (E : Env) (k : Nat) : (keepE ks E).get k = if k ∈ ks then E.get k else .any := by
  induction ks with
  | nil => rfl
  | cons x r ih =>
    simp only [keepE, List.map_cons, Env.get]
    by_cases hx : x = k
    · subst hx; simp
    · have h2 : ¬ k = x := fun e => hx e.symm
      simp only [if_neg hx, List.mem_cons, h2, false_or]
      exact ih

theorem ESim.keep {N : NM} {st : St U} {e : En U} {E : Env} (h : ESim C N st e E) (ks : List Nat) : ESim C N st (ks.map fun k => (k, eget e k)) (keepE ks E) := fun k => by
  rw [eget_keep, get_keepE]
  split
  · exact h k
  · exact ⟨.inl rfl, rfl⟩

theorem eget_append (a b : En U) (k : Nat) : eget (a ++ b) k = if k ∈ a.map (·.1) then eget a k else eget b k := by
  induction a with
  | nil => simp
  | cons p r ih =>
    simp only [List.cons_append, eget, List.map_cons, List.mem_cons]
    by_cases hx : p.1 = k
    · have : Nat.beq p.1 k = true := by simpa using hx
      simp [this, hx]
    · have h2 : ¬ k = p.1 := fun e => hx e.symm
      simp only [beq_ne hx, cond_false, ih, h2, false_or]

/-- What is carried, as the abstract frame and store have it. -/
def HI (C : Cod U) (N0 : NM) (h : Head U) (fx : En U) (x : denKs (kindsV h.vars)) (E : Env) (s : S) : Prop :=
  (∃ rs, VKs C s (kindsV h.vars) x (h.vars.map fun p => E.get p.1) rs ∧ rs.Nodup) ∧ ∀ k ∈ h.fixed, E.get k = trT C N0 (eget fx k)

theorem slotsV_eq : ∀ (vars : List (Nat × SK U)) (e : En U), slotsV vars e = vars.map fun p => eget e p.1
  | [], _ => rfl
  | p :: r, e => by simp [slotsV, slotsV_eq r]

theorem enter_ok (hC : CodOk C) {X : Cx} {N0 N : NM} {st0 st : St U} {e0 e : En U} {E : Env} {s : S} {h : Head U} (ht : Turn N0 st0 N st) (hs : SSim C N st s) (he : ESim C N st e E)
    (hb : ∀ k ∈ h.fixed, bdd st0.nl st0.nx (eget e0 k) = true) (hne : ∀ k ∈ h.fixed, eget e k ≠ .any) (hfx : ∀ k ∈ h.fixed, eget e k = eget e0 k) (hno : noneIn h.fixed (h.vars.map (·.1)) = true) {j : denKs (kindsV h.vars) → Option R}
    (hh : (normVars h.vars e st fun e'' st'' => feA (slotsV h.vars e'') fun vs' => getKs C (kindsV h.vars) vs' st'' fun x _ => j x) = some r) :
    ∃ x E2 s2, j x = some r ∧ Gst X E s E2 s2 ∧ HI C N0 h (h.fixed.map fun k => (k, eget e0 k)) x E2 s2 := by
  obtain ⟨N1, e1, st1, E1, s1, q1, q2, q3, q4, q5, q6⟩ := normVars_ok (X := X) hC h.vars hs he hh
  rw [feA_eq] at q1
  obtain ⟨x, st2, rs, p1, p2, p3, p4, p5, p6, p7, p8⟩ := getKs_ok hC (kindsV h.vars) (vs := slotsV h.vars e1) (vs' := h.vars.map fun p => E1.get p.1) q4 (by simp [slotsV_eq]) (fun i x v a b => by
    rw [slotsV_eq, List.getElem?_map] at a
    rw [List.getElem?_map] at b
    cases hv : h.vars[i]? with
    | none => rw [hv] at a; cases a
    | some p =>
      rw [hv] at a b
      injection a with a
      injection b with b
      subst a; subst b
      exact (q5 p.1).1) q1
  refine ⟨x, E1, s1, p1, q2, ⟨rs, p5, p6⟩, fun k hk => ?_⟩
  have h1 : eget e1 k = eget e k := q6 k fun p hp e' => noneIn_spec hno k hk (List.mem_map.2 ⟨p, hp, e'⟩)
  rw [eget_keep, if_pos hk, ← trT_ext C ((ht.trans q3).ext) _ (hb k hk), ← hfx k hk, ← h1]
  exact (q5 k).1.get (by rw [h1]; exact hne k hk)

theorem zipV_ok {N : NM} {E : Env} : ∀ {vars : List (Nat × SK U)} {vs : List (T U)}, vs.map (trT C N) = vars.map (fun p => E.get p.1) → ∀ k, VR C N (eget (zipV vars vs) k) (E.get k)
  | [], vs, h, k => by cases vs <;> exact .inl rfl
  | p :: rest, [], h, k => .inl rfl
  | p :: rest, v :: vs, h, k => by
    simp only [List.map_cons, List.cons.injEq] at h
    simp only [zipV, eget]
    by_cases hp : p.1 = k
    · have : Nat.beq p.1 k = true := by simpa using hp
      simp only [this, cond_true]
      exact .inr (by rw [← hp, h.1])
    · simp only [beq_ne hp, cond_false]
      exact zipV_ok h.2 k
theorem zipV_bdd {nl nx : Nat} : ∀ {vars : List (Nat × SK U)} {vs : List (T U)}, bdds nl nx vs = true → ∀ k, bdd nl nx (eget (zipV vars vs) k) = true
  | [], vs, h, k => by cases vs <;> rfl
  | p :: rest, [], h, k => rfl
  | p :: rest, v :: vs, h, k => by
    simp only [bdds, Bool.and_eq_true] at h
    simp only [zipV, eget]
    by_cases hp : p.1 = k
    · have : Nat.beq p.1 k = true := by simpa using hp
      simp only [this, cond_true]
      exact h.1
    · simp only [beq_ne hp, cond_false]
      exact zipV_bdd h.2 k

theorem SSim.empty (N : NM) (nl nx : Nat) (s : S) : SSim C N (⟨[], [], nl, nx⟩ : St U) s :=
  ⟨fun l b h => by simp [lk] at h, fun l b h => by simp [lk] at h, fun l b h => by simp [lk] at h, fun l l' b b' h => by simp [lk] at h, fun t h => by simp at h, fun t h => by simp at h, fun t h => by simp at h, fun t h => by simp at h⟩

theorem leave_ok (hC : CodOk C) {N0 : NM} {st0 : St U} {e0 : En U} {E : Env} {s : S} {h : Head U} {x : denKs (kindsV h.vars)} (hi : HI C N0 h (h.fixed.map fun k => (k, eget e0 k)) x E s)
    (hb : ∀ k ∈ h.fixed, bdd st0.nl st0.nx (eget e0 k) = true) {K : List (T U) → St U → Option R} (hh : putKs C (kindsV h.vars) x ⟨[], [], st0.nl, st0.nx⟩ K = some r) :
    ∃ N vs st, K vs st = some r ∧ Turn N0 st0 N st ∧ SSim C N st s ∧ ESim C N st ((h.fixed.map fun k => (k, eget e0 k)) ++ zipV h.vars vs) E := by
  obtain ⟨⟨rs, h1, h2⟩, h3⟩ := hi
  obtain ⟨N, vs, st, q1, q2, q3, q4, q5, q6⟩ := putKs_ok hC (kindsV h.vars) x (SSim.empty N0 st0.nl st0.nx s) h1 h2 (fun y hy hh => by
    cases y with
    | inl n => obtain ⟨t, ht, _⟩ := hh; simp at ht
    | inr b => obtain ⟨l, b, hl, _⟩ := hh; simp [lk] at hl) hh
  have ht : Turn N0 st0 N st := ⟨q2.ext, q2.nl, q2.nx⟩
  refine ⟨N, vs, st, q1, ht, q3, fun k => ?_⟩
  rw [eget_append]
  split
  · rename_i hk
    have hk' : k ∈ h.fixed := by
      obtain ⟨p, hp, rfl⟩ := List.mem_map.1 hk
      obtain ⟨k', hk', rfl⟩ := List.mem_map.1 hp
      exact hk'
    have h4 := h3 k hk'
    rw [eget_keep, if_pos hk'] at h4 ⊢
    exact ⟨.inr (by rw [h4, trT_ext C ht.ext _ (hb k hk')]), bdd_mono ht.nl ht.nx _ (hb k hk')⟩
  · exact ⟨zipV_ok q4 k, zipV_bdd q5 k⟩

/-- Slots that are not among these are as they were, or unknown. -/
def Fr (ds : List Nat) (e e' : En U) : Prop := ∀ j, j ∉ ds → eget e' j = eget e j ∨ eget e' j = .any

theorem Fr.refl (ds : List Nat) (e : En U) : Fr ds e e := fun _ _ => .inl rfl
theorem Fr.trans {ds : List Nat} {e e1 e2 : En U} (h : Fr ds e e1) (h' : Fr ds e1 e2) : Fr ds e e2 := fun j hj => by
  rcases h' j hj with q | q
  · rw [q]; exact h j hj
  · exact .inr q
theorem Fr.mono {ds ds' : List Nat} {e e' : En U} (h : Fr ds e e') (hd : ∀ j ∈ ds, j ∈ ds') : Fr ds' e e' := fun j hj => h j fun hh => hj (hd j hh)

/-- What has to hold of code's regions. -/
def codeOk (L : Pol) (n : Nat) : Code → Bool
  | .region _ ops d => dstsIn n ops.toList && (!d || (Region.lexB .any ops && drawOk L ops.toList))
  | .seq a b => codeOk L n a && codeOk L n b
  | .cond _ a b => codeOk L n a && codeOk L n b
  | .block _ b => codeOk L n b
  | .loop b => codeOk L n b
  | _ => true

theorem zip_any {h : Head U} {e0 : En U} {vs : List (T U)} {k : Nat} (hv : k ∉ h.vars.map (·.1)) : eget ((h.fixed.map fun k => (k, eget e0 k)) ++ zipV h.vars vs) k = eget e0 k ∨ eget ((h.fixed.map fun k => (k, eget e0 k)) ++ zipV h.vars vs) k = .any := by
  rw [eget_append]
  split
  · rename_i hk
    have hk' : k ∈ h.fixed := by
      obtain ⟨p, hp, rfl⟩ := List.mem_map.1 hk
      obtain ⟨k', hk', rfl⟩ := List.mem_map.1 hp
      exact hk'
    rw [eget_keep, if_pos hk']
    exact .inl rfl
  · right
    have : ∀ (vars : List (Nat × SK U)) (vs : List (T U)), k ∉ vars.map (·.1) → eget (zipV vars vs) k = .any := fun vars => by
      induction vars with
      | nil => intro vs _; cases vs <;> rfl
      | cons p rest ih =>
        intro vs hv
        simp only [List.map_cons, List.mem_cons, not_or] at hv
        cases vs with
        | nil => rfl
        | cons v vs =>
          simp only [zipV, eget, beq_ne (fun e => hv.1 e.symm), cond_false]
          exact ih vs hv.2
    exact this _ _ hv

theorem told_ok {N : NM} {st : St U} {e : En U} {E : Env} (he : ESim C N st e E) {c : Operand} {t : Bool} (ht : evT e c = .bool t) : ESim C N st (told e c t) E ∧ ∀ j, eget (told e c t) j = eget e j := by
  cases c with
  | tmp d =>
    have h : ∀ j, eget (told e (.tmp d) t) j = eget e j := fun j => by
      simp only [told, eput, eget]
      by_cases hj : d = j
      · subst hj
        have : Nat.beq d d = true := by simp
        simp only [this, cond_true]
        exact ht.symm
      · simp only [beq_ne hj, cond_false]
    exact ⟨fun j => by rw [h j]; exact he j, h⟩
  | const v => exact ⟨he, fun _ => rfl⟩
  | global g => exact ⟨he, fun _ => rfl⟩
  | func f => exact ⟨he, fun _ => rfl⟩

theorem run_ok (hT : TbOk C P Tb) (hC : CodOk C) (hm : P.follows .mixedOrders = true) {X : Cx} {pf : FuncId → Bool} {fi : FI U} {call : Call U R} (hcall : CallOk C P ⟨pf, fi.wr, fi.own⟩ call r) {fu : Nat} :
    ∀ (c : Code) {N : NM} {e : En U} {st : St U} {E : Env} {s : S} {k : Exit → En U → St U → Option R} {Q : Exit → Env → S → Prop}, SSim C N st s → ESim C N st e E → drun C Tb fu call fi c e st k = some r → codeOk ⟨pf, fi.wr, fi.own⟩ X.N c = true → headOk fi c = true →
      (∀ ex N' e' st' E' s', k ex e' st' = some r → Turn N st N' st' → SSim C N' st' s' → ESim C N' st' e' E' → Fr (dsts fi c) e e' → Q ex E' s') → awp P X c Q E s
  | .skip, N, e, st, E, s, k, Q, hs, he, h, _, _, hK => awp_skip (hK _ _ _ _ _ _ h (.refl _ _) hs he (.refl _ _))
  | .exit id, N, e, st, E, s, k, Q, hs, he, h, _, _, hK => awp_exit (hK _ _ _ _ _ _ h (.refl _ _) hs he (.refl _ _))
  | .ret, N, e, st, E, s, k, Q, hs, he, h, _, _, hK => awp_ret (hK _ _ _ _ _ _ h (.refl _ _) hs he (.refl _ _))
  | .region id ops d, N, e, st, E, s, k, Q, hs, he, h, hok, _, hK => by
    simp only [drun] at h
    simp only [codeOk, Bool.and_eq_true] at hok
    obtain ⟨ops⟩ := ops
    have key : ∀ KP, AL P ⟨pf, fi.wr, fi.own⟩ (ops.map (·.dst)) KP ops (fun E' s' => Q .normal (keepE (fi.kf id) E') s') E s := fun KP => by
      refine dops_ok (L := ⟨pf, fi.wr, fi.own⟩) hT hC hcall hs he h ?_
      intro N' e' st' E' s' h1 h2 h3 h4 h5
      simp only [keepK_eq] at h1
      refine hK _ _ _ _ _ _ h1 h2 h3 (h4.keep _) fun j hj => ?_
      rw [eget_keep]
      split
      · exact .inl (h5 j hj)
      · exact .inr rfl
    cases d with
    | false => exact awp_reg ⟨pf, fi.wr, fi.own⟩ fi.kf _ rfl hok.1 (key _)
    | true =>
      have h2 := hok.2
      simp only [Bool.not_true, Bool.false_or, Bool.and_eq_true] at h2
      exact awp_draw ⟨pf, fi.wr, fi.own⟩ hm fi.kf _ rfl hok.1 h2.1 h2.2 (key _)
  | .seq a b, N, e, st, E, s, k, Q, hs, he, h, hok, hho, hK => by
    simp only [drun] at h
    simp only [codeOk, Bool.and_eq_true] at hok
    simp only [headOk, Bool.and_eq_true] at hho
    refine awp_seq ?_
    split at h
    · rename_i hj
      refine run_ok hT hC hm hcall a hs he h hok.1 hho.2.1 ?_
      intro ex N' e' st' E' s' h1 h2 h3 h4 h5
      have h5' : Fr (dsts fi (.seq a b)) e e' := h5.mono fun j hj => by simp only [dsts]; simp [hj]
      cases ex <;> simp only at h1 <;> first | exact hK _ _ _ _ _ _ h1 h2 h3 h4 h5' | skip
      show awp P X b Q E' s'
      refine run_ok hT hC hm hcall b h3 h4 h1 hok.2 hho.2.2 ?_
      intro ex N2 e2 st2 E2 s2 q1 q2 q3 q4 q5
      exact hK _ _ _ _ _ _ q1 (h2.trans q2) q3 q4 (h5'.trans (q5.mono fun j hj => by simp only [dsts]; simp [hj]))
    · rename_i hd hj
      have h1 := hho.1
      rw [hj] at h1
      simp only at h1
      rw [keepK_eq] at h
      obtain ⟨h3, h4⟩ := bif_some h
      clear h
      unfold joinC at h4
      have hin := noneIn_spec h1
      have hbd : ∀ k ∈ hd.fixed, bdd st.nl st.nx (eget e k) = true := fun k _ => (he k).2
      refine run_ok hT hC hm hcall a hs he h4 hok.1 hho.2.1 ?_
      intro ex N' e' st' E' s' h5 h6 h7 h8 h9
      have h9' : Fr (dsts fi (.seq a b)) e e' := h9.mono fun j hj => by simp only [dsts]; simp [hj]
      cases ex <;> simp only at h5 <;> first | exact hK _ _ _ _ _ _ h5 h6 h7 h8 h9' | skip
      show awp P X b Q E' s'
      obtain ⟨h10, h11⟩ := bif_some h5
      have hne := allThere_spec h10
      obtain ⟨x, E2, s2, q1, q2, q3⟩ := enter_ok (X := X) (N0 := N) (st0 := st) (e0 := e) (h := hd) hC h6 h7 h8 hbd hne (fun k hk => by
        rcases h9 k (fun hh => hin k hk (by simp [hh])) with q | q
        · exact q
        · exact absurd q (hne k hk)) (noneIn_left h1) h11
      refine awp_gst q2 ?_
      obtain ⟨N2, vs, st2, p1, p2, p3, p4⟩ := leave_ok hC q3 hbd q1
      rw [feE_eq] at p1
      refine run_ok hT hC hm hcall b p3 p4 p1 hok.2 hho.2.2 ?_
      intro ex N3 e3 st3 E3 s3 r1 r2 r3 r4 r5
      refine hK _ _ _ _ _ _ r1 (p2.trans r2) r3 r4 fun j hj' => ?_
      have hv : j ∉ hd.vars.map (·.1) := fun hh => hj' (by simp only [dsts, hj]; simp only [List.mem_append]; exact .inr (.inl hh))
      rcases r5 j (fun hh => hj' (by simp only [dsts]; simp [hh])) with q | q
      · rw [q]; exact zip_any hv
      · exact .inr q
  | .cond c a b, N, e, st, E, s, k, Q, hs, he, h, hok, hho, hK => by
    simp only [drun] at h
    simp only [codeOk, Bool.and_eq_true] at hok
    simp only [headOk, Bool.and_eq_true] at hho
    split at h
    · rename_i t ht
      have h1 := he.ev c
      rw [ht] at h1
      refine awp_cond (h1.get (by simp)) (fun e1 => ?_) (fun e1 => ?_)
      · subst e1
        obtain ⟨t1, t2⟩ := told_ok he ht
        exact run_ok hT hC hm hcall a hs t1 h hok.1 hho.1 fun ex N' e' st' E' s' q1 q2 q3 q4 q5 => hK _ _ _ _ _ _ q1 q2 q3 q4 fun j hj => by
          rw [← t2 j]
          exact (q5.mono fun j hj => by simp only [dsts]; simp [hj]) j hj
      · subst e1
        obtain ⟨t1, t2⟩ := told_ok he ht
        exact run_ok hT hC hm hcall b hs t1 h hok.2 hho.2 fun ex N' e' st' E' s' q1 q2 q3 q4 q5 => hK _ _ _ _ _ _ q1 q2 q3 q4 fun j hj => by
          rw [← t2 j]
          exact (q5.mono fun j hj => by simp only [dsts]; simp [hj]) j hj
    · cases h
  | .block id b, N, e, st, E, s, k, Q, hs, he, h, hok, hho, hK => by
    simp only [drun] at h
    refine awp_block (run_ok hT hC hm hcall b hs he h (by simpa only [codeOk] using hok) (by simpa only [headOk] using hho) ?_)
    intro ex N' e' st' E' s' q1 q2 q3 q4 q5
    cases ex <;> simp only at q1 <;> first | exact hK _ _ _ _ _ _ q1 q2 q3 q4 q5 | skip
    rename_i id'
    simp only [blockE]
    by_cases e1 : id' = id
    · have : Nat.beq id' id = true := by simpa using e1
      rw [if_pos e1]
      simp only [this, cond_true] at q1
      exact hK _ _ _ _ _ _ q1 q2 q3 q4 q5
    · rw [if_neg e1]
      simp only [beq_ne e1, cond_false] at q1
      exact hK _ _ _ _ _ _ q1 q2 q3 q4 q5
  | .loop b, N, e, st, E, s, k, Q, hs, he, h, hok, hho, hK => by
    simp only [drun] at h
    simp only [codeOk] at hok
    simp only [headOk, Bool.and_eq_true] at hho
    split at h
    · cases h
    · rename_i hd hj
      have h1 := hho.1
      rw [hj] at h1
      simp only at h1
      rw [keepK_eq] at h
      obtain ⟨h3, h4⟩ := bif_some h
      clear h
      have hin := noneIn_spec h1
      have hbd : ∀ k ∈ hd.fixed, bdd st.nl st.nx (eget e k) = true := fun k _ => (he k).2
      have hne0 : ∀ k ∈ hd.fixed, eget e k ≠ .any := fun k hk => by
        have := allThere_spec h3 k hk
        rwa [eget_keep, if_pos hk] at this
      have hno : noneIn hd.fixed (hd.vars.map (·.1)) = true := noneIn_left h1
      obtain ⟨x, E2, s2, q1, q2, q3⟩ := enter_ok (X := X) (N0 := N) (st0 := st) (e0 := e) (h := hd) hC (.refl _ _) hs he hbd hne0 (fun _ _ => rfl) hno h4
      generalize hF : (fun (rec : denKs (kindsV hd.vars) → Option R) (x : denKs (kindsV hd.vars)) => putKs C (kindsV hd.vars) x ⟨[], [], st.nl, st.nx⟩ fun vs st2 =>
            feE ((hd.fixed.map fun k => (k, eget e k)) ++ zipV hd.vars vs) fun e0 => drun C Tb fu call fi b e0 st2 fun ex e' st' => match ex with
              | .normal => bif allThere hd.fixed e' then normVars hd.vars e' st' fun e'' st'' => feA (slotsV hd.vars e'') fun vs' => getKs C (kindsV hd.vars) vs' st'' fun x _ => rec x else none
              | ex => k ex e' st') = F at q1
      refine awp_loopG (fun (p : Nat × denKs (kindsV hd.vars)) E' s' => HI C N hd (hd.fixed.map fun k => (k, eget e k)) p.2 E' s' ∧ iter p.1 F p.2 = some r) (fun p => p.1) (x₀ := (fu, x)) ⟨q3, q1⟩ q2 ?_
      rintro ⟨n, x1⟩ E1 s1 ⟨hi, hr⟩
      simp only at hi hr
      cases n with
      | zero => simp [iter] at hr
      | succ n =>
        simp only [iter] at hr
        rw [← hF] at hr
        obtain ⟨N2, vs, st2, p1, p2, p3, p4⟩ := leave_ok hC hi hbd hr
        rw [feE_eq] at p1
        refine run_ok hT hC hm hcall b p3 p4 p1 hok hho.2 ?_
        intro ex N3 e3 st3 E3 s3 r1 r2 r3 r4 r5
        have hfr : Fr (dsts fi (.loop b)) e e3 := fun j hj' => by
          have hv : j ∉ hd.vars.map (·.1) := fun hh => hj' (by simp only [dsts, hj]; simp only [List.mem_append]; exact .inl hh)
          rcases r5 j (fun hh => hj' (by simp only [dsts]; simp [hh])) with q | q
          · rw [q]; exact zip_any hv
          · exact .inr q
        cases ex <;> simp only at r1 <;> first | exact hK _ _ _ _ _ _ r1 (p2.trans r2) r3 r4 hfr | skip
        obtain ⟨t1, t2⟩ := bif_some r1
        have hne := allThere_spec t1
        obtain ⟨x3, E4, s4, u1, u2, u3⟩ := enter_ok (X := X) (N0 := N) (st0 := st) (e0 := e) (h := hd) hC (p2.trans r2) r3 r4 hbd hne (fun k hk => by
          rcases r5 k (fun hh => hin k hk (by simp [hh])) with q | q
          · rw [q, eget_append, if_pos (by simp [hk]), eget_keep, if_pos hk]
          · exact absurd q (hne k hk)) hno t2
        show ∃ x' E2 s2, _ ∧ _ ∧ _
        exact ⟨(n, x3), E4, s4, ⟨u3, by rw [hF] at u1; exact u1⟩, Nat.lt_succ_self _, u2⟩
  | .rangeFunc _ _ _ _, N, e, st, E, s, k, Q, hs, he, h, _, _, _ => by simp [drun] at h
  | .scope _, N, e, st, E, s, k, Q, hs, he, h, _, _, _ => by simp [drun] at h
  | .label _, N, e, st, E, s, k, Q, hs, he, h, _, _, _ => by simp [drun] at h
  | .goto _, N, e, st, E, s, k, Q, hs, he, h, _, _, _ => by simp [drun] at h
  | .refuse _, N, e, st, E, s, k, Q, hs, he, h, _, _, _ => by simp [drun] at h

end
end Go.Den
