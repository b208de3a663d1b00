/-
  DEN, part 7: what a loop carries, read out of a store; what is known is brought into its form. General: no program in sight.
-/
import Derived.Test.YtdedkemkmccliaaD6
set_option linter.unusedVariables false
set_option linter.unusedSimpArgs false
namespace Go.Den
open Go.Al

section
variable {U : TyU} {C : Cod U} {R : Type}

/-- Without a place. -/
theorem SSim.less {N : NM} {st : St U} {s : S} (hs : SSim C N st s) (l0 : Nat) : SSim C N ⟨(l0, none) :: st.bx, st.tg, st.nl, st.nx⟩ s := by
  have key : ∀ l b, lk ((l0, none) :: st.bx) l = some b → lk st.bx l = some b := fun l b hl => by
    rw [lk_cons] at hl
    by_cases e : l0 = l
    · rw [if_pos e] at hl; cases hl
    · rw [if_neg e] at hl; exact hl
  exact ⟨fun l b hl => hs.box l b (key l b hl), fun l b hl => hs.lt l b (key l b hl), fun l b hl => hs.wf l b (key l b hl), fun l l' b b' h1 h2 he => hs.inj l l' b b' (key l b h1) (key l' b' h2) he, hs.tgIn, hs.tgInj, hs.tgLt, hs.nm⟩
theorem SSim.lessT {N : NM} {st : St U} {s : S} (hs : SSim C N st s) (t : Nat) : SSim C N ⟨st.bx, rmN st.tg t, st.nl, st.nx⟩ s :=
  ⟨hs.box, hs.lt, hs.wf, hs.inj, fun t ht => hs.tgIn t (rmN_mem ht).1, fun t ht t' ht' => hs.tgInj t (rmN_mem ht).1 t' (rmN_mem ht').1, fun t ht => hs.tgLt t (rmN_mem ht).1, fun t ht => hs.nm t (rmN_mem ht).1⟩

theorem has_less {N : NM} {st : St U} {l0 : Nat} {y : Res} (h : Has N ⟨(l0, none) :: st.bx, st.tg, st.nl, st.nx⟩ y) : Has N st y := by
  cases y with
  | inl n => exact h
  | inr b =>
    obtain ⟨l, x, hl, he⟩ := h
    have hl' : lk ((l0, none) :: st.bx) l = some x := hl
    rw [lk_cons] at hl'
    by_cases e : l0 = l
    · rw [if_pos e] at hl'; cases hl'
    · rw [if_neg e] at hl'; exact ⟨l, x, hl', he⟩
theorem has_gone {N : NM} {st : St U} {s : S} (hs : SSim C N st s) {l0 : Nat} {x0 : Bx U} (h0 : lk st.bx l0 = some x0) : ¬ Has N ⟨(l0, none) :: st.bx, st.tg, st.nl, st.nx⟩ (.inr (N.bl l0)) := by
  rintro ⟨l, x, hl, he⟩
  have hl' : lk ((l0, none) :: st.bx) l = some x := hl
  rw [lk_cons] at hl'
  by_cases e : l0 = l
  · rw [if_pos e] at hl'; cases hl'
  · rw [if_neg e] at hl'; exact e (hs.inj l0 l x0 x h0 hl' he.symm)
theorem has_lessT {N : NM} {st : St U} {t : Nat} {y : Res} (h : Has N ⟨st.bx, rmN st.tg t, st.nl, st.nx⟩ y) : Has N st y := by
  cases y with
  | inl n => obtain ⟨t', ht, he⟩ := h; exact ⟨t', (rmN_mem ht).1, he⟩
  | inr b => exact h
theorem has_goneT {N : NM} {st : St U} {s : S} (hs : SSim C N st s) {t : Nat} (h0 : t ∈ st.tg) : ¬ Has N ⟨st.bx, rmN st.tg t, st.nl, st.nx⟩ (.inl (N.tk t)) := by
  rintro ⟨t', ht, he⟩
  obtain ⟨h1, h2⟩ := rmN_mem ht
  exact h2 (hs.tgInj t' h1 t h0 he)

theorem exact1_tr {N : NM} {x : T U} (h : exact1 x = true) : untag1 (trT C N x) = trT C N x := by
  cases x with
  | lst m i xs =>
    cases m with
    | b n => cases n <;> rfl
    | dl => simp only [trT, trM]; exact untag1_tagOf _
    | ow t nb => simp [exact1] at h
  | _ => rfl
theorem exactT_tr {N : NM} {x : T U} (h : exactT x = true) : (trT C N x).untag = trT C N x := by
  cases x with
  | agg fs =>
    simp only [exactT, List.all_eq_true] at h
    simp only [trT, trTs_map, V.untag, List.map_map]
    congr 1
    exact List.map_congr_left fun x hx => exact1_tr (h x hx)
  | lst m i xs => exact exact1_tr (x := .lst m i xs) h
  | _ => rfl

theorem beqB_eq {a b : Bool} (h : beqB a b = true) : a = b := by simpa [beqB] using h

mutual
/-- READ OUT. -/
theorem getK_ok (hC : CodOk C) {r : R} : ∀ (k : SK U) {N : NM} {st : St U} {s : S} {v : T U} {v' : V} {K : denK k → St U → Option R}, SSim C N st s → VR C N v v' → getK C k v st K = some r →
    ∃ x st' rs, K x st' = some r ∧ SSim C N st' s ∧ st'.nl = st.nl ∧ st'.nx = st.nx ∧ VK C s k x v' rs ∧ rs.Nodup ∧ (∀ y ∈ rs, Has N st y ∧ ¬ Has N st' y) ∧ (∀ y, Has N st' y → Has N st y)
  | .int k, N, st, s, v, v', K, hs, hv, h => by
    simp only [getK] at h
    split at h
    · obtain ⟨h1, h2⟩ := bif_some h
      simp only [decide_eq_true_eq] at h1
      subst h1
      exact ⟨_, st, [], h2, hs, rfl, rfl, by simp only [VK]; exact ⟨hv.get (by simp), trivial⟩, List.nodup_nil, (by simp), fun y hy => hy⟩
    · cases h
  | .bool, N, st, s, v, v', K, hs, hv, h => by
    simp only [getK] at h
    split at h
    · exact ⟨_, st, [], h, hs, rfl, rfl, by simp only [VK]; exact ⟨hv.get (by simp), trivial⟩, List.nodup_nil, (by simp), fun y hy => hy⟩
    · cases h
  | .str, N, st, s, v, v', K, hs, hv, h => by
    simp only [getK] at h
    split at h
    · exact ⟨_, st, [], h, hs, rfl, rfl, by simp only [VK]; exact ⟨hv.get (by simp), trivial⟩, List.nodup_nil, (by simp), fun y hy => hy⟩
    · cases h
  | .dl i, N, st, s, v, v', K, hs, hv, h => by
    simp only [getK] at h
    split at h
    · exact ⟨_, st, [], h, hs, rfl, rfl, by simp only [VK]; exact ⟨hv.get (by simp), trivial⟩, List.nodup_nil, (by simp), fun y hy => hy⟩
    · rename_i m j ys
      have hq := sameC_ok h; clear h; obtain ⟨rfl, h⟩ := hq
      simp only [castL] at h
      split at h
      · exact ⟨_, st, [], h, hs, rfl, rfl, by simp only [VK]; exact ⟨hv.get (by simp), trivial⟩, List.nodup_nil, (by simp), fun y hy => hy⟩
      · rename_i n
        obtain ⟨h1, h2⟩ := bif_some h
        refine ⟨_, st, [], h2, hs, rfl, rfl, ?_, List.nodup_nil, (by simp), fun y hy => hy⟩
        simp only [VK]
        refine ⟨(hv.get (by simp)).trans ?_, trivial⟩
        simp only [trT, trM]
        cases n <;> cases ys <;> simp at h1 <;> rfl
      · cases h
    · cases h
  | .bl i, N, st, s, v, v', K, hs, hv, h => by
    simp only [getK] at h
    split at h
    · exact ⟨_, st, [], h, hs, rfl, rfl, by simp only [VK]; exact ⟨hv.get (by simp), trivial⟩, List.nodup_nil, (by simp), fun y hy => hy⟩
    · rename_i m j ys
      have hq := sameC_ok h; clear h; obtain ⟨rfl, h⟩ := hq
      simp only [castL] at h
      split at h
      · refine ⟨_, st, [], h, hs, rfl, rfl, ?_, List.nodup_nil, (by simp), fun y hy => hy⟩
        simp only [VK]
        refine ⟨(hv.get (by simp)).trans ?_, trivial⟩
        simp only [trT, trM]
        cases ys <;> rfl
      · exact ⟨_, st, [], h, hs, rfl, rfl, by simp only [VK]; exact ⟨hv.get (by simp), trivial⟩, List.nodup_nil, (by simp), fun y hy => hy⟩
      · cases h
    · cases h
  | .ow nb i, N, st, s, v, v', K, hs, hv, h => by
    simp only [getK] at h
    split at h
    · rename_i m j ys
      have hq := sameC_ok h; clear h; obtain ⟨rfl, h⟩ := hq
      simp only [castL] at h
      split at h
      · rename_i t nb'
        obtain ⟨h1, h2⟩ := bif_some h
        simp only [Bool.and_eq_true] at h1
        have hnb := beqB_eq h1.1
        subst hnb
        have hm := hasN_mem h1.2
        refine ⟨_, _, [.inl (N.tk t)], h2, hs.lessT t, rfl, rfl, ?_, by simp, ?_, fun y hy => has_lessT hy⟩
        · simp only [VK]
          exact ⟨_, hv.get (by simp), hs.tgIn t hm, hs.nm t hm, rfl⟩
        · intro y hy
          simp only [List.mem_singleton] at hy
          subst hy
          exact ⟨⟨t, hm, rfl⟩, has_goneT hs hm⟩
      · cases h
    · cases h
  | .arr i, N, st, s, v, v', K, hs, hv, h => by
    simp only [getK] at h
    split at h
    · exact ⟨_, st, [], h, hs, rfl, rfl, by simp only [VK]; exact ⟨hv.get (by simp), trivial⟩, List.nodup_nil, (by simp), fun y hy => hy⟩
    · rename_i l n
      split at h
      · rename_i j ys hl
        have hq := sameC_ok h; clear h; obtain ⟨rfl, h⟩ := hq
        simp only [castL] at h
        obtain ⟨h1, h2⟩ := bif_some h
        simp only [eqN, Nat.beq_eq] at h1
        have hw := hs.wf l _ hl
        refine ⟨_, _, [.inr (N.bl l)], h2, hs.less l, rfl, rfl, ?_, by simp, ?_, fun y hy => has_less hy⟩
        · simp only [VK]
          exact ⟨N.bl l, N.cp l, by rw [hv.get (by simp)]; simp only [trT, h1], hw.2, by rw [hs.box l _ hl]; rfl, rfl⟩
        · intro y hy
          simp only [List.mem_singleton] at hy
          subst hy
          exact ⟨⟨l, _, hl, rfl⟩, has_gone hs hl⟩
      · cases h
    · cases h
  | .box cs, N, st, s, v, v', K, hs, hv, h => by
    simp only [getK] at h
    split at h
    · rename_i l o
      obtain ⟨h1, h2⟩ := bif_some h
      clear h
      simp only [Nat.beq_eq] at h1
      subst h1
      split at h2
      · rename_i vs hl
        rw [feS_eq] at h2
        obtain ⟨x, st', rs, q1, q2, q3, q4, q5, q6, q7, q8⟩ := getKs_ok hC cs (vs := vs) (vs' := vs.map (trT C N)) (hs.less l) (by simp) (fun j x v a b => by
          rw [List.getElem?_map, a] at b
          injection b with b
          exact .inr b.symm) h2
        have hbox := hs.box l _ hl
        refine ⟨x, st', .inr (N.bl l) :: rs, q1, q2, q3, q4, ?_, ?_, ?_, fun y hy => has_less (q8 y hy)⟩
        · simp only [VK]
          exact ⟨N.bl l, vs.map (trT C N), rs, hv.get (by simp), by rw [hbox]; simp [trB], q5, rfl⟩
        · exact List.nodup_cons.2 ⟨fun hh => has_gone hs hl (q7 _ hh).1, q6⟩
        · intro y hy
          rcases List.mem_cons.1 hy with rfl | hy
          · exact ⟨⟨l, _, hl, rfl⟩, fun hh => has_gone hs hl (q8 _ hh)⟩
          · exact ⟨has_less (q7 y hy).1, (q7 y hy).2⟩
      · cases h2
    · cases h
  | .st i, N, st, s, v, v', K, hs, hv, h => by
    simp only [getK] at h
    obtain ⟨h1, h2⟩ := bif_some h
    obtain ⟨x, h3, h4⟩ := hC.dec i _ _ _ h2
    refine ⟨x, st, [], h3, hs, rfl, rfl, ?_, List.nodup_nil, (by simp), fun y hy => hy⟩
    simp only [VK]
    have hne : v ≠ .any := fun e => by
      subst e
      have := h4 N
      have h5 := hC.size i x
      have h6 := hC.ones i x
      simp only [trT, V.untag, untag1] at this
      rw [← this] at h6
      simp [allOne, V.flat, V.isOne] at h6
    exact ⟨by rw [hv.get hne, ← h4 N, exactT_tr h1], trivial⟩
theorem getKs_ok (hC : CodOk C) {r : R} : ∀ (l : List (SK U)) {N : NM} {st : St U} {s : S} {vs : List (T U)} {vs' : List V} {K : denKs l → St U → Option R}, SSim C N st s → vs'.length = vs.length → (∀ (j : Nat) (x : T U) (v : V), vs[j]? = some x → vs'[j]? = some v → VR C N x v) → getKs C l vs st K = some r →
    ∃ x st' rs, K x st' = some r ∧ SSim C N st' s ∧ st'.nl = st.nl ∧ st'.nx = st.nx ∧ VKs C s l x vs' rs ∧ rs.Nodup ∧ (∀ y ∈ rs, Has N st y ∧ ¬ Has N st' y) ∧ (∀ y, Has N st' y → Has N st y)
  | [], N, st, s, vs, vs', K, hs, hl, hv, h => by
    simp only [getKs] at h
    cases vs with
    | cons _ _ => cases h
    | nil =>
      have : vs' = [] := by cases vs' <;> simp at hl ⊢
      exact ⟨_, st, [], h, hs, rfl, rfl, by simp only [VKs]; exact ⟨this, trivial⟩, List.nodup_nil, (by simp), fun y hy => hy⟩
  | k :: rest, N, st, s, vs, vs', K, hs, hl, hv, h => by
    simp only [getKs, feS_eq] at h
    cases vs with
    | nil => cases h
    | cons v vs =>
      cases vs' with
      | nil => simp at hl
      | cons v' vs' =>
        simp only at h
        obtain ⟨x, st1, r1, q1, q2, q3, q4, q5, q6, q7, q8⟩ := getK_ok hC k hs (hv 0 v v' rfl rfl) h
        obtain ⟨xs, st2, r2, p1, p2, p3, p4, p5, p6, p7, p8⟩ := getKs_ok hC rest (vs := vs) (vs' := vs') q2 (by simpa using hl) (fun j x v a b => hv (j + 1) x v (by simpa using a) (by simpa using b)) q1
        refine ⟨_, st2, r1 ++ r2, p1, p2, p3.trans q3, p4.trans q4, ?_, ?_, ?_, fun y hy => q8 y (p8 y hy)⟩
        · simp only [VKs]
          exact ⟨v', vs', r1, r2, rfl, rfl, q5, p5⟩
        · refine List.nodup_append.2 ⟨q6, p6, fun a ha b hb e => ?_⟩
          subst e
          exact (q7 a ha).2 (p7 a hb).1
        · intro y hy
          rcases List.mem_append.1 hy with hy | hy
          · exact ⟨(q7 y hy).1, fun hh => (q7 y hy).2 (p8 y hh)⟩
          · exact ⟨q8 y (p7 y hy).1, (p7 y hy).2⟩
end

/- BROUGHT INTO FORM: what is nil and is to grow gets a token; what has been cut is cut. -/
def normCells (l : Nat) : List (SK U) → Nat → St U → (St U → Option R) → Option R
  | [], _, st, K => K st
  | k :: r, j, st, K =>
    match lk st.bx l with
    | some (.st vs) =>
      (match k with
      | .ow nb i => bif nb then (match vs.getD j .any with
        | .nil => feL (vs.set j (.lst (.ow st.nx true) i [])) fun vs' => bif oneAll vs' && bdds st.nl (st.nx + 1) vs' && Nat.blt j vs.length then (feS ⟨(l, some (.st vs')) :: st.bx, st.nx :: st.tg, st.nl, st.nx + 1⟩ fun st' => normCells l r (j + 1) st' K) else none
        | _ => normCells l r (j + 1) st K) else normCells l r (j + 1) st K
      | .arr _ => (match vs.getD j .any with
        | .sl l2 n => (match lk st.bx l2 with
          | some (.ar i' xs) => (feS ⟨(l2, some (.ar i' (takeL n xs))) :: st.bx, st.tg, st.nl, st.nx⟩ fun st' => normCells l r (j + 1) st' K)
          | _ => normCells l r (j + 1) st K)
        | _ => normCells l r (j + 1) st K)
      | _ => normCells l r (j + 1) st K)
    | _ => none

def normVars : List (Nat × SK U) → En U → St U → (En U → St U → Option R) → Option R
  | [], e, st, K => K e st
  | p :: r, e, st, K =>
    match p.2 with
    | .ow nb i => bif nb then (match eget e p.1 with
      | .nil => feS ⟨st.bx, st.nx :: st.tg, st.nl, st.nx + 1⟩ fun st' => normVars r ((p.1, .lst (.ow st.nx true) i []) :: e) st' K
      | _ => normVars r e st K) else normVars r e st K
    | .arr _ => (match eget e p.1 with
      | .sl l n => (match lk st.bx l with
        | some (.ar i' xs) => feS ⟨(l, some (.ar i' (takeL n xs))) :: st.bx, st.tg, st.nl, st.nx⟩ fun st' => normVars r e st' K
        | _ => normVars r e st K)
      | _ => normVars r e st K)
    | .box cs => (match eget e p.1 with
      | .ptr l _ => normCells l cs 0 st fun st' => feS st' fun st' => normVars r e st' K
      | _ => normVars r e st K)
    | _ => normVars r e st K

/-- What is known turns along with the ghost. -/
theorem trunc_ok (hC : CodOk C) {X : Cx} {N : NM} {st : St U} {s : S} (hs : SSim C N st s) {E : Env} {l n : Nat} {i : U.I} {xs : List (U.den i)} (hl : lk st.bx l = some (.ar i xs)) :
    ∃ s', Gst X E s E s' ∧ SSim C N ⟨(l, some (.ar i (takeL n xs))) :: st.bx, st.tg, st.nl, st.nx⟩ s' := by
  have hw := hs.wf l _ hl
  have h1 := hs.setBox (b1 := .ar i (takeL n xs)) hl ⟨hw.1, by unfold takeL; rw [List.length_take]; have := hw.2; omega⟩
  refine ⟨_, ?_, h1⟩
  simp only [trB, takeL, ← flats_take hC]
  exact gst_trunc _ _ (hs.box l _ hl)

/-- The same with new tokens: those that are there, and what is known of them, stay. -/
theorem mkown_ok (hC : CodOk C) {X : Cx} {N : NM} {st : St U} {s : S} (hs : SSim C N st s) {e : En U} {E : Env} (he : ESim C N st e E) (k : Nat) (i : U.I) (hk : eget e k = .nil) :
    ∃ N' E' s', Gst X E s E' s' ∧ Turn N st N' ⟨st.bx, st.nx :: st.tg, st.nl, st.nx + 1⟩ ∧ SSim C N' ⟨st.bx, st.nx :: st.tg, st.nl, st.nx + 1⟩ s' ∧ ESim C N' ⟨st.bx, st.nx :: st.tg, st.nl, st.nx + 1⟩ (eput e (some k) (.lst (.ow st.nx true) i [])) E' := by
  have h1 := (he k).1
  rw [hk] at h1
  have h2 : E.get k = .lst .nil [] := h1.get (by simp)
  have ht : Turn N st (N.tok st.nx s.nx) ⟨st.bx, st.nx :: st.tg, st.nl, st.nx + 1⟩ := ⟨N.ext_tok st.nl st.nx s.nx, Nat.le_refl _, Nat.le_succ _⟩
  refine ⟨N.tok st.nx s.nx, _, _, gst_mkown k (C.cells i) h2, ht, hs.newTok (n := s.nx) (tg := st.tg) (tg' := s.tg) (x := s.nx + 1) (fun _ h => h) hs.tgIn (fun t ht => Nat.ne_of_lt (hs.nm t ht)) (Nat.le_succ _) (Nat.lt_succ_self _), ?_⟩
  refine (he.turn ht).put (.inr ?_) (by simp [bdd, Nat.blt_eq]) (some k)
  have e1 : (N.tok st.nx s.nx).tk st.nx = s.nx := if_pos rfl
  simp [trT, trM, e1]

theorem mkownB_ok (hC : CodOk C) {X : Cx} {N : NM} {st : St U} {s : S} (hs : SSim C N st s) {e : En U} {E : Env} (he : ESim C N st e E) {l j : Nat} {i : U.I} {vs : List (T U)} (hl : lk st.bx l = some (.st vs)) (hj : vs.getD j .any = .nil) (hjl : j < vs.length)
    (h1 : oneAll (vs.set j (.lst (.ow st.nx true) i [])) = true) (h2 : bdds st.nl (st.nx + 1) (vs.set j (.lst (.ow st.nx true) i [])) = true) :
    ∃ N' s', Gst X E s E s' ∧ Turn N st N' ⟨(l, some (.st (vs.set j (.lst (.ow st.nx true) i [])))) :: st.bx, st.nx :: st.tg, st.nl, st.nx + 1⟩ ∧
      SSim C N' ⟨(l, some (.st (vs.set j (.lst (.ow st.nx true) i [])))) :: st.bx, st.nx :: st.tg, st.nl, st.nx + 1⟩ s' ∧ ESim C N' ⟨(l, some (.st (vs.set j (.lst (.ow st.nx true) i [])))) :: st.bx, st.nx :: st.tg, st.nl, st.nx + 1⟩ e E := by
  have hb := hs.box l _ hl
  have hw := hs.wf l _ hl
  have hj' : vs[j]? = some .nil := by
    rw [List.getD_eq_getElem?_getD, List.getElem?_eq_getElem hjl] at hj
    rw [List.getElem?_eq_getElem hjl]
    exact congrArg some hj
  have ht : Turn N st (N.tok st.nx s.nx) ⟨(l, some (.st (vs.set j (.lst (.ow st.nx true) i [])))) :: st.bx, st.nx :: st.tg, st.nl, st.nx + 1⟩ := ⟨N.ext_tok st.nl st.nx s.nx, Nat.le_refl _, Nat.le_succ _⟩
  have hn := hs.newTok (n := s.nx) (tg := st.tg) (tg' := s.tg) (x := s.nx + 1) (fun _ h => h) hs.tgIn (fun t ht => Nat.ne_of_lt (hs.nm t ht)) (Nat.le_succ _) (Nat.lt_succ_self _)
  have hn2 := hn.setBox (l0 := l) (b1 := .st (vs.set j (.lst (.ow st.nx true) i []))) hl ⟨h2, h1⟩
  refine ⟨N.tok st.nx s.nx, _, ?_, ht, hn2, he.turn ht⟩
  have e1 : (N.tok st.nx s.nx).tk st.nx = s.nx := if_pos rfl
  have e2 : (vs.set j (.lst (.ow st.nx true) i [])).map (trT C (N.tok st.nx s.nx)) = (vs.map (trT C N)).set j (.lst (.own s.nx true (C.cells i)) []) := by
    rw [List.map_set, map_tr_ext ht.ext hw.1]
    simp [trT, trM, e1]
  simp only [trB, e2, List.length_set]
  exact gst_mkownB _ j (C.cells i) hb (by rw [List.getElem?_map, hj']; rfl)

end
end Go.Den
