/-
  AL: a region whose order is drawn, and whose last two operations are stores of which neither waits for the other. General: no program in sight.
-/
import Derived.Test.YtegibhjgldpndaaDoorAC
set_option linter.unusedVariables false
set_option linter.unusedSimpArgs false
namespace Go.Al

/-- As drawOk, but for the last two. -/
def drawOk2 (L : Pol) (l : List Oper) : Bool :=
  (List.range l.length).all fun i => (List.range l.length).all fun j =>
    match l[i]?, l[j]? with
    | some oi, some oj => !decide (i < j) || compatO L oi oj || bef l.toArray l.length i j || decide (i + 2 = l.length)
    | _, _ => true

theorem drawOk2_spec {L : Pol} {l : List Oper} (h : drawOk2 L l = true) {i j : Nat} {oi oj : Oper} (hi : l[i]? = some oi) (hj : l[j]? = some oj) (hlt : i < j) (hno : bef l.toArray l.length i j = false) (hn : i + 2 ≠ l.length) :
    compatO L oi oj = true := by
  have h1 := List.all_eq_true.1 h i (List.mem_range.2 (List.getElem?_eq_some_iff.1 hi).1)
  have h2 := List.all_eq_true.1 h1 j (List.mem_range.2 (List.getElem?_eq_some_iff.1 hj).1)
  simpa [hi, hj, hlt, hno, hn] using h2

section
variable {P : Program} {L : Pol} {X : Cx} {ds : List (Option Nat)} {KP : List PanicEntry → S → Prop} {ops : Array Oper}

theorem anyA_lex2 (hds : ds = ops.toList.map (·.dst)) (hd : drawOk2 L ops.toList = true) {K : Env → S → Prop} (hK : Resp K)
    (hsw : ∀ o o', ops[ops.size - 2]? = some o → ops[ops.size - 1]? = some o' → ∀ e st, astep P L ds KP o (astep P L ds KP o' K) e st → astep P L ds KP o' (astep P L ds KP o K) e st) :
    ∀ (l : List Oper) (k : Nat) (listed : Array Bool) (e : Env) (st : S), (∀ j, l[j]? = ops[k + j]?) →
    (∀ j, j < k → listed.getD j true = true) → (left ops listed).length ≤ l.length → k + l.length = ops.size → 2 ≤ l.length → PC ops listed →
    Region.lexFrom .any ops l.length k listed = true → AL P L ds KP l K e st → AnyA P L ds KP ops K l.length listed e st
  | [], _, _, _, _, _, _, _, _, h2, _, _, _ => absurd h2 (by simp)
  | [_], _, _, _, _, _, _, _, _, h2, _, _, _ => absurd h2 (by simp)
  | [o, o'], k, listed, e, st, hl, hbel, hcount, hsz, _, hpc, hB, h => by
    have h0 : ops[k]? = some o := by simpa using (hl 0).symm
    have h1 : ops[k + 1]? = some o' := by simpa using (hl 1).symm
    simp only [List.length_cons, List.length_nil] at hsz hcount hB ⊢
    simp only [Region.lexFrom, Bool.and_eq_true] at hB
    obtain ⟨⟨hr, hf⟩, ⟨hr1, hf1⟩, hB'⟩ := hB
    have hr' : k ∈ Region.ready .any ops listed := by simpa using hr
    have hr1' : k + 1 ∈ Region.ready .any ops (listed.setIfInBounds k true) := by simpa using hr1
    have c1 := left_set (ready_left hr')
    have c2 := left_set (ready_left hr1')
    have only : ∀ i ∈ Region.ready .any ops listed, i = k ∨ i = k + 1 := fun i hi => by
      by_cases e1 : i = k
      · exact .inl e1
      · by_cases e2 : i = k + 1
        · exact .inr e2
        · exfalso
          have h3 := ready_left (ready_mono (ready_mono hi e1) e2)
          have h4 : (left ops ((listed.setIfInBounds k true).setIfInBounds (k + 1) true)).length = 0 := by omega
          rw [List.eq_nil_of_length_eq_zero h4] at h3
          cases h3
    have hs := hsw o o' (by rw [show ops.size - 2 = k from by omega]; exact h0) (by rw [show ops.size - 1 = k + 1 from by omega]; exact h1) e st h
    refine ⟨fun h => (by rw [h] at hr'; cases hr'), fun i hi oi hoi => ?_⟩
    rcases only i hi with rfl | rfl
    · rw [h0] at hoi; injection hoi with hoi; subst hoi
      refine astep_mono (h : astep P L ds KP o (astep P L ds KP o' K) e st) fun e' s q => ⟨fun h => (by rw [h] at hr1'; cases hr1'), fun j hj oj hoj => ?_⟩
      have ej : j = i + 1 := by
        by_cases e2 : j = i + 1
        · exact e2
        · exfalso
          have h3 := ready_left (ready_mono hj e2)
          have h4 : (left ops ((listed.setIfInBounds i true).setIfInBounds (i + 1) true)).length = 0 := by omega
          rw [List.eq_nil_of_length_eq_zero h4] at h3
          cases h3
      subst ej
      rw [h1] at hoj; injection hoj with hoj; subst hoj
      exact astep_mono q fun e'' s'' q' => ⟨by simpa using hB', q'⟩
    · rw [h1] at hoi; injection hoi with hoi; subst hoi
      have hne : k ≠ k + 1 := by omega
      have hk := ready_mono hr' hne
      refine astep_mono hs fun e' s q => ⟨fun h => (by rw [h] at hk; cases hk), fun j hj oj hoj => ?_⟩
      have hcm : (listed.setIfInBounds (k + 1) true).setIfInBounds k true = (listed.setIfInBounds k true).setIfInBounds (k + 1) true := Array.setIfInBounds_comm _ _ (Ne.symm hne)
      have ej : j = k := by
        by_cases e2 : j = k
        · exact e2
        · exfalso
          have h3 := ready_left (ready_mono hj e2)
          have h4 : (left ops ((listed.setIfInBounds k true).setIfInBounds (k + 1) true)).length = 0 := by omega
          rw [hcm, List.eq_nil_of_length_eq_zero h4] at h3
          cases h3
      subst ej
      rw [h0] at hoj; injection hoj with hoj; subst hoj
      exact astep_mono q fun e'' s'' q' => ⟨by rw [hcm]; simpa using hB', q'⟩
  | o :: o1 :: o2 :: l, k, listed, e, st, hl, hbel, hcount, hsz, _, hpc, hB, h => by
    have h0 : ops[k]? = some o := by simpa using (hl 0).symm
    rw [show (o :: o1 :: o2 :: l).length = (o1 :: o2 :: l).length + 1 from rfl] at hB hcount hsz ⊢
    simp only [Region.lexFrom, Bool.and_eq_true] at hB
    obtain ⟨⟨hr, hf⟩, hB'⟩ := hB
    have hr' : k ∈ Region.ready .any ops listed := by simpa using hr
    refine anyA_first hds hK h0 (o1 :: o2 :: l).length listed e st hcount ?_ hpc hr' ?_
    · intro j oj hj hne hun hno hbf
      refine ⟨Region.free_spec h0 hf j oj hj hne hun hno, drawOk2_spec hd (by simpa using h0) (by simpa using hj) ?_ (by simpa using hbf) (by simp only [List.length_cons, Array.length_toList] at hsz ⊢; omega)⟩
      rcases Nat.lt_or_ge k j with h1 | h1
      · exact h1
      · have := hbel j (by omega)
        rw [this] at hun; cases hun
    · refine astep_mono (h : astep P L ds KP o (AL P L ds KP (o1 :: o2 :: l) K) e st) fun e' s q => ?_
      refine anyA_lex2 hds hd hK hsw (o1 :: o2 :: l) (k + 1) _ e' s (fun j => by have := hl (j + 1); simpa [Nat.add_assoc, Nat.add_comm 1 j] using this) (fun j hj => ?_) (by have := left_set (ready_left hr'); omega) (by omega) (by simp) (PC_set hr' hpc) hB' q
      by_cases e1 : j = k
      · subst e1
        rcases Nat.lt_or_ge j listed.size with h' | h'
        · simp [h']
        · simp [Array.getElem?_eq_none h']
      · rw [getD_set_ne true (Ne.symm e1)]; exact hbel j (by omega)

end

theorem lay_comm {b b' : Nat} (hne : b ≠ b') {x x' : List V × Nat} : ∀ {l : List (Nat × List V × Nat)} {c c' : List V × Nat}, look l b = some c → look l b' = some c' → lay (lay l b x) b' x' = lay (lay l b' x') b x
  | [], _, _, h, _ => by cases h
  | (k, d) :: r, c, c', h, h' => by
    by_cases e1 : k = b
    · subst e1
      have e2 : ¬ k = b' := hne
      simp [lay, e2]
    · by_cases e2 : k = b'
      · subst e2
        simp [lay, e1]
      · simp only [look, e1, e2, if_false] at h h'
        simp only [lay, e1, e2, if_false]
        rw [lay_comm hne h h']

/-- The addresses of two stores lie in two boxes. -/
def Sep (x x' : Operand) (e : Env) : Prop := ∃ b o b' o', e.ev x = .at (.pointer (some ⟨b, o, none⟩)) ∧ e.ev x' = .at (.pointer (some ⟨b', o', none⟩)) ∧ b ≠ b'

theorem store_swap {P : Program} {L : Pol} {ds : List (Option Nat)} {KP : List PanicEntry → S → Prop} {t t' : TypeId} {x y x' y' : Operand} {ty ty' : TypeId} {pos pos' : String} {af af' : Array Edge} {K : Env → S → Prop} {e : Env} {st : S} (hsep : ∀ e s, K e s → Sep x x' e)
    (h : astep P L ds KP ⟨none, .store t x y, ty, pos, af, none⟩ (astep P L ds KP ⟨none, .store t' x' y', ty', pos', af', none⟩ K) e st) :
    astep P L ds KP ⟨none, .store t' x' y', ty', pos', af', none⟩ (astep P L ds KP ⟨none, .store t x y, ty, pos, af, none⟩ K) e st := by
  simp only [astep, awant, aop, if_true, Env.putO] at h ⊢
  unfold aStore at h
  split at h
  case h_2 => exact h.elim
  rename_i b o hx
  split at h
  case h_2 => exact h.elim
  rename_i cs k hl
  obtain ⟨h1, h2, h3, h4, h⟩ := h
  split at h
  case h_2 => exact h.elim
  rename_i b' o' hx'
  split at h
  case h_2 => exact h.elim
  rename_i cs' k' hl'
  obtain ⟨g1, g2, g3, g4, h⟩ := h
  obtain ⟨c, p, c', p', k1, k2, k3⟩ := hsep _ _ h
  rw [hx] at k1; injection k1 with k1; injection k1 with k1; injection k1 with k1; injection k1 with k1 _ _
  rw [hx'] at k2; injection k2 with k2; injection k2 with k2; injection k2 with k2; injection k2 with k2 _ _
  subst k1; subst k2
  rw [look_lay, if_neg k3] at hl'
  unfold aStore
  simp only [hx', hl', hx, look_lay, if_neg (Ne.symm k3), hl]
  refine ⟨g1, g2, g3, g4, h1, h2, h3, h4, ?_⟩
  rw [lay_comm (Ne.symm k3) hl' hl]
  exact h

section
variable {P : Program} {L : Pol} {X : Cx} {e : Env} {st : S}

/-- A REGION WHOSE ORDER IS DRAWN, that ends in two stores into two boxes. -/
theorem awp_draw2 {Q : Exit → Env → S → Prop} {id : Nat} {l : List Oper} (L : Pol) (hm : P.follows .mixedOrders = true) (kf : Nat → List Nat) (x x' : Operand) (ds : List (Option Nat)) (hds : l.map (·.dst) = ds) (hd : dstsIn X.N l = true) (hB : Region.lexB .any l.toArray = true) (hO : drawOk2 L l = true)
    (hl2 : 2 ≤ l.length) (hsw : ∃ t y ty pos af t' y' ty' pos' af', l[l.length - 2]? = some ⟨none, .store t x y, ty, pos, af, none⟩ ∧ l[l.length - 1]? = some ⟨none, .store t' x' y', ty', pos', af', none⟩)
    (h : AL P L ds (fun c s => Q (.panic c) [] s) l (fun e' s' => Sep x x' e' ∧ Q .normal (keepE (kf id) e') s') e st) : awp P X (.region id l.toArray true) Q e st := by
  intro g a w hr
  generalize kf id = ks at h
  simp only [Region.lexB, Bool.and_eq_true] at hB
  have hnd : ∀ o ∈ l.toArray.toList, ∀ c, o.op ≠ .defer c := fun o ho => dsts_nodefer hd (by simpa using ho)
  refine wpIn_mono (Q := Goes X g w (inQ Q)) (wpIn_region_draw fun t => wpOps_in hnd (goes_lets fun _ _ k => k) _ a _ ?_) goes_inQ
  simp only [Region.schedule, hm, Bool.true_or, if_true]
  refine wpAny_sound _ t _ a _ ?_
  have hdr := out_drew hr.inv (w.drawn + 1)
  have hrel : Rel X g e st a { w with drawn := w.drawn + 1 } := ⟨hdr.inv, fun k => (hr.env k).later hdr.step.later, hr.size, hr.df, hr.gl.below hdr.step.below⟩
  have hresp : Resp (fun e' s' => Sep x x' e' ∧ Q .normal (keepE ks e') s') := fun e1 e2 s h1 h2 => by
    have : keepE ks e1 = keepE ks e2 := by unfold keepE; exact List.map_congr_left fun k _ => by rw [h1 k]
    refine ⟨?_, ?_⟩
    · have := h2.1
      unfold Sep at this ⊢
      rw [← ev_eqv h1, ← ev_eqv h1]; exact this
    · show Q .normal (keepE ks e2) s
      rw [← this]; exact h2.2
  obtain ⟨t1, y, ty, pos, af, t', y', ty', pos', af', s1, s2⟩ := hsw
  have hA := anyA_lex2 (P := P) (L := L) (ops := l.toArray) (ds := ds) (KP := fun c s => Q (.panic c) [] s) (by simpa using hds.symm) (by simpa using hO) hresp
    (fun o o' ho ho' e st hh => by
      have e1 : o = ⟨none, .store t1 x y, ty, pos, af, none⟩ := by
        have : l[l.length - 2]? = some o := by simpa using ho
        rw [s1] at this; injection this with this; exact this.symm
      have e2 : o' = ⟨none, .store t' x' y', ty', pos', af', none⟩ := by
        have : l[l.length - 1]? = some o' := by simpa using ho'
        rw [s2] at this; injection this with this; exact this.symm
      subst e1; subst e2
      exact store_swap (fun _ _ k => k.1) hh)
    l 0 (Array.replicate l.toArray.size false) e st (by simp) (fun j hj => by omega)
    (by unfold left; exact Nat.le_trans (List.length_filter_le _ _) (by simp)) (by simp) hl2 (fun k ok hk hl => by
      exfalso
      rw [Array.getD_eq_getD_getElem?, Array.getElem?_replicate] at hl
      split at hl <;> simp at hl) (by simpa using hB.2) h
  have := anyA_sound (X := X) (Q := inQ Q) (ops := l.toArray) (ds := ds) (by simpa using hds.symm) (fun o ho => dst_lt hd (by simpa using ho)) (fun _ _ k => k) (g0 := g) (w0 := w)
    (fun g' e' s' a' w' k1 k2 k3 => ⟨g', _, s', k2, k3.weaken (keepE_sub ks e') (S.sub_refl _), k1.2⟩) l.length _ e st g a { w with drawn := w.drawn + 1 } hA hdr.step hrel
  exact this
end
end Go.Al
