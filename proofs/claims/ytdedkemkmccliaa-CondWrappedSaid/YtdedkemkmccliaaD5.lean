/-
  DEN, part 5: EVERY OPERATION, AND A LIST OF THEM, ANSWERS AS THE ABSTRACT ONE. General: no program in sight.
-/
import Derived.Test.YtdedkemkmccliaaD4
set_option linter.unusedVariables false
set_option linter.unusedSimpArgs false
namespace Go.Den
open Go.Al

section
variable {U : TyU} {C : Cod U} {P : Program} {Tb : TypeId → TD U} {R : Type} {r : R} {N : NM}

theorem extract_tr (s : List UInt8) (a b : Nat) : (⟨s.toArray⟩ : ByteArray).extract a b = ⟨((s.take b).drop a).toArray⟩ := by
  apply ByteArray.ext
  simp [ByteArray.data_extract, List.extract_toArray, List.extract_eq_take_drop, List.drop_take]

def OR (C : Cod U) (N : NM) (x : Option (T U)) (v : Option V) : Prop := match x, v with | none, none => True | some x, some v => VR C N x v | _, _ => False

theorem dSlice_ok (hT : TbOk C P Tb) (hC : CodOk C) {st : St U} {s : S} (hs : SSim C N st s) {t : TypeId} {x : T U} {xv : V} {lo hi : Option (T U)} {lov hiv : Option V} {K : V → Prop} {k : T U → Option R} (hx : VR C N x xv)
    (hlo : OR C N lo lov) (hhi : OR C N hi hiv) (h : dSlice Tb st t x lo hi k = some r) (hK : ∀ v, k v = some r → K (trT C N v)) : aSlice P t xv lov hiv K := by
  unfold dSlice at h
  split at h
  · rename_i m j xs
    obtain ⟨i, el, hh, h1, h2, h3, h4⟩ := codeEl_ok hT h
    clear h
    have hq := bif_some hh; clear hh
    obtain ⟨h5, h⟩ := hq
    simp only [decide_eq_true_eq] at h5
    subst h5
    rw [hx.get (by simp)]
    simp only [trT, aSlice, h1]
    refine ⟨h2.has, .inr fun y hy => by rw [← h3]; exact elsOk_map hC j xs y (List.mem_of_mem_take hy), ?_⟩
    refine dBound_ok hlo h fun l hl => ?_
    rw [List.length_map]
    refine dBound_ok hhi hl fun hh hl2 => ?_
    obtain ⟨h6, h7⟩ := bif_some hl2
    refine ⟨inS_spec h6, ?_⟩
    have := hK _ h7
    simp only [trT, cutL, List.map_drop, List.map_take] at this
    rw [cutM_tr m xs (cutL xs l hh)]
    simpa [cutL, List.map_drop, List.map_take] using this
  · rename_i l0 n
    obtain ⟨i, el, hh, h1, h2, h3, h4⟩ := codeEl_ok hT h
    clear h
    split at hh
    · split at hh
      · rename_i j xs hl
        have hq := bif_some hh; clear hh
        obtain ⟨h5, h⟩ := hq
        simp only [decide_eq_true_eq] at h5
        subst h5
        cases lov with
        | some _ => exact hlo.elim
        | none =>
          rw [hx.get (by simp)]
          simp only [trT, aSlice, h1]
          refine ⟨h2.has, ?_⟩
          have e0 : ∀ (d : Int) (K : Int → Prop), boundV none d K = K d := fun _ _ => rfl
          rw [e0]
          refine dBound_ok hhi h fun hh hl2 => ?_
          obtain ⟨h6, h7⟩ := bif_some hl2
          obtain ⟨q1, q2, q3⟩ := inS_spec h6
          have hw := hs.wf l0 _ hl
          refine ⟨⟨q1, q2, by have := hw.2; omega⟩, ?_⟩
          have := hK _ h7
          simp only [trT] at this
          have e1 : (if ((N.cp l0 : Nat) : Int) = 0 then 0 else 0 + (0 : Int).toNat * P.cellsOf el) = 0 := by split <;> simp
          rw [e1]
          simpa using this
      · cases hh
    · cases hh
  · rename_i s'
    obtain ⟨h1, h2⟩ := bif_some h
    simp only [Bool.and_eq_true] at h1
    rw [hx.get (by simp)]
    simp only [trT, aSlice]
    refine ⟨(hT t h1.1).isStr.trans h1.2, ?_⟩
    refine dBound_ok hlo h2 fun l hl => ?_
    have e : ((⟨s'.toArray⟩ : ByteArray).size : Int) = lenI s' := by simp [ByteArray.size, lenI]
    rw [e]
    refine dBound_ok hhi hl fun hh hl2 => ?_
    obtain ⟨h6, h7⟩ := bif_some hl2
    refine ⟨by have := inS_spec h6; simpa [lenI] using this, ?_⟩
    have := hK _ h7
    simp only [trT, cutL] at this
    rw [extract_tr]
    exact this
  · cases h

theorem decAll_ok (hC : CodOk C) {i : U.I} : ∀ {parts : List (Nat × T U)} {k : List (U.den i) → Option R}, decAll C i parts k = some r →
    ∃ xs, k xs = some r ∧ (∀ N, parts.map (fun p => (trT C N p.2).untag) = xs.map (C.encV i)) ∧ (C.plain i = true → ∀ N, parts.map (fun p => trT C N p.2) = xs.map (C.encV i))
  | [], k, h => ⟨[], h, fun _ => rfl, fun _ _ => rfl⟩
  | p :: rest, k, h => by
    simp only [decAll] at h
    by_cases hp : C.plain i = true
    · obtain ⟨x, h1, h2⟩ := hC.decP i _ _ _ hp h
      obtain ⟨xs, h3, h4, h5⟩ := decAll_ok hC h1
      exact ⟨x :: xs, h3, fun N => by rw [List.map_cons, List.map_cons, h4 N, h2 N, hC.untag], fun hp N => by rw [List.map_cons, List.map_cons, h5 hp N, h2 N]⟩
    · obtain ⟨x, h1, h2⟩ := hC.dec i _ _ _ h
      obtain ⟨xs, h3, h4, h5⟩ := decAll_ok hC h1
      exact ⟨x :: xs, h3, fun N => by rw [List.map_cons, List.map_cons, h4 N, h2 N], fun hp' => absurd hp' hp⟩

/-- Parts and what they are. -/
def PR (C : Cod U) (N : NM) (parts : List (Nat × T U)) (vs : List (Nat × V)) : Prop := vs.map (·.1) = parts.map (·.1) ∧ ∀ (j : Nat) (x : Nat × T U) (v : Nat × V), parts[j]? = some x → vs[j]? = some v → VR C N x.2 v.2

theorem PR.exact : ∀ {parts : List (Nat × T U)} {vs : List (Nat × V)}, PR C N parts vs → okParts parts = true → vs = parts.map fun p => (p.1, trT C N p.2)
  | [], vs, h, _ => by have := h.1; simpa using this
  | p :: rest, vs, h, ho => by
    simp only [okParts, Bool.and_eq_true] at ho
    cases vs with
    | nil => have := h.1; simp at this
    | cons v vs =>
      have h1 := h.1
      simp only [List.map_cons, List.cons.injEq] at h1
      have hv := h.2 0 p v rfl rfl
      have hne : p.2 ≠ .any := fun e => by rw [e] at ho; simp [T.flat, oneAll, T.isOne] at ho
      have := PR.exact (parts := rest) (vs := vs) ⟨h1.2, fun j x v a b => h.2 (j + 1) x v (by simpa using a) (by simpa using b)⟩ ho.2
      rw [this]
      simp only [List.map_cons, List.cons.injEq]
      exact ⟨by rw [← h1.1, ← hv.get hne], trivial⟩

theorem inOrd_tr {f : T U → V} : ∀ {n : Nat} {parts : List (Nat × T U)}, inOrd n parts = true → inOrder n (parts.map fun p => (p.1, f p.2)) = true
  | _, [], _ => rfl
  | n, p :: rest, h => by
    simp only [inOrd, Bool.and_eq_true, Nat.beq_eq] at h
    simp only [List.map_cons, inOrder, Bool.and_eq_true, beq_iff_eq]
    exact ⟨h.1, inOrd_tr h.2⟩

theorem okParts_tr (N : NM) : ∀ {parts : List (Nat × T U)}, okParts parts = true → (parts.map fun p => (p.1, trT C N p.2)).all (fun p => p.2.flat.all V.isOne) = true
  | [], _ => rfl
  | p :: rest, h => by
    simp only [okParts, Bool.and_eq_true] at h
    simp only [List.map_cons, List.all_cons, Bool.and_eq_true]
    refine ⟨?_, okParts_tr N h.2⟩
    have := (allOne_tr C N p.2.flat).2 h.1
    rw [← flat_tr] at this
    exact this

theorem dBuildSlice_ok (hT : TbOk C P Tb) (hC : CodOk C) {L : Pol} {st : St U} {s : S} (hs : SSim C N st s) {dst : Option Nat} {t : TypeId} {n : Nat} {parts : List (Nat × T U)} {vs : List (Nat × V)} {K : V → S → Prop} {k : T U → St U → Option R}
    (hp : PR C N parts vs) (h : dBuildSlice C Tb L.wr L.own dst st t n parts k = some r) (hK : Kok C N st K k r) : aBuildSlice P L dst s t n vs K := by
  unfold dBuildSlice at h
  obtain ⟨i, el, hh, h1, h2, h3, h4⟩ := codeEl_ok hT h
  clear h
  have hq := bif_some hh; clear hh
  obtain ⟨h5, h⟩ := hq
  simp only [Bool.and_eq_true, Nat.ble_eq, Nat.beq_eq, decide_eq_true_eq] at h5
  obtain ⟨⟨⟨⟨⟨hz, h6⟩, h7⟩, h8⟩, h9⟩, h10⟩ := h5
  have hz := zeroLen hT h2 hz
  have hex := hp.exact h10
  subst hex
  obtain ⟨xs, h11, h12, h13⟩ := decAll_ok hC h
  clear h
  have hwd : wrD L.wr dst = (dst.map L.wr).getD false := by cases dst <;> rfl
  have hod : wrD L.own dst = (dst.map L.own).getD false := by cases dst <;> rfl
  rw [hwd, hod] at h11
  have hlen : xs.length = n := by
    have := congrArg List.length (h12 N)
    simp only [List.length_map] at this
    omega
  have hes : (List.map (fun p => (p.1, trT C N p.2)) parts).map (fun p => p.2.untag) = xs.map (C.encV i) := by
    rw [List.map_map]; exact h12 N
  unfold aBuildSlice
  simp only [h1, hes]
  refine ⟨h2.has, hz.1, hz.2, by rw [h2.cells]; exact h6, h7, by rw [List.length_map]; exact h8, inOrd_tr h9, by rw [← h3]; exact elsOk_map hC i xs, okParts_tr N h10, ?_⟩
  split
  · rename_i hw
    rw [hw] at h11
    simp only [cond_true] at h11
    obtain ⟨h14, h15⟩ := bif_some h11
    have e : (List.map (fun p => (p.1, trT C N p.2)) parts).map (·.2) = xs.map (C.encV i) := by
      rw [List.map_map]; exact h13 h14 N
    rw [e]
    refine ⟨flats_ones hC i xs, fun b hb => ?_⟩
    have hn := hs.newBox (b := b) (c := n) (z := C.cells i) (bx := .ar i xs) hb ⟨if_pos rfl, by show _ ≤ if _ then _ else _; rw [if_pos rfl, hlen]; exact Nat.le_refl _⟩
    have hext := N.ext_loc st.nl st.nx b n (C.cells i)
    have ec : (N.loc st.nl b n (C.cells i)).cp st.nl = n := if_pos rfl
    have eb : (N.loc st.nl b n (C.cells i)).bl st.nl = b := if_pos rfl
    simp only [trB, ec] at hn
    have := hK _ _ _ _ _ h15 ⟨hext, Nat.le_succ _, Nat.le_refl _⟩ hn (.inr rfl)
    simp only [trT, ec, eb] at this
    rw [← h3]
    exact this
  · rename_i hw
    have hw : (Option.map L.wr dst).getD false = false := by simpa using hw
    rw [hw] at h11
    simp only [cond_false] at h11
    split
    · rename_i ho
      rw [ho] at h11
      simp only [cond_true] at h11
      have hn := hs.newTok (n := s.nx) (tg := st.tg) (tg' := s.tg) (x := s.nx + 1) (fun _ h => h) hs.tgIn (fun t ht => Nat.ne_of_lt (hs.nm t ht)) (Nat.le_succ _) (Nat.lt_succ_self _)
      have := hK _ _ _ _ _ h11 ⟨N.ext_tok st.nl st.nx s.nx, Nat.le_refl _, Nat.le_succ _⟩ hn (.inr rfl)
      simp only [trT, trM] at this
      have e : (N.tok st.nx s.nx).tk st.nx = s.nx := if_pos rfl
      rw [e, h3] at this
      exact this
    · rename_i ho
      have ho : (Option.map L.own dst).getD false = false := by simpa using ho
      rw [ho] at h11
      simp only [cond_false] at h11
      have := hK _ _ _ _ _ h11 ⟨.refl _ _ _, Nat.le_refl _, Nat.le_refl _⟩ hs (.inr rfl)
      simpa [trT, trM] using this

/-- A call leads where the abstract one does. -/
def CallOk (C : Cod U) (P : Program) (L : Pol) (call : Call U R) (r : R) : Prop :=
  ∀ n args st k N s, SSim C N st s → bdds st.nl st.nx args = true → okArgs args = true → call n args st k = some r →
    ∀ K KP, Kok C N st K k r → aCall P L (.clo (.func n) []) (args.map (trT C N)) s K KP

theorem okArgs_tr : ∀ {e : En U} {E : Env} {st : St U} (_ : ESim C N st e E) {l : List Operand}, okArgs (evL e l) = true → l.map E.ev = (evL e l).map (trT C N)
  | _, _, _, _, [], _ => rfl
  | e, E, st, he, x :: rest, h => by
    simp only [evL, okArgs, Bool.and_eq_true] at h
    simp only [evL, List.map_cons]
    have hne : evT e x ≠ .any := fun e' => by rw [e'] at h; simp [T.flat, oneAll, T.isOne] at h
    rw [(he.ev x).get hne, okArgs_tr he h.2]

theorem evP_PR {e : En U} {E : Env} {st : St U} (he : ESim C N st e E) (l : List (Nat × Operand)) : PR C N (evP e l) (l.map fun p => (p.1, E.ev p.2)) := by
  have e1 : ∀ l : List (Nat × Operand), evP e l = l.map fun p => (p.1, evT e p.2) := fun l => by
    induction l with
    | nil => rfl
    | cons a r ih => simp [evP, ih]
  rw [e1]
  refine ⟨by simp, fun j x v h1 h2 => ?_⟩
  rw [List.getElem?_map] at h1 h2
  cases hq : l[j]? with
  | none => rw [hq] at h1; cases h1
  | some p =>
    rw [hq] at h1 h2
    injection h1 with h1
    injection h2 with h2
    subst h1; subst h2
    exact he.ev p.2

theorem evO_OR {e : En U} {E : Env} {st : St U} (he : ESim C N st e E) (x : Option Operand) : OR C N (evO e x) (x.map E.ev) := by
  cases x with
  | none => trivial
  | some x => exact he.ev x

theorem dop_ok (hT : TbOk C P Tb) (hC : CodOk C) {L : Pol} {call : Call U R} (hcall : CallOk C P L call r) {st : St U} {s : S} {e : En U} {E : Env} (hs : SSim C N st s) (he : ESim C N st e E) {o : Oper} {K : V → S → Prop} {KP : List PanicEntry → S → Prop} {k : T U → St U → Option R}
    (h : dop C Tb call L.wr L.own e st o k = some r) (hK : Kok C N st K k r) : aop P L E s o K KP := by
  have pure : ∀ v, k v st = some r → K (trT C N v) s := fun v hv => hK _ _ _ _ _ hv (Turn.refl N st) hs (.inr rfl)
  obtain ⟨dst, op, ty, pos, af, gd⟩ := o
  cases op <;> simp only [dop] at h <;> simp only [aop]
  case move x => exact hK _ _ _ _ _ h (Turn.refl N st) hs (he.ev x)
  case assign x => exact hK _ _ _ _ _ h (Turn.refl N st) hs (he.ev x)
  case pick c a b => exact dPick_ok (he.ev c) (he.ev a) (he.ev b) h fun v v' hv hr => hK _ _ _ _ _ hv (Turn.refl N st) hs hr
  case alloc t =>
    unfold dAlloc at h
    obtain ⟨h1, h2⟩ := bif_some h
    split at h2
    · rename_i cs hcs
      unfold aAlloc
      rw [(hT t h1).zero N, hcs]
      exact dNew_ok hs rfl h2 hK
    · cases h2
  case box t x =>
    rw [feL_eq] at h
    have hne : evT e x ≠ .any := fun e' => by
      rw [e'] at h
      simp [dNew, T.flat, oneAll, T.isOne] at h
    rw [(he.ev x).get hne, flat_tr]
    exact dNew_ok hs rfl h hK
  case build t parts =>
    rw [feP_eq] at h
    exact dBuild_ok hT (evP_PR he _).1 (evP_PR he _).2 h pure
  case buildSlice t n parts =>
    rw [feP_eq] at h
    exact dBuildSlice_ok hT hC hs (evP_PR he _) h hK
  case load t x => exact dLoad_ok hT hC hs (he.ev x) h pure
  case store t x y =>
    exact dStore_ok hT hC hs (he.ev x) (he.ev y) h fun st' s' h1 h2 h3 => hK _ _ _ _ _ h1 h2 h3 (.inl rfl)
  case nilCheck x => exact dNilCheck_ok (he.ev x) h pure
  case binOp op t x y t2 => exact dBin_ok hT (he.ev x) (he.ev y) h pure
  case unOp op t x => exact dUn_ok (he.ev x) h pure
  case slice t x lo hi mx =>
    cases mx with
    | some _ => cases h
    | none => exact ⟨rfl, dSlice_ok hT hC hs (he.ev x) (evO_OR he lo) (evO_OR he hi) h pure⟩
  case fieldAddr t x f => exact dFieldAddr_ok hT (he.ev x) h pure
  case field t x f => exact dField_ok hT (he.ev x) h pure
  case indexAddr t x i => exact dIndexAddr_ok hT hC hs (he.ev x) (he.ev i) h pure
  case index t x i => exact dIndex_ok hT (he.ev x) (he.ev i) h pure
  case extract x i => exact dExtract_ok (he.ev x) h pure
  case call c =>
    obtain ⟨callee, args, ts⟩ := c
    cases callee with
    | invoke r m => cases h
    | value f =>
      simp only [feA_eq] at h ⊢
      unfold dCall at h
      split at h
      · rename_i fn caps hf
        split at h
        · rename_i n
          obtain ⟨h1, h2⟩ := bif_some h
          simp only [Bool.and_eq_true, List.isEmpty_iff] at h1
          obtain ⟨⟨h1, h3⟩, h4⟩ := h1
          subst h1
          have := he.ev f
          rw [hf] at this
          rw [this.get (by simp), okArgs_tr he h3]
          exact hcall _ _ _ _ _ _ hs h4 h3 h2 K KP hK
        · cases h
      · cases h
    | builtin b =>
      simp only [feA_eq] at h ⊢
      have e1 : ∀ l : List Operand, evL e l = l.map (evT e) := fun l => by
        induction l with
        | nil => rfl
        | cons a r ih => simp [evL, ih]
      rw [e1] at h
      unfold dBuiltin at h
      cases b <;> simp only at h <;> try (cases h; done)
      case len =>
        split at h
        · rename_i t _ hts
          split at h
          · rename_i x hx
            cases hl : args.toList with
            | nil => rw [hl] at hx; cases hx
            | cons a l2 =>
              cases l2 with
              | cons _ _ => rw [hl] at hx; simp at hx
              | nil =>
                rw [hl] at hx
                simp only [List.map_cons, List.map_nil, List.cons.injEq, and_true] at hx
                subst hx
                simp only [aBuiltin, hts, List.map_cons, List.map_nil]
                exact dLen_ok hT (he.ev a) h pure
          · cases h
        · cases h
      case max =>
        split at h
        · rename_i x y hx
          cases hl : args.toList with
          | nil => rw [hl] at hx; cases hx
          | cons a l2 =>
            cases l2 with
            | nil => rw [hl] at hx; simp at hx
            | cons b l3 =>
              cases l3 with
              | cons _ _ => rw [hl] at hx; simp at hx
              | nil =>
                rw [hl] at hx
                simp only [List.map_cons, List.map_nil, List.cons.injEq, and_true] at hx
                obtain ⟨rfl, rfl⟩ := hx
                simp only [aBuiltin, List.map_cons, List.map_nil]
                exact dMax_ok (he.ev a) (he.ev b) h pure
        · cases h
      case append =>
        split at h
        · rename_i t t2 hts
          split at h
          · rename_i x y hx
            cases hl : args.toList with
            | nil => rw [hl] at hx; cases hx
            | cons a l2 =>
              cases l2 with
              | nil => rw [hl] at hx; simp at hx
              | cons b l3 =>
                cases l3 with
                | cons _ _ => rw [hl] at hx; simp at hx
                | nil =>
                  rw [hl] at hx
                  simp only [List.map_cons, List.map_nil, List.cons.injEq, and_true] at hx
                  obtain ⟨rfl, rfl⟩ := hx
                  simp only [aBuiltin, hts, List.map_cons, List.map_nil]
                  exact dAppend_ok hT hC hs (he.ev a) (he.ev b) h hK
          · cases h
        · cases h
  all_goals cases h

def dstL : List Oper → List Nat
  | [] => []
  | o :: r => (match o.dst with | some d => d :: dstL r | none => dstL r)

/-- Slots that are not among these are as they were. -/
def FrX (ds : List Nat) (e e' : En U) : Prop := ∀ j, j ∉ ds → eget e' j = eget e j

/-- What a walk has to lead to. -/
def Kok2 (C : Cod U) (N : NM) (st : St U) (e : En U) (ds : List Nat) (K : Env → S → Prop) (k : En U → St U → Option R) (r : R) : Prop :=
  ∀ N' e' st' E' s', k e' st' = some r → Turn N st N' st' → SSim C N' st' s' → ESim C N' st' e' E' → FrX ds e e' → K E' s'

theorem FrX.put (e : En U) (o : Oper) (v : T U) : FrX (dstL [o]) e (eput e o.dst v) := fun j hj => by
  cases hd : o.dst with
  | none => rfl
  | some d =>
    have : d ≠ j := fun e => by subst e; apply hj; simp [dstL, hd]
    simp [eput, eget, beq_ne this]

theorem dthen_ok (hT : TbOk C P Tb) (hC : CodOk C) {L : Pol} {call : Call U R} (hcall : CallOk C P L call r) {st : St U} {s : S} {e : En U} {E : Env} (hs : SSim C N st s) (he : ESim C N st e E) {o : Oper} {K : Env → S → Prop} {KP : List PanicEntry → S → Prop} {k : En U → St U → Option R}
    (h : dthen C Tb call L.wr L.own e st o k = some r) (hK : Kok2 C N st e (dstL [o]) K k r) : aop P L E s o (fun v s' => K (E.putO o.dst v) s') KP := by
  unfold dthen at h
  refine dop_ok hT hC hcall hs he h ?_
  intro N' st' s' v v' h1 h2 h3 h4
  simp only [fe_eq, feS_eq, eputK_eq] at h1
  obtain ⟨h5, h6⟩ := bif_some h1
  exact hK _ _ _ _ _ h6 h2 h3 ((he.turn h2).put h4 h5 o.dst) (FrX.put e o v)

theorem dstep_ok (hT : TbOk C P Tb) (hC : CodOk C) {L : Pol} {call : Call U R} (hcall : CallOk C P L call r) {st : St U} {s : S} {e : En U} {E : Env} (hs : SSim C N st s) (he : ESim C N st e E) {ds : List (Option Nat)} {o : Oper} {K : Env → S → Prop} {KP : List PanicEntry → S → Prop} {k : En U → St U → Option R}
    (h : dstep C Tb call L.wr L.own ds o e st k = some r) (hK : Kok2 C N st e (dstL [o]) K k r) : astep P L ds KP o K E s := by
  unfold dstep at h
  unfold astep awant
  split at h
  · rename_i hg
    rw [hg]
    simp only [if_true]
    exact dthen_ok hT hC hcall hs he h hK
  · rename_i g hg
    rw [hg]
    obtain ⟨j, b⟩ := g
    simp only at h ⊢
    split at h
    · cases h
    · rename_i d hd
      rw [hd]
      simp only
      split at h
      · rename_i t ht
        have h1 := (he d).1
        rw [ht] at h1
        rw [h1.get (by simp)]
        simp only [trT]
        have he' : ESim C N st (eput e (some d) (.bool t)) E := fun j => by
          simp only [eput, eget]
          by_cases hj : d = j
          · subst hj
            have : Nat.beq d d = true := by simp
            simp only [this, cond_true]
            rw [← ht]; exact he d
          · simp only [beq_ne hj, cond_false]; exact he j
        have hfr : FrX [] e (eput e (some d) (.bool t)) := fun j _ => by
          simp only [eput, eget]
          by_cases hj : d = j
          · subst hj
            have : Nat.beq d d = true := by simp
            simp only [this, cond_true]
            exact ht.symm
          · simp only [beq_ne hj, cond_false]
        have hK' : Kok2 C N st (eput e (some d) (.bool t)) (dstL [o]) K k r := fun N' e' st' E' s' q1 q2 q3 q4 q5 => hK N' e' st' E' s' q1 q2 q3 q4 fun j hj => (q5 j hj).trans (hfr j (by simp))
        have hskip : k (eput (eput e (some d) (.bool t)) o.dst (.tup [])) st = some r → K (E.putO o.dst (.tup [])) s := fun hh => hK' _ _ _ _ _ hh (Turn.refl N st) hs (he'.put (.inr rfl) rfl o.dst) (FrX.put _ o (.tup []))
        simp only [eputK_eq] at h
        cases b <;> cases t <;> simp only [cond_true, cond_false] at h <;> first | exact dthen_ok hT hC hcall hs he' h hK' | exact hskip h
      · rename_i vs ht
        split at h
        · have h1 := (he d).1
          rw [ht] at h1
          rw [h1.get (by simp)]
          simp only [eputK_eq] at h
          exact hK _ _ _ _ _ h (Turn.refl N st) hs (he.put (.inr rfl) rfl o.dst) (FrX.put e o (.tup []))
        · cases h
      · cases h

theorem dops_ok (hT : TbOk C P Tb) (hC : CodOk C) {L : Pol} {call : Call U R} (hcall : CallOk C P L call r) {ds : List (Option Nat)} {KP : List PanicEntry → S → Prop} : ∀ {l : List Oper} {N : NM} {st : St U} {s : S} {e : En U} {E : Env} {K : Env → S → Prop} {k : En U → St U → Option R},
    SSim C N st s → ESim C N st e E → dops C Tb call L.wr L.own ds l e st k = some r → Kok2 C N st e (dstL l) K k r → AL P L ds KP l K E s
  | [], N, st, s, e, E, K, k, hs, he, h, hK => hK _ _ _ _ _ h (Turn.refl N st) hs he (fun _ _ => rfl)
  | o :: os, N, st, s, e, E, K, k, hs, he, h, hK => by
    simp only [dops] at h
    show astep P L ds KP o (AL P L ds KP os K) E s
    refine dstep_ok hT hC hcall hs he h ?_
    intro N' e' st' E' s' h1 h2 h3 h4 h5
    refine dops_ok hT hC hcall h3 h4 h1 fun N2 e2 st2 E2 s2 q1 q2 q3 q4 q5 => hK _ _ _ _ _ q1 (h2.trans q2) q3 q4 fun j hj => ?_
    rw [q5 j fun hh => hj ?_, h5 j fun hh => hj ?_]
    · cases hd : o.dst <;> simp only [dstL, hd] at hh ⊢ <;> simp at hh <;> simp [hh]
    · cases hd : o.dst <;> simp only [dstL, hd] <;> simp [hh]

end
end Go.Den
