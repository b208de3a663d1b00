/-
  DEN, part 3: the operations that only compute answer as the abstract ones do. General: no program in sight.
-/
import Derived.Test.YtdedkemkmccliaaD2
set_option linter.unusedVariables false
set_option linter.unusedSimpArgs false
namespace Go.Den
open Go.Al

/-- A value of a frame: unknown, or its translation. -/
def VR {U : TyU} (C : Cod U) (N : NM) (x : T U) (v : V) : Prop := x = .any ∨ v = trT C N x

def TbOk {U : TyU} (C : Cod U) (P : Program) (Tb : TypeId → TD U) : Prop := ∀ t, (Tb t).has = true → Facts C P t (Tb t)

section
variable {U : TyU} {C : Cod U} {P : Program} {Tb : TypeId → TD U} {R : Type} {r : R} {N : NM} {K : V → Prop} {k : T U → Option R}

theorem bif_some {c : Bool} {x : Option R} (h : (bif c then x else none) = some r) : c = true ∧ x = some r := by cases c <;> simp_all

theorem VR.get {x : T U} {v : V} (h : VR C N x v) (hx : x ≠ .any) : v = trT C N x := h.resolve_left hx
theorem VR.mk (x : T U) : VR C N x (trT C N x) := .inr rfl

theorem bytes_loop (b : ByteArray) : ∀ (n i : Nat) (acc : List UInt8), b.size - i = n → ByteArray.toList.loop b i acc = acc.reverse ++ b.data.toList.drop i := by
  have hs : b.size = b.data.toList.length := by rw [Array.length_toList]; rfl
  intro n
  induction n with
  | zero =>
    intro i acc hn
    unfold ByteArray.toList.loop
    rw [if_neg (by omega), List.drop_of_length_le (by omega), List.append_nil]
  | succ n ih =>
    intro i acc hn
    unfold ByteArray.toList.loop
    have hi : i < b.data.toList.length := by omega
    rw [if_pos (by omega), ih _ _ (by omega), List.drop_eq_getElem_cons hi]
    have e : b.get! i = b.data.toList[i] := by
      show b.data[i]! = _
      have hi' : i < b.data.size := by rw [← Array.length_toList]; exact hi
      rw [getElem!_pos b.data i hi', Array.getElem_toList]
    rw [e, List.reverse_cons, List.append_assoc]; rfl
theorem bytes_toList (s : List UInt8) : (⟨s.toArray⟩ : ByteArray).toList = s := by
  have := bytes_loop ⟨s.toArray⟩ _ 0 [] rfl
  rw [List.drop_zero, List.reverse_nil, List.nil_append] at this
  exact this

theorem dPick_ok {c a b : T U} {cv av bv : V} (hc : VR C N c cv) (ha : VR C N a av) (hb : VR C N b bv) (h : dPick c a b k = some r)
    (hK : ∀ v v', k v = some r → VR C N v v' → K v') : aPick cv av bv K := by
  unfold dPick at h
  split at h
  · rename_i t
    rw [hc.get (by simp)]
    cases t with
    | true => exact hK _ _ h ha
    | false => exact hK _ _ h hb
  · cases h

theorem dInt_ok {op : BinOp} {kk : IntKind} {a b : Int} (h : dInt op kk a b k = some r) (hK : ∀ v, k v = some r → K (trT C N v)) : aInt op kk a b K := by
  cases op <;> simp only [dInt] at h <;> first | exact hK _ h | cases h | skip
  case quo =>
    obtain ⟨h1, h2⟩ := bif_some h
    exact ⟨by simpa [ine] using h1, hK _ h2⟩
  case rem =>
    obtain ⟨h1, h2⟩ := bif_some h
    exact ⟨by simpa [ine] using h1, hK _ h2⟩

theorem dStr_ok {op : BinOp} {a b : List UInt8} (h : dStr op a b k = some r) (hK : ∀ v, k v = some r → K (trT C N v)) : aStr op ⟨a.toArray⟩ ⟨b.toArray⟩ K := by
  cases op <;> simp only [dStr] at h <;> first | cases h | skip
  case add =>
    obtain ⟨h1, h2⟩ := bif_some h
    simp only [okS, decide_eq_true_eq] at h1
    refine ⟨by simpa [ByteArray.size] using h1, ?_⟩
    have := hK _ h2
    simp only [trT] at this
    have e : (⟨a.toArray⟩ : ByteArray) ++ ⟨b.toArray⟩ = ⟨(a ++ b).toArray⟩ := by
      apply ByteArray.ext
      simp
    rw [e]; exact this
  case eql =>
    have := hK _ h
    simp only [aStr, bytes_toList]
    exact this
  case neq =>
    have := hK _ h
    simp only [aStr, bytes_toList]
    exact this

theorem dBool_ok {op : BinOp} {a b : Bool} (h : dBool op a b k = some r) (hK : ∀ v, k v = some r → K (trT C N v)) : aBool op a b K := by
  cases op <;> simp only [dBool] at h <;> first | cases h | exact hK _ h

theorem nilB_tr (m : TM) {i : U.I} (xs : List (U.den i)) : nilB (trM N (C.cells i) (xs.map (C.encV i)) m) (xs.map (C.encV i)) = nilT m xs := by
  cases m with
  | b n => cases n <;> rfl
  | dl => cases xs <;> rfl
  | ow t nb => cases xs <;> rfl

theorem dNil_ok {op : BinOp} {b : Bool} (h : dNil op b k = some r) (hK : ∀ v, k v = some r → K (trT C N v)) : aBool op b true K := by
  cases op <;> simp only [dNil] at h <;> first | cases h | skip
  · have := hK _ h
    simp only [aBool, beq_true]
    exact this
  · have := hK _ h
    simp only [aBool, beq_true]
    exact this

theorem dBin_ok (hT : TbOk C P Tb) {op : BinOp} {t : TypeId} {x y : T U} {xv yv : V} (hx : VR C N x xv) (hy : VR C N y yv) (h : dBin Tb op t x y k = some r)
    (hK : ∀ v, k v = some r → K (trT C N v)) : aBin P op t xv yv K := by
  unfold dBin at h
  split at h
  · split at h
    · obtain ⟨h1, h2⟩ := bif_some h
      rw [hx.get (by simp), hy.get (by simp)]
      simp only [decide_eq_true_eq] at h1
      subst h1
      exact ⟨rfl, dInt_ok h2 hK⟩
    · cases h
  · split at h
    · obtain ⟨h1, h2⟩ := bif_some h
      rw [hx.get (by simp), hy.get (by simp)]
      simp only [Bool.and_eq_true] at h1
      exact ⟨(hT t h1.2).isBool.trans h1.1, dBool_ok h2 hK⟩
    · cases h
  · split at h
    · rw [hx.get (by simp), hy.get (by simp)]
      exact dStr_ok h hK
    · cases h
  · split at h
    · obtain ⟨h1, h2⟩ := bif_some h
      rw [hx.get (by simp), hy.get (by simp)]
      simp only [Bool.and_eq_true] at h1
      refine ⟨by rw [(hT t h1.2).el]; exact h1.1, ?_⟩
      rw [nilB_tr]
      exact dNil_ok h2 hK
    · cases h
  · split at h
    · obtain ⟨h1, h2⟩ := bif_some h
      rw [hx.get (by simp), hy.get (by simp)]
      simp only [Bool.and_eq_true] at h1
      exact ⟨by rw [(hT t h1.2).el]; exact h1.1, dNil_ok h2 hK⟩
    · cases h
  · cases h

theorem dUn_ok {op : UnOp} {x : T U} {xv : V} (hx : VR C N x xv) (h : dUn op x k = some r) (hK : ∀ v, k v = some r → K (trT C N v)) : aUn op xv K := by
  unfold dUn at h
  split at h
  · rw [hx.get (by simp)]
    cases op <;> simp only at h <;> first | cases h | exact hK _ h
  · rw [hx.get (by simp)]
    cases op <;> simp only at h <;> first | cases h | exact hK _ h
  · cases h

theorem dExtract_ok {x : T U} {xv : V} {i : Nat} (hx : VR C N x xv) (h : dExtract x i k = some r) (hK : ∀ v, k v = some r → K (trT C N v)) : aExtract xv i K := by
  unfold dExtract at h
  split at h
  · rename_i vs
    obtain ⟨h1, h2⟩ := bif_some h
    have h1 := blt_lt h1
    rw [hx.get (by simp)]
    have e : (trTs C N vs).getD i .any = trT C N (vs.getD i .any) := by
      rw [trTs_map]; simp [h1]
    refine ⟨by rw [trTs_map]; simpa using h1, ?_⟩
    rw [e]
    exact hK _ h2
  · cases h

theorem dPart_ok {fs : List (T U)} {off : Nat} {t : TypeId} {d : TD U} (hd : d.has = true → Facts C P t d) (h : dPart fs off d k = some r) (hK : ∀ v, k v = some r → K (trT C N v)) :
    partOk P t (fs.map (trT C N)) off ∧ K (partV P t (fs.map (trT C N)) off) := by
  unfold dPart at h
  obtain ⟨h1, h2⟩ := bif_some h
  simp only [Bool.and_eq_true, Bool.or_eq_true, Nat.ble_eq, Nat.beq_eq] at h1
  obtain ⟨⟨h3, h4⟩, h5⟩ := h1
  have hf := hd h3
  refine ⟨⟨hf.has, by rw [hf.cells]; simpa using h4, fun ha => by rw [hf.agg] at ha; rw [hf.cells]; simpa [ha] using h5⟩, ?_⟩
  unfold partV
  rw [hf.agg, hf.cells]
  cases ha : d.agg with
  | true =>
    rw [ha] at h2
    simp only [cond_true, feL_eq] at h2
    have := hK _ h2
    simp only [trT, trTs_map, List.map_take, List.map_drop] at this
    simpa using this
  | false =>
    rw [ha] at h2
    simp only [cond_false] at h2
    have := hK _ h2
    have h6 : d.cells = 1 := by simpa [ha] using h5
    have h7 : off < fs.length := by omega
    have e : (fs.map (trT C N)).getD off .any = trT C N (fs.getD off .any) := by simp [h7]
    simp only [Bool.false_eq_true, if_false]
    rw [e]; exact this

theorem dField_ok (hT : TbOk C P Tb) {t : TypeId} {x : T U} {xv : V} {f : Nat} (hx : VR C N x xv) (h : dField Tb t x f k = some r) (hK : ∀ v, k v = some r → K (trT C N v)) : aField P t xv f K := by
  unfold dField at h
  split at h
  · rename_i fs
    split at h
    · rename_i p hp
      obtain ⟨h1, h2⟩ := bif_some h
      simp only [Bool.and_eq_true] at h1
      rw [hx.get (by simp)]
      simp only [trT, trTs_map, aField, fieldAt_of, (hT t h1.1).flds, hp]
      exact ⟨(allOne_tr C N fs).2 h1.2, dPart_ok (fun hh => hT _ hh) h2 hK⟩
    · cases h
  · cases h

theorem dFieldAddr_ok (hT : TbOk C P Tb) {t : TypeId} {x : T U} {xv : V} {f : Nat} (hx : VR C N x xv) (h : dFieldAddr Tb t x f k = some r) (hK : ∀ v, k v = some r → K (trT C N v)) : aFieldAddr P t xv f K := by
  unfold dFieldAddr at h
  split at h
  · cases h
  · rename_i p hp
    obtain ⟨h1, h2⟩ := bif_some h
    simp only [Bool.and_eq_true] at h1
    obtain ⟨⟨h3, h4⟩, h5⟩ := h1
    have h6 : 0 < P.cellsOf p.2 := by rw [(hT _ h4).cells]; exact blt_lt h5
    have hfl : fieldAt P t f = some (p.1, p.2) := by rw [fieldAt_of, (hT t h3).flds, hp]
    split at h2
    · split at h2
      · obtain ⟨h7, h8⟩ := bif_some h2
        rw [hx.get (by simp)]
        simp only [trT, trTs_map, aFieldAddr, hfl]
        have := dPart_ok (C := C) (P := P) (t := p.2) (N := N) (K := fun v => K (.rptr v)) (fun hh => hT _ hh) h8 (fun v hv => hK _ hv)
        exact ⟨(allOne_tr C N _).2 h7, this.1, h6, this.2⟩
      · cases h2
    · rw [hx.get (by simp)]
      simp only [trT, aFieldAddr, hfl]
      exact ⟨(hT _ h4).has, h6, hK _ h2⟩
    · rw [hx.get (by simp)]
      simp only [trT, aFieldAddr, hfl]
      have := hK _ h2
      simp only [trT, ← Nat.add_assoc] at this
      exact ⟨(hT _ h4).has, h6, this⟩
    · cases h2

theorem codeEl_ok (hT : TbOk C P Tb) {t : TypeId} {kk : U.I → TypeId → TD U → Option R} (h : codeEl Tb t kk = some r) :
    ∃ i el, kk i el (Tb el) = some r ∧ elT P t = some el ∧ Facts C P el (Tb el) ∧ C.cells i = P.cellsOf el ∧ C.agg i = isAggT P el := by
  unfold codeEl at h
  split at h
  · cases h
  · rename_i el hel
    obtain ⟨h1, h2⟩ := bif_some h
    simp only [Bool.and_eq_true] at h1
    split at h2
    · rename_i i hi
      have hf := hT el h1.2
      exact ⟨i, el, h2, by rw [(hT t h1.1).el, hel], hf, by rw [hf.cells]; exact (hf.code i hi).1, by rw [hf.agg]; exact (hf.code i hi).2⟩
    · cases h2

theorem inB_spec {n : Int} {len : Nat} (h : inB n len = true) : 0 ≤ n ∧ n < (len : Int) := by
  simpa [inB] using h
theorem inS_spec {l h : Int} {len : Nat} (hh : inS l h len = true) : 0 ≤ l ∧ l ≤ h ∧ h ≤ (len : Int) := by
  simpa [inS, and_assoc] using hh

theorem getD_tr {i : U.I} (xs : List (U.den i)) (n : Nat) (h : n < xs.length) (d : U.den i) : (xs.map (C.encV i)).getD n .any = C.encV i (xs.getD n d) := by
  simp [h]

theorem dIndex_ok (hT : TbOk C P Tb) {t : TypeId} {x n : T U} {xv nv : V} (hx : VR C N x xv) (hn : VR C N n nv) (h : dIndex Tb t x n k = some r) (hK : ∀ v, k v = some r → K (trT C N v)) : aIndex P t xv nv K := by
  unfold dIndex at h
  split at h
  · split at h
    · rename_i s _ _ n'
      obtain ⟨h1, h2⟩ := bif_some h
      simp only [Bool.and_eq_true] at h1
      rw [hx.get (by simp), hn.get (by simp)]
      have hb := inB_spec h1.2
      refine ⟨(hT t h1.1.1).isStr.trans h1.1.2, by simpa [ByteArray.size] using hb, ?_⟩
      have := hK _ h2
      simpa [trT, byteAt] using this
    · cases h
  · cases h

theorem fitsD_ok {t : TypeId} {d : TD U} (hd : d.has = true → Facts C P t d) {y : T U} (h : fitsD d y = true) : fits P t (trT C N y) := by
  have key : d.has = true → (trT C N y).size = d.cells → (trT C N y).isAgg = d.agg → fits P t (trT C N y) := fun h1 h2 h3 =>
    ⟨(hd h1).has, by rw [h2, (hd h1).cells], by rw [h3, (hd h1).agg]⟩
  have other : (∀ fs, y ≠ .agg fs) → (d.has && !d.agg && y.isOne && Nat.beq d.cells 1) = true → fits P t (trT C N y) := fun hne h => by
    simp only [Bool.and_eq_true, Nat.beq_eq, Bool.not_eq_true'] at h
    obtain ⟨⟨⟨h1, h2⟩, h3⟩, h4⟩ := h
    refine key h1 ?_ ?_
    · rw [size_one (by rw [isOne_tr]; exact h3)]
      exact h4.symm
    · rw [isAgg_tr, h2]
      cases y <;> first | rfl | exact absurd rfl (hne _)
  unfold fitsD at h
  split at h
  · rename_i fs
    simp only [Bool.and_eq_true, Nat.beq_eq] at h
    obtain ⟨⟨⟨h1, h2⟩, h3⟩, h4⟩ := h
    refine key h1 ?_ ?_
    · simp only [trT, V.size, trTs_map]
      rw [sizes_one ((allOne_tr C N fs).2 h3)]
      simpa using h4
    · rw [isAgg_tr, h2]
  · rename_i x hne
    exact other hne h

theorem dMax_ok {x y : T U} {xv yv : V} (hx : VR C N x xv) (hy : VR C N y yv) (h : dMax x y k = some r) (hK : ∀ v, k v = some r → K (trT C N v)) : aMax xv yv K := by
  unfold dMax at h
  split at h
  · split at h
    · rw [hx.get (by simp), hy.get (by simp)]
      exact hK _ h
    · cases h
  · cases h

theorem dLen_ok (hT : TbOk C P Tb) {t : TypeId} {x : T U} {xv : V} (hx : VR C N x xv) (h : dLen Tb t x k = some r) (hK : ∀ v, k v = some r → K (trT C N v)) : aLen P t xv K := by
  unfold dLen at h
  split at h
  all_goals first | cases h | skip
  all_goals
    obtain ⟨h1, h2⟩ := bif_some h
    simp only [Bool.and_eq_true] at h1
    have hf := hT t h1.1
    rw [hx.get (by simp)]
    have := hK _ h2
  · exact ⟨by rw [hf.el]; exact h1.2, by simpa [trT, lenI] using this⟩
  · exact ⟨by rw [hf.el]; exact h1.2, by simpa [trT] using this⟩
  · exact ⟨by rw [hf.el]; exact h1.2, by simpa [trT] using this⟩
  · exact ⟨hf.isStr.trans h1.2, by simpa [trT, lenI, ByteArray.size] using this⟩

theorem dNilCheck_ok {x : T U} {xv : V} (hx : VR C N x xv) (h : dNilCheck x k = some r) (hK : ∀ v, k v = some r → K (trT C N v)) : aNilCheck xv K := by
  unfold dNilCheck at h
  split at h
  · rw [hx.get (by simp)]; exact hK _ h
  · rw [hx.get (by simp)]; exact hK _ h
  · rw [hx.get (by simp)]; exact hK _ h
  · cases h

theorem splT_tr (N : NM) (cs : List (T U)) (o : Nat) (xs : List (T U)) : (splT cs o xs).map (trT C N) = spl (cs.map (trT C N)) o (xs.map (trT C N)) := by
  simp [splT, spl, List.map_take, List.map_drop]

theorem fillT_ok (hT : TbOk C P Tb) {t : TypeId} {flds : List (Nat × TypeId)} (hf : fieldsOf P t = flds) {k : List (T U) → Option R} :
    ∀ (parts : List (Nat × T U)) (vs : List (Nat × V)) (cells : List (T U)), fillT Tb flds cells parts k = some r → vs.map (·.1) = parts.map (·.1) →
      (∀ (j : Nat) (x : Nat × T U) (v : Nat × V), parts[j]? = some x → vs[j]? = some v → VR C N x.2 v.2) → ∃ l, fillV (placeOf P t) (cells.map (trT C N)) vs = some (l.map (trT C N)) ∧ k l = some r
  | [], vs, cells, h, he, _ => by
    cases vs with
    | nil => exact ⟨cells, rfl, h⟩
    | cons _ _ => simp at he
  | (i, x) :: rest, vs, cells, h, he, hv => by
    cases vs with
    | nil => simp at he
    | cons v vs =>
      obtain ⟨j, v⟩ := v
      simp only [List.map_cons, List.cons.injEq] at he
      obtain ⟨rfl, he⟩ := he
      simp only [fillT] at h
      split at h
      · cases h
      · rename_i p hp
        obtain ⟨h1, h2⟩ := bif_some h
        simp only [Bool.and_eq_true, Nat.beq_eq, Nat.ble_eq] at h1
        obtain ⟨⟨⟨h3, h4⟩, h5⟩, h6⟩ := h1
        rw [feL_eq] at h2
        have hx : x ≠ .any := fun e => by subst e; simp [T.flat, oneAll, T.isOne] at h6
        have hxv : v = trT C N x := (hv 0 (j, x) (j, v) rfl rfl).get hx
        subst hxv
        obtain ⟨l, h7, h8⟩ := fillT_ok hT hf rest vs _ h2 he (fun j x v a b => hv (j + 1) x v (by simpa using a) (by simpa using b))
        refine ⟨l, ?_, h8⟩
        have hpl : placeOf P t j = some (p.1, P.cellsOf p.2) := by
          unfold placeOf
          rw [fieldAt_of, hf, hp]
          simp [(hT _ h3).has]
        unfold fillV
        simp only [hpl]
        rw [flat_tr]
        simp only [List.length_map]
        rw [if_pos ⟨by rw [(hT _ h3).cells]; simpa using h4, by rw [(hT _ h3).cells]; simpa using h5, (allOne_tr C N _).2 h6⟩]
        rw [splT_tr] at h7
        exact h7

theorem dBuild_ok (hT : TbOk C P Tb) {t : TypeId} {parts : List (Nat × T U)} {vs : List (Nat × V)} (he : vs.map (·.1) = parts.map (·.1)) (hv : ∀ (j : Nat) (x : Nat × T U) (v : Nat × V), parts[j]? = some x → vs[j]? = some v → VR C N x.2 v.2)
    (h : dBuild Tb t parts k = some r) (hK : ∀ v, k v = some r → K (trT C N v)) : aBuild P t vs K := by
  unfold dBuild at h
  obtain ⟨h1, h2⟩ := bif_some h
  simp only [Bool.and_eq_true] at h1
  have hf := hT t h1.1
  split at h2
  · rename_i cs hcs
    obtain ⟨l, h3, h4⟩ := fillT_ok (N := N) hT hf.flds parts vs cs h2 he hv
    refine ⟨hf.isStruct.trans h1.2, ?_⟩
    rw [hf.zero N, hcs]
    simp only [Option.map_some]
    rw [h3]
    have := hK _ h4
    simpa only [trT, trTs_map] using this
  · cases h2

theorem dBound_ok {x : Option (T U)} {xv : Option V} (hx : match x, xv with | none, none => True | some x, some v => VR C N x v | _, _ => False) {d : Int} {kk : Int → Option R} {K : Int → Prop} (h : dBound x d kk = some r) (hK : ∀ n, kk n = some r → K n) :
    boundV xv d K := by
  unfold dBound at h
  cases x with
  | none => cases xv with
    | none => exact hK _ h
    | some v => exact hx.elim
  | some x => cases xv with
    | none => exact hx.elim
    | some v =>
      simp only at h hx
      split at h
      · rw [hx.get (by simp)]
        exact hK _ h
      · cases h

theorem cutM_tr (m : TM) {i : U.I} (xs ys : List (U.den i)) : slTag (trM N (C.cells i) (xs.map (C.encV i)) m) (xs.map (C.encV i)) = trM N (C.cells i) (ys.map (C.encV i)) (cutM m xs) := by
  cases m with
  | b n => cases n <;> rfl
  | dl => cases xs <;> rfl
  | ow t nb => cases nb <;> cases xs <;> rfl

end
end Go.Den
