/-
  AL, part 19: small equations for a walk. General: no program in sight.
-/
import Derived.Test.YtdedkemkmccliaaAl18
import Derived.IntWalk
set_option linter.unusedVariables false
set_option linter.unusedSimpArgs false
namespace Go.Al

theorem thenE_normal (next : Env → S → Prop) (Q : Exit → Env → S → Prop) (e : Env) (s : S) : thenE next Q .normal e s = next e s := rfl
theorem thenE_exit (next : Env → S → Prop) (Q : Exit → Env → S → Prop) (e : Env) (s : S) (id : Nat) : thenE next Q (.exit id) e s = Q (.exit id) e s := rfl
theorem thenE_ret (next : Env → S → Prop) (Q : Exit → Env → S → Prop) (e : Env) (s : S) : thenE next Q .ret e s = Q .ret e s := rfl
theorem thenE_panic (next : Env → S → Prop) (Q : Exit → Env → S → Prop) (e : Env) (s : S) (c : List PanicEntry) : thenE next Q (.panic c) e s = Q (.panic c) e s := rfl
theorem blockE_normal (id : Nat) (Q : Exit → Env → S → Prop) (e : Env) (s : S) : blockE id Q .normal e s = Q .normal e s := rfl
theorem blockE_exit (id id' : Nat) (Q : Exit → Env → S → Prop) (e : Env) (s : S) : blockE id Q (.exit id') e s = if id' = id then Q .normal e s else Q (.exit id') e s := rfl
theorem blockE_ret (id : Nat) (Q : Exit → Env → S → Prop) (e : Env) (s : S) : blockE id Q .ret e s = Q .ret e s := rfl
theorem blockE_panic (id : Nat) (Q : Exit → Env → S → Prop) (e : Env) (s : S) (c : List PanicEntry) : blockE id Q (.panic c) e s = Q (.panic c) e s := rfl
theorem retE_normal (P : Program) (rs : List ResultVar) (Q : Outc → S → Prop) (e : Env) (s : S) : retE P rs Q .normal e s = aResults P rs e s fun xs => Q (.ret (finV xs)) s := rfl
theorem retE_ret (P : Program) (rs : List ResultVar) (Q : Outc → S → Prop) (e : Env) (s : S) : retE P rs Q .ret e s = aResults P rs e s fun xs => Q (.ret (finV xs)) s := rfl
theorem retE_panic (P : Program) (rs : List ResultVar) (Q : Outc → S → Prop) (e : Env) (s : S) (c : List PanicEntry) : retE P rs Q (.panic c) e s = Q (.pan c) s := rfl

theorem putO_some (e : Env) (d : Nat) (x : V) (j : Nat) : (e.putO (some d) x).get j = if d = j then x else e.get j := Env.get_put e d x j
theorem putO_none (e : Env) (x : V) : e.putO none x = e := rfl
theorem get_cons (k : Nat) (x : V) (r : Env) (j : Nat) : Env.get ((k, x) :: r) j = if k = j then x else Env.get r j := rfl
theorem get_nil (j : Nat) : Env.get [] j = .any := rfl
theorem ev_tmp (e : Env) (t : Nat) : e.ev (.tmp t) = e.get t := rfl
theorem ev_const (e : Env) (v : Value) : e.ev (.const v) = cV v := rfl
theorem ev_func (e : Env) (f : Nat) : e.ev (.func f) = .clo (.func f) [] := rfl
theorem cV_int (k : IntKind) (n : Int) : cV (.int k n) = .at (.int k n) := rfl
theorem cV_bool (b : Bool) : cV (.bool b) = .at (.bool b) := rfl
theorem cV_string (s : ByteArray) : cV (.string s) = .at (.string s) := rfl
theorem cV_nil : cV (.slice none 0 0) = .lst .nil [] := rfl
theorem cV_ptr : cV (.pointer none) = .at (.pointer none) := rfl
theorem keepE_cons (k : Nat) (ks : List Nat) (e : Env) : keepE (k :: ks) e = (k, e.get k) :: keepE ks e := rfl
theorem keepE_nil (e : Env) : keepE [] e = [] := rfl

theorem aBin_int (P : Program) (op : BinOp) (t : TypeId) (k : IntKind) (a b : Int) (K : V → Prop) : aBin P op t (.at (.int k a)) (.at (.int k b)) K = aInt op k a b K := by simp [aBin]
theorem aBin_bool (P : Program) (op : BinOp) (t : TypeId) (a b : Bool) (K : V → Prop) : aBin P op t (.at (.bool a)) (.at (.bool b)) K = (isBoolT P t = true ∧ aBool op a b K) := rfl
theorem aBin_str (P : Program) (op : BinOp) (t : TypeId) (a b : ByteArray) (K : V → Prop) : aBin P op t (.at (.string a)) (.at (.string b)) K = aStr op a b K := rfl
theorem aBin_nil (P : Program) (op : BinOp) (t : TypeId) (tg : Tag) (es : List V) (K : V → Prop) : aBin P op t (.lst tg es) (.lst .nil []) K = ((elT P t).isSome = true ∧ aBool op (nilB tg es) true K) := rfl
theorem aInt_add (k : IntKind) (a b : Int) (K : V → Prop) : aInt .add k a b K = K (.at (.int k (k.wrap (a + b)))) := rfl
theorem aInt_sub (k : IntKind) (a b : Int) (K : V → Prop) : aInt .sub k a b K = K (.at (.int k (k.wrap (a - b)))) := rfl
theorem aInt_mul (k : IntKind) (a b : Int) (K : V → Prop) : aInt .mul k a b K = K (.at (.int k (k.wrap (a * b)))) := rfl
theorem aInt_eql (k : IntKind) (a b : Int) (K : V → Prop) : aInt .eql k a b K = K (.at (.bool (a == b))) := rfl
theorem aInt_neq (k : IntKind) (a b : Int) (K : V → Prop) : aInt .neq k a b K = K (.at (.bool (a != b))) := rfl
theorem aInt_lss (k : IntKind) (a b : Int) (K : V → Prop) : aInt .lss k a b K = K (.at (.bool (decide (a < b)))) := rfl
theorem aInt_leq (k : IntKind) (a b : Int) (K : V → Prop) : aInt .leq k a b K = K (.at (.bool (decide (a ≤ b)))) := rfl
theorem aInt_gtr (k : IntKind) (a b : Int) (K : V → Prop) : aInt .gtr k a b K = K (.at (.bool (decide (a > b)))) := rfl
theorem aInt_geq (k : IntKind) (a b : Int) (K : V → Prop) : aInt .geq k a b K = K (.at (.bool (decide (a ≥ b)))) := rfl
theorem aBool_eql (a b : Bool) (K : V → Prop) : aBool .eql a b K = K (.at (.bool (a == b))) := rfl
theorem aBool_neq (a b : Bool) (K : V → Prop) : aBool .neq a b K = K (.at (.bool (!(a == b)))) := rfl
theorem aUn_not (b : Bool) (K : V → Prop) : aUn .not (.at (.bool b)) K = K (.at (.bool !b)) := rfl
theorem aUn_neg (k : IntKind) (n : Int) (K : V → Prop) : aUn .neg (.at (.int k n)) K = K (.at (.int k (k.wrap (0 - n)))) := rfl
theorem aLen_lst (P : Program) (t : TypeId) (tg : Tag) (es : List V) (K : V → Prop) : aLen P t (.lst tg es) K = ((elT P t).isSome = true ∧ K (.at (.int .i64 (es.length : Int)))) := rfl
theorem aLen_slice (P : Program) (t : TypeId) (a : Option Addr) (n c : Nat) (K : V → Prop) : aLen P t (.at (.slice a n c)) K = ((elT P t).isSome = true ∧ K (.at (.int .i64 (n : Int)))) := rfl
theorem aLen_str (P : Program) (t : TypeId) (s : ByteArray) (K : V → Prop) : aLen P t (.at (.string s)) K = (isStrT P t = true ∧ K (.at (.int .i64 (s.size : Int)))) := rfl
theorem aMax_int (k : IntKind) (x y : Int) (K : V → Prop) : aMax (.at (.int k x)) (.at (.int k y)) K = K (.at (.int k (if y > x then y else x))) := rfl
theorem aPick_bool (t : Bool) (a b : V) (K : V → Prop) : aPick (.at (.bool t)) a b K = K (if t then a else b) := rfl
theorem aExtract_tup (vs : List V) (i : Nat) (K : V → Prop) : aExtract (.tup vs) i K = (i < vs.length ∧ K (vs.getD i .any)) := rfl
theorem aNilCheck_rptr (y : V) (K : V → Prop) : aNilCheck (.rptr y) K = K (.rptr y) := rfl
theorem aNilCheck_ptr (a : Addr) (K : V → Prop) : aNilCheck (.at (.pointer (some a))) K = K (.at (.pointer (some a))) := rfl
theorem aLoad_rptr (P : Program) (st : S) (t : TypeId) (y : V) (K : V → Prop) : aLoad P st t (.rptr y) K = (fits P t y ∧ K y) := rfl
theorem aIndex_str (P : Program) (t : TypeId) (s : ByteArray) (k : IntKind) (n : Int) (K : V → Prop) : aIndex P t (.at (.string s)) (.at (.int k n)) K = (isStrT P t = true ∧ (0 ≤ n ∧ n < (s.size : Int)) ∧ K (.at (.int .u8 ((s.data.getD n.toNat 0).toNat : Int)))) := rfl
/- In two steps: first what the type's table says, then the rest. -/
def sLoad (P : Program) (t o : Nat) (q : Option (List V × Nat)) (K : V → Prop) : Prop :=
  match q with
  | some (cs, _) => partOk P t cs o ∧ K (partV P t cs o)
  | none => False
theorem aLoad_ptr (P : Program) (st : S) (t : TypeId) (b o : Nat) (K : V → Prop) : aLoad P st t (.at (.pointer (some ⟨b, o, none⟩))) K = sLoad P t o (look st.box b) K := by
  unfold aLoad sLoad; rfl
theorem sLoad_some (P : Program) (t o : Nat) (cs : List V) (k : Nat) (K : V → Prop) : sLoad P t o (some (cs, k)) K = (partOk P t cs o ∧ K (partV P t cs o)) := rfl
theorem sLoad_congr (P : Program) (t o : Nat) {q q' : Option (List V × Nat)} (h : q = q') (K : V → Prop) : sLoad P t o q K = sLoad P t o q' K := by rw [h]

def sStore (P : Program) (t b o : Nat) (y : V) (st : S) (q : Option (List V × Nat)) (K : S → Prop) : Prop :=
  match q with
  | some (cs, k) => hasT P t = true ∧ y.flat.length = P.cellsOf t ∧ allOne y.flat ∧ o + y.flat.length ≤ cs.length ∧ K ⟨lay st.box b (spl cs o y.flat, k), st.tg, st.nx⟩
  | none => False
theorem aStore_ptr (P : Program) (st : S) (t : TypeId) (y : V) (b o : Nat) (K : S → Prop) : aStore P st t (.at (.pointer (some ⟨b, o, none⟩))) y K = sStore P t b o y st (look st.box b) K := by
  unfold aStore sStore; rfl
theorem sStore_some (P : Program) (t b o : Nat) (y : V) (st : S) (cs : List V) (k : Nat) (K : S → Prop) : sStore P t b o y st (some (cs, k)) K =
    (hasT P t = true ∧ y.flat.length = P.cellsOf t ∧ allOne y.flat ∧ o + y.flat.length ≤ cs.length ∧ K ⟨lay st.box b (spl cs o y.flat, k), st.tg, st.nx⟩) := rfl
theorem sStore_congr (P : Program) (t b o : Nat) (y : V) (st : S) {q q' : Option (List V × Nat)} (h : q = q') (K : S → Prop) : sStore P t b o y st q K = sStore P t b o y st q' K := by rw [h]

def sFieldR (P : Program) (fs : List V) (q : Option (Nat × TypeId)) (K : V → Prop) : Prop :=
  match q with
  | some (off, ft) => allOne fs ∧ partOk P ft fs off ∧ 0 < P.cellsOf ft ∧ K (.rptr (partV P ft fs off))
  | none => False
theorem aFieldAddr_rptr (P : Program) (t : TypeId) (fs : List V) (f : Nat) (K : V → Prop) : aFieldAddr P t (.rptr (.agg fs)) f K = sFieldR P fs (fieldAt P t f) K := by
  unfold aFieldAddr sFieldR; cases fieldAt P t f <;> rfl
theorem sFieldR_some (P : Program) (fs : List V) (off : Nat) (ft : TypeId) (K : V → Prop) : sFieldR P fs (some (off, ft)) K = (allOne fs ∧ partOk P ft fs off ∧ 0 < P.cellsOf ft ∧ K (.rptr (partV P ft fs off))) := rfl
theorem sFieldR_congr (P : Program) (fs : List V) {q q' : Option (Nat × TypeId)} (h : q = q') (K : V → Prop) : sFieldR P fs q K = sFieldR P fs q' K := by rw [h]

def sFieldP (P : Program) (b o : Nat) (q : Option (Nat × TypeId)) (K : V → Prop) : Prop :=
  match q with
  | some (off, ft) => hasT P ft = true ∧ 0 < P.cellsOf ft ∧ K (.at (.pointer (some ⟨b, o + off, none⟩)))
  | none => False
theorem aFieldAddr_ptr (P : Program) (t : TypeId) (b o : Nat) (f : Nat) (K : V → Prop) : aFieldAddr P t (.at (.pointer (some ⟨b, o, none⟩))) f K = sFieldP P b o (fieldAt P t f) K := by
  unfold aFieldAddr sFieldP; cases fieldAt P t f <;> rfl
theorem sFieldP_some (P : Program) (b o off : Nat) (ft : TypeId) (K : V → Prop) : sFieldP P b o (some (off, ft)) K = (hasT P ft = true ∧ 0 < P.cellsOf ft ∧ K (.at (.pointer (some ⟨b, o + off, none⟩)))) := rfl
theorem sFieldP_congr (P : Program) (b o : Nat) {q q' : Option (Nat × TypeId)} (h : q = q') (K : V → Prop) : sFieldP P b o q K = sFieldP P b o q' K := by rw [h]

def sField (P : Program) (fs : List V) (q : Option (Nat × TypeId)) (K : V → Prop) : Prop :=
  match q with
  | some (off, ft) => allOne fs ∧ partOk P ft fs off ∧ K (partV P ft fs off)
  | none => False
theorem aField_agg (P : Program) (t : TypeId) (fs : List V) (f : Nat) (K : V → Prop) : aField P t (.agg fs) f K = sField P fs (fieldAt P t f) K := by
  unfold aField sField; cases fieldAt P t f <;> rfl
theorem sField_some (P : Program) (fs : List V) (off : Nat) (ft : TypeId) (K : V → Prop) : sField P fs (some (off, ft)) K = (allOne fs ∧ partOk P ft fs off ∧ K (partV P ft fs off)) := rfl
theorem sField_congr (P : Program) (fs : List V) {q q' : Option (Nat × TypeId)} (h : q = q') (K : V → Prop) : sField P fs q K = sField P fs q' K := by rw [h]

def sIndex (P : Program) (es : List V) (n : Int) (q : Option TypeId) (K : V → Prop) : Prop :=
  match q with
  | some el => hasT P el = true ∧ (0 ≤ n ∧ n < (es.length : Int)) ∧ (es.getD n.toNat .any).size = P.cellsOf el ∧ K (.rptr (es.getD n.toNat .any))
  | none => False
theorem aIndexAddr_lst (P : Program) (t : TypeId) (tg : Tag) (es : List V) (k : IntKind) (n : Int) (K : V → Prop) : aIndexAddr P t (.lst tg es) (.at (.int k n)) K = sIndex P es n (elT P t) K := by
  unfold aIndexAddr sIndex; cases elT P t <;> rfl
theorem sIndex_some (P : Program) (es : List V) (n : Int) (el : TypeId) (K : V → Prop) : sIndex P es n (some el) K =
    (hasT P el = true ∧ (0 ≤ n ∧ n < (es.length : Int)) ∧ (es.getD n.toNat .any).size = P.cellsOf el ∧ K (.rptr (es.getD n.toNat .any))) := rfl
theorem sIndex_congr (P : Program) {es es' : List V} (h1 : es = es') {n n' : Int} (h2 : n = n') {q q' : Option TypeId} (h : q = q') (K : V → Prop) : sIndex P es n q K = sIndex P es' n' q' K := by rw [h1, h2, h]

def sIndexM (P : Program) (b o len : Nat) (n : Int) (q : Option TypeId) (K : V → Prop) : Prop :=
  match q with
  | some el => hasT P el = true ∧ (0 ≤ n ∧ n < (len : Int)) ∧ K (.at (.pointer (some ⟨b, o + n.toNat * P.cellsOf el, none⟩)))
  | none => False
theorem aIndexAddr_slice (P : Program) (t : TypeId) (b o len cap : Nat) (k : IntKind) (n : Int) (K : V → Prop) : aIndexAddr P t (.at (.slice (some ⟨b, o, none⟩) len cap)) (.at (.int k n)) K = sIndexM P b o len n (elT P t) K := by
  unfold aIndexAddr sIndexM; cases elT P t <;> rfl
theorem sIndexM_some (P : Program) (b o len : Nat) (n : Int) (el : TypeId) (K : V → Prop) : sIndexM P b o len n (some el) K = (hasT P el = true ∧ (0 ≤ n ∧ n < (len : Int)) ∧ K (.at (.pointer (some ⟨b, o + n.toNat * P.cellsOf el, none⟩)))) := rfl
theorem sIndexM_congr (P : Program) (b o len : Nat) {n n' : Int} (h2 : n = n') {q q' : Option TypeId} (h : q = q') (K : V → Prop) : sIndexM P b o len n q K = sIndexM P b o len n' q' K := by rw [h2, h]

def sAlloc (st : S) (q : Option (List V)) (K : V → S → Prop) : Prop :=
  match q with
  | some cs => aNew st cs K
  | none => False
theorem aAlloc_eq (P : Program) (st : S) (t : TypeId) (K : V → S → Prop) : aAlloc P st t K = sAlloc st (zeroC P t) K := by unfold aAlloc sAlloc; rfl
theorem sAlloc_some (st : S) (cs : List V) (K : V → S → Prop) : sAlloc st (some cs) K = aNew st cs K := rfl
theorem sAlloc_congr (st : S) {q q' : Option (List V)} (h : q = q') (K : V → S → Prop) : sAlloc st q K = sAlloc st q' K := by rw [h]

def sBuild2 (q : Option (List V)) (K : V → Prop) : Prop :=
  match q with
  | some cs => K (.agg cs)
  | none => False
def sBuild (P : Program) (t : TypeId) (ps : List (Nat × V)) (q : Option (List V)) (K : V → Prop) : Prop :=
  match q with
  | some cs => sBuild2 (fillV (placeOf P t) cs ps) K
  | none => False
theorem aBuild_eq (P : Program) (t : TypeId) (ps : List (Nat × V)) (K : V → Prop) : aBuild P t ps K = (isStructT P t = true ∧ sBuild P t ps (zeroC P t) K) := by
  unfold aBuild sBuild sBuild2
  cases zeroC P t <;> rfl
theorem sBuild_some (P : Program) (t : TypeId) (ps : List (Nat × V)) (cs : List V) (K : V → Prop) : sBuild P t ps (some cs) K = sBuild2 (fillV (placeOf P t) cs ps) K := rfl
theorem sBuild2_some (cs : List V) (K : V → Prop) : sBuild2 (some cs) K = K (.agg cs) := rfl
theorem sBuild_congr (P : Program) (t : TypeId) (ps : List (Nat × V)) {q q' : Option (List V)} (h : q = q') (K : V → Prop) : sBuild P t ps q K = sBuild P t ps q' K := by rw [h]
theorem sBuild2_congr {q q' : Option (List V)} (h : q = q') (K : V → Prop) : sBuild2 q K = sBuild2 q' K := by rw [h]
theorem fillV_nil (place : Nat → Option (Nat × Nat)) (cs : List V) : fillV place cs [] = some cs := rfl
def sFill (place : Nat → Option (Nat × Nat)) (cs : List V) (x : V) (r : List (Nat × V)) (q : Option (Nat × Nat)) : Option (List V) :=
  match q with
  | none => none
  | some (off, size) => if x.flat.length = size ∧ off + size ≤ cs.length ∧ x.flat.all V.isOne = true then fillV place (spl cs off x.flat) r else none
theorem fillV_cons (place : Nat → Option (Nat × Nat)) (cs : List V) (i : Nat) (x : V) (r : List (Nat × V)) : fillV place cs ((i, x) :: r) = sFill place cs x r (place i) := by
  unfold sFill
  rw [fillV]
  cases place i with
  | none => rfl
  | some p => obtain ⟨off, size⟩ := p; rfl
theorem sFill_some (place : Nat → Option (Nat × Nat)) (cs : List V) (x : V) (r : List (Nat × V)) (off size : Nat) : sFill place cs x r (some (off, size)) = if x.flat.length = size ∧ off + size ≤ cs.length ∧ x.flat.all V.isOne = true then fillV place (spl cs off x.flat) r else none := rfl
def sPlace (P : Program) (q : Option (Nat × TypeId)) : Option (Nat × Nat) :=
  match q with
  | none => none
  | some (o, t) => if hasT P t = true then some (o, P.cellsOf t) else none
theorem placeOf_eq (P : Program) (t : TypeId) (i : Nat) : placeOf P t i = sPlace P (fieldAt P t i) := by
  unfold placeOf sPlace; cases fieldAt P t i with
  | none => rfl
  | some p => obtain ⟨o, t⟩ := p; rfl
theorem sPlace_some (P : Program) (o t : Nat) : sPlace P (some (o, t)) = if hasT P t = true then some (o, P.cellsOf t) else none := rfl

def sBS (P : Program) (L : Pol) (dst : Option Nat) (st : S) (n : Nat) (parts : List (Nat × V)) (q : Option TypeId) (K : V → S → Prop) : Prop :=
  match q with
  | none => False
  | some el =>
    hasT P el = true ∧ (zeroC P el).isSome = true ∧ ((zeroC P el).map List.length = some (P.cellsOf el)) ∧ n * P.cellsOf el ≤ 2 ^ 24 ∧ n ≤ maxLen ∧ parts.length = n ∧ inOrder 0 parts = true ∧ elsOk (P.cellsOf el) (parts.map fun p => p.2.untag) ∧ (parts.all fun p => p.2.flat.all V.isOne) = true ∧
    (if (dst.map L.wr).getD false = true then
      allOne (flats (parts.map fun p => p.2)) ∧ ∀ b, look st.box b = none → K (.at (.slice (some ⟨b, 0, none⟩) n n)) ⟨lay st.box b (flats (parts.map fun p => p.2), n * P.cellsOf el), st.tg, st.nx⟩
    else if (dst.map L.own).getD false = true then
      K (.lst (.own st.nx false (P.cellsOf el)) (parts.map fun p => p.2.untag)) ⟨st.box, st.nx :: st.tg, st.nx + 1⟩
    else K (.lst .no (parts.map fun p => p.2.untag)) st)
theorem aBuildSlice_eq (P : Program) (L : Pol) (dst : Option Nat) (st : S) (t : TypeId) (n : Nat) (parts : List (Nat × V)) (K : V → S → Prop) : aBuildSlice P L dst st t n parts K = sBS P L dst st n parts (elT P t) K := by
  unfold aBuildSlice sBS; cases elT P t <;> rfl
theorem sBS_congr (P : Program) (L : Pol) (dst : Option Nat) (st : S) (n : Nat) {parts parts' : List (Nat × V)} (h1 : parts = parts') {q q' : Option TypeId} (h : q = q') (K : V → S → Prop) : sBS P L dst st n parts q K = sBS P L dst st n parts' q' K := by rw [h, h1]
/-- By what the policy says of the slot. -/
def sBSk (P : Program) (st : S) (n : Nat) (parts : List (Nat × V)) (el : TypeId) (w o : Bool) (K : V → S → Prop) : Prop :=
  hasT P el = true ∧ (zeroC P el).isSome = true ∧ ((zeroC P el).map List.length = some (P.cellsOf el)) ∧ n * P.cellsOf el ≤ 2 ^ 24 ∧ n ≤ maxLen ∧ parts.length = n ∧ inOrder 0 parts = true ∧ elsOk (P.cellsOf el) (parts.map fun p => p.2.untag) ∧ (parts.all fun p => p.2.flat.all V.isOne) = true ∧
    (if w = true then
      allOne (flats (parts.map fun p => p.2)) ∧ ∀ b, look st.box b = none → K (.at (.slice (some ⟨b, 0, none⟩) n n)) ⟨lay st.box b (flats (parts.map fun p => p.2), n * P.cellsOf el), st.tg, st.nx⟩
    else if o = true then
      K (.lst (.own st.nx false (P.cellsOf el)) (parts.map fun p => p.2.untag)) ⟨st.box, st.nx :: st.tg, st.nx + 1⟩
    else K (.lst .no (parts.map fun p => p.2.untag)) st)
theorem sBS_some (P : Program) (L : Pol) (d : Nat) (st : S) (n : Nat) (parts : List (Nat × V)) (el : TypeId) (K : V → S → Prop) : sBS P L (some d) st n parts (some el) K = sBSk P st n parts el (L.wr d) (L.own d) K := rfl
theorem sBSk_congr (P : Program) (st : S) (n : Nat) (parts : List (Nat × V)) (el : TypeId) {w w' o o' : Bool} (h1 : w = w') (h2 : o = o') (K : V → S → Prop) : sBSk P st n parts el w o K = sBSk P st n parts el w' o' K := by rw [h1, h2]
theorem sBSk_ff (P : Program) (st : S) (n : Nat) (parts : List (Nat × V)) (el : TypeId) (K : V → S → Prop) : sBSk P st n parts el false false K =
    (hasT P el = true ∧ (zeroC P el).isSome = true ∧ ((zeroC P el).map List.length = some (P.cellsOf el)) ∧ n * P.cellsOf el ≤ 2 ^ 24 ∧ n ≤ maxLen ∧ parts.length = n ∧ inOrder 0 parts = true ∧ elsOk (P.cellsOf el) (parts.map fun p => p.2.untag) ∧ (parts.all fun p => p.2.flat.all V.isOne) = true ∧
      K (.lst .no (parts.map fun p => p.2.untag)) st) := rfl
theorem sBSk_ft (P : Program) (st : S) (n : Nat) (parts : List (Nat × V)) (el : TypeId) (K : V → S → Prop) : sBSk P st n parts el false true K =
    (hasT P el = true ∧ (zeroC P el).isSome = true ∧ ((zeroC P el).map List.length = some (P.cellsOf el)) ∧ n * P.cellsOf el ≤ 2 ^ 24 ∧ n ≤ maxLen ∧ parts.length = n ∧ inOrder 0 parts = true ∧ elsOk (P.cellsOf el) (parts.map fun p => p.2.untag) ∧ (parts.all fun p => p.2.flat.all V.isOne) = true ∧
      K (.lst (.own st.nx false (P.cellsOf el)) (parts.map fun p => p.2.untag)) ⟨st.box, st.nx :: st.tg, st.nx + 1⟩) := rfl
theorem sBSk_t (P : Program) (st : S) (n : Nat) (parts : List (Nat × V)) (el : TypeId) (o : Bool) (K : V → S → Prop) : sBSk P st n parts el true o K =
    (hasT P el = true ∧ (zeroC P el).isSome = true ∧ ((zeroC P el).map List.length = some (P.cellsOf el)) ∧ n * P.cellsOf el ≤ 2 ^ 24 ∧ n ≤ maxLen ∧ parts.length = n ∧ inOrder 0 parts = true ∧ elsOk (P.cellsOf el) (parts.map fun p => p.2.untag) ∧ (parts.all fun p => p.2.flat.all V.isOne) = true ∧
      allOne (flats (parts.map fun p => p.2)) ∧ ∀ b, look st.box b = none → K (.at (.slice (some ⟨b, 0, none⟩) n n)) ⟨lay st.box b (flats (parts.map fun p => p.2), n * P.cellsOf el), st.tg, st.nx⟩) := rfl
theorem all_one {p : Nat × V → Prop} (x : Nat × V) : (∀ q ∈ [x], p q) = p x := by simp
theorem all_two {p : Nat × V → Prop} (x y : Nat × V) : (∀ q ∈ [x, y], p q) = (p x ∧ p y) := by simp
theorem all_nil {p : Nat × V → Prop} : (∀ q ∈ ([] : List (Nat × V)), p q) = True := by simp
theorem elsOk_nil (sz : Nat) : elsOk sz [] = True := by simp [elsOk]
theorem elsOk_cons (sz : Nat) (x : V) (r : List V) : elsOk sz (x :: r) = (x.size = sz ∧ elsOk sz r) := by simp [elsOk]
theorem pow24 : (2 : Nat) ^ 24 = 16777216 := by decide
theorem one_le_maxLen : 1 ≤ maxLen := by simp [maxLen]
theorem two_le_maxLen : 2 ≤ maxLen := by simp [maxLen]
theorem zero_le_maxLen : 0 ≤ maxLen := Nat.zero_le _

theorem getD_map {α : Type} (l : List α) (f : α → V) (i : Nat) (h : i < l.length) : (l.map f).getD i .any = f l[i] := by simp [h]

/-- It is one of int's numbers. -/
theorem wrap_small (n : Int) (h1 : -9223372036854775808 ≤ n) (h2 : n ≤ 9223372036854775807) : IntKind.i64.wrap n = n := IntWalk.i64_in n (by omega) 

end Go.Al
