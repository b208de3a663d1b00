/-
  DEN, part 2: stores, frames, and the operations on typed values. General: no program in sight.
-/
import Derived.Test.YtdedkemkmccliaaD1
set_option linter.unusedVariables false
set_option linter.unusedSimpArgs false
namespace Go.Den
open Go.Al

/-- What is known of a type. -/
structure TD (U : TyU) where
  has : Bool := false
  agg : Bool := false
  cells : Nat := 0
  bytes : Nat := 0
  el : Option TypeId := none
  code : Option U.I := none
  flds : List (Nat × TypeId) := []
  isStruct : Bool := false
  isStr : Bool := false
  isBool : Bool := false
  zero : Option (List (T U)) := none

def fieldsOf (P : Program) (t : TypeId) : List (Nat × TypeId) := match P.underlying t with | some (.struct fs) => fs.toList.map fun f => (f.offset, f.type) | _ => []

theorem fieldAt_of (P : Program) (t : TypeId) (i : Nat) : fieldAt P t i = (fieldsOf P t)[i]? := by
  unfold fieldAt fieldsOf
  cases P.underlying t with
  | none => rfl
  | some d => cases d <;> simp

structure Facts {U : TyU} (C : Cod U) (P : Program) (t : TypeId) (d : TD U) : Prop where
  has : hasT P t = true
  agg : isAggT P t = d.agg
  cells : P.cellsOf t = d.cells
  bytes : P.bytesOf t = d.bytes
  el : elT P t = d.el
  flds : fieldsOf P t = d.flds
  isStruct : isStructT P t = d.isStruct
  isStr : isStrT P t = d.isStr
  isBool : isBoolT P t = d.isBool
  zero : ∀ N, zeroC P t = d.zero.map fun l => l.map (trT C N)
  code : ∀ i, d.code = some i → C.cells i = d.cells ∧ C.agg i = d.agg

/-- What is in a box: cells; or elements that are written. -/
inductive Bx (U : TyU) where
  | st (cs : List (T U))
  | ar (i : U.I) (xs : List (U.den i))

structure St (U : TyU) where
  bx : List (Nat × Option (Bx U))
  tg : List Nat
  nl : Nat
  nx : Nat

abbrev En (U : TyU) := List (Nat × T U)

section
variable {U : TyU}

def lk : List (Nat × Option (Bx U)) → Nat → Option (Bx U)
  | [], _ => none
  | (k, b) :: r, l => bif Nat.beq k l then b else lk r l

def eget : En U → Nat → T U
  | [], _ => .any
  | (k, x) :: r, j => bif Nat.beq k j then x else eget r j

def eput (e : En U) : Option Nat → T U → En U
  | none, _ => e
  | some d, x => (d, x) :: e

def evT (e : En U) : Operand → T U
  | .tmp t => eget e t
  | .const v => cT v
  | .global g => .con (.pointer (some ⟨g, 0, none⟩))
  | .func f => .clo (.func f) []

def hasN : List Nat → Nat → Bool
  | [], _ => false
  | k :: r, t => bif Nat.beq k t then true else hasN r t
def rmN : List Nat → Nat → List Nat
  | [], _ => []
  | k :: r, t => bif Nat.beq k t then rmN r t else k :: rmN r t

/-- A value, worked out. -/
def fe {R : Type} (x : T U) (k : T U → Option R) : Option R :=
  match x with
  | .any => k .any
  | .int a b => k (.int a b)
  | .bool b => k (.bool b)
  | .str s => k (.str s)
  | .con v => k (.con v)
  | .nil => k .nil
  | .agg fs => k (.agg fs)
  | .tup vs => k (.tup vs)
  | .lst m i xs => k (.lst m i xs)
  | .rptr x => k (.rptr x)
  | .ptr l o => k (.ptr l o)
  | .ptrE l a o => k (.ptrE l a o)
  | .sl l n => k (.sl l n)
  | .clo fn caps => k (.clo fn caps)
theorem fe_eq {R : Type} (x : T U) (k : T U → Option R) : fe x k = k x := by cases x <;> rfl

/-- A list, worked out. -/
def feL {R : Type} : List (T U) → (List (T U) → Option R) → Option R
  | [], k => k []
  | x :: xs, k => feL xs fun ys => k (x :: ys)
theorem feL_eq {R : Type} : ∀ (l : List (T U)) (k : List (T U) → Option R), feL l k = k l
  | [], _ => rfl
  | x :: xs, k => by simp [feL, feL_eq xs]

/-- A number, a store, worked out. -/
def fN {R : Type} (n : Nat) (k : Nat → Option R) : Option R :=
  match n with
  | 0 => k 0
  | m + 1 => k (Nat.succ m)
theorem fN_eq {R : Type} (n : Nat) (k : Nat → Option R) : fN n k = k n := by cases n <;> rfl
def feB {R : Type} : List (Nat × Option (Bx U)) → (List (Nat × Option (Bx U)) → Option R) → Option R
  | [], k => k []
  | p :: r, k => match p with | (l, b) => fN l fun l => feB r fun r' => k ((l, b) :: r')
theorem feB_eq {R : Type} : ∀ (l : List (Nat × Option (Bx U))) (k : List (Nat × Option (Bx U)) → Option R), feB l k = k l
  | [], _ => rfl
  | (l, b) :: r, k => by simp only [feB, fN_eq, feB_eq r]
def feS {R : Type} (st : St U) (k : St U → Option R) : Option R :=
  match st with
  | ⟨bx, tg, nl, nx⟩ => fN nl fun nl => fN nx fun nx => feB bx fun bx => k ⟨bx, tg, nl, nx⟩
theorem feS_eq {R : Type} (st : St U) (k : St U → Option R) : feS st k = k st := by
  cases st; simp only [feS, fN_eq, feB_eq]
def eputK {R : Type} (e : En U) (d : Option Nat) (x : T U) (k : En U → Option R) : Option R :=
  match d with
  | none => k e
  | some d => k ((d, x) :: e)
theorem eputK_eq {R : Type} (e : En U) (d : Option Nat) (x : T U) (k : En U → Option R) : eputK e d x k = k (eput e d x) := by cases d <;> rfl
/-- Values, worked out. -/
def feA {R : Type} : List (T U) → (List (T U) → Option R) → Option R
  | [], k => k []
  | x :: xs, k => fe x fun x => feA xs fun ys => k (x :: ys)
theorem feA_eq {R : Type} : ∀ (l : List (T U)) (k : List (T U) → Option R), feA l k = k l
  | [], _ => rfl
  | x :: xs, k => by simp only [feA, fe_eq, feA_eq xs]
def feP {R : Type} : List (Nat × T U) → (List (Nat × T U) → Option R) → Option R
  | [], k => k []
  | p :: xs, k => match p with | (i, x) => fe x fun x => feP xs fun ys => k ((i, x) :: ys)
theorem feP_eq {R : Type} : ∀ (l : List (Nat × T U)) (k : List (Nat × T U) → Option R), feP l k = k l
  | [], _ => rfl
  | (i, x) :: xs, k => by simp only [feP, fe_eq, feP_eq xs]

/- The operations' results, as they stand in what is printed. -/
def inB (n : Int) (len : Nat) : Bool := decide (0 ≤ n) && decide (n < (len : Int))
def inS (l h : Int) (len : Nat) : Bool := decide (0 ≤ l) && decide (l ≤ h) && decide (h ≤ (len : Int))
def okN (b n : Nat) : Bool := decide (n * b ≤ 140737488355328) && decide (n ≤ maxLen)
def iadd (k : IntKind) (a b : Int) : Int := k.wrap (a + b)
def isub (k : IntKind) (a b : Int) : Int := k.wrap (a - b)
def imul (k : IntKind) (a b : Int) : Int := k.wrap (a * b)
def iquo (k : IntKind) (a b : Int) : Int := k.wrap (a.tdiv b)
def irem (a b : Int) : Int := a.tmod b
def ieq (a b : Int) : Bool := a == b
def ine (a b : Int) : Bool := a != b
def ilt (a b : Int) : Bool := decide (a < b)
def ile (a b : Int) : Bool := decide (a ≤ b)
def imax (a b : Int) : Int := if b > a then b else a
def seq (a b : List UInt8) : Bool := a == b
def beqB (a b : Bool) : Bool := a == b
def okS (n : Nat) : Bool := decide ((n : Int) ≤ IntKind.i64.max)
def byteAt (s : List UInt8) (n : Int) : Int := ((s.getD n.toNat 0).toNat : Int)
def cutL {α : Type} (xs : List α) (l h : Int) : List α := (xs.take h.toNat).drop l.toNat
def lenI {α : Type} (xs : List α) : Int := (xs.length : Int)

section ops
variable {R : Type} (C : Cod U) (Tb : TypeId → TD U)

def dPick (c a b : T U) (k : T U → Option R) : Option R :=
  match c with
  | .bool t => bif t then k a else k b
  | _ => none

def dInt (op : BinOp) (kk : IntKind) (a b : Int) (k : T U → Option R) : Option R :=
  match op with
  | .add => k (.int kk (iadd kk a b))
  | .sub => k (.int kk (isub kk a b))
  | .mul => k (.int kk (imul kk a b))
  | .quo => bif ine b 0 then k (.int kk (iquo kk a b)) else none
  | .rem => bif ine b 0 then k (.int kk (irem a b)) else none
  | .eql => k (.bool (ieq a b))
  | .neq => k (.bool (ine a b))
  | .lss => k (.bool (ilt a b))
  | .leq => k (.bool (ile a b))
  | .gtr => k (.bool (ilt b a))
  | .geq => k (.bool (ile b a))
  | _ => none

def dStr (op : BinOp) (a b : List UInt8) (k : T U → Option R) : Option R :=
  match op with
  | .add => bif okS (a.length + b.length) then k (.str (a ++ b)) else none
  | .eql => k (.bool (seq a b))
  | .neq => k (.bool (!(seq a b)))
  | _ => none

def dBool (op : BinOp) (a b : Bool) (k : T U → Option R) : Option R :=
  match op with
  | .eql => k (.bool (beqB a b))
  | .neq => k (.bool (!(beqB a b)))
  | _ => none

def nilT {α : Type} : TM → List α → Bool
  | .b n, _ => n
  | .dl, xs => xs.isEmpty
  | .ow _ nb, xs => nb && xs.isEmpty

def dNil (op : BinOp) (b : Bool) (k : T U → Option R) : Option R :=
  match op with
  | .eql => k (.bool b)
  | .neq => k (.bool (!b))
  | _ => none

def dBin (op : BinOp) (t : TypeId) (x y : T U) (k : T U → Option R) : Option R :=
  match x with
  | .int ka a => (match y with | .int kb b => bif decide (ka = kb) then dInt op ka a b k else none | _ => none)
  | .bool a => (match y with | .bool b => bif (Tb t).isBool && (Tb t).has then dBool op a b k else none | _ => none)
  | .str a => (match y with | .str b => dStr op a b k | _ => none)
  | .lst m i xs => (match y with | .nil => bif (Tb t).el.isSome && (Tb t).has then dNil op (nilT m xs) k else none | _ => none)
  | .nil => (match y with | .nil => bif (Tb t).el.isSome && (Tb t).has then dNil op true k else none | _ => none)
  | _ => none

def dUn (op : UnOp) (x : T U) (k : T U → Option R) : Option R :=
  match x with
  | .bool b => (match op with | .not => k (.bool !b) | _ => none)
  | .int kk n => (match op with | .neg => k (.int kk (isub kk 0 n)) | _ => none)
  | _ => none

def dExtract (x : T U) (i : Nat) (k : T U → Option R) : Option R :=
  match x with
  | .tup vs => bif Nat.blt i vs.length then k (vs.getD i .any) else none
  | _ => none

/-- A part of a struct's cells. -/
def dPart (fs : List (T U)) (off : Nat) (d : TD U) (k : T U → Option R) : Option R :=
  bif d.has && Nat.ble (off + d.cells) fs.length && (d.agg || Nat.beq d.cells 1) then
    bif d.agg then feL ((fs.drop off).take d.cells) fun l => k (.agg l) else k (fs.getD off .any)
  else none

def dField (t : TypeId) (x : T U) (f : Nat) (k : T U → Option R) : Option R :=
  match x with
  | .agg fs => (match (Tb t).flds[f]? with
    | some p => bif (Tb t).has && oneAll fs then dPart fs p.1 (Tb p.2) k else none
    | none => none)
  | _ => none

def dFieldAddr (t : TypeId) (x : T U) (f : Nat) (k : T U → Option R) : Option R :=
  match (Tb t).flds[f]? with
  | none => none
  | some p =>
    bif (Tb t).has && (Tb p.2).has && Nat.blt 0 (Tb p.2).cells then
      match x with
      | .rptr y => (match y with
        | .agg fs => bif oneAll fs then dPart fs p.1 (Tb p.2) fun v => k (.rptr v) else none
        | _ => none)
      | .ptr l o => k (.ptr l (o + p.1))
      | .ptrE l a o => k (.ptrE l a (o + p.1))
      | _ => none
    else none

/-- The code of a slice's elements. -/
def codeEl (t : TypeId) (k : U.I → TypeId → TD U → Option R) : Option R :=
  match (Tb t).el with
  | none => none
  | some el => bif (Tb t).has && (Tb el).has then (match (Tb el).code with | some i => k i el (Tb el) | none => none) else none

def dIndexAddr (st : St U) (t : TypeId) (x n : T U) (k : T U → Option R) : Option R :=
  codeEl Tb t fun i _ _ =>
  match n with
  | .int _ n =>
    (match x with
    | .lst _ j xs => bif decide (j = i) && inB n xs.length then k (.rptr (C.enc j (xs.getD n.toNat (C.dflt j)))) else none
    | .sl l m => (match lk st.bx l with
      | some (.ar j _) => bif decide (j = i) && inB n m then k (.ptrE l n.toNat 0) else none
      | _ => none)
    | _ => none)
  | _ => none

def dIndex (t : TypeId) (x n : T U) (k : T U → Option R) : Option R :=
  match x with
  | .str s => (match n with
    | .int _ n => bif (Tb t).has && (Tb t).isStr && inB n s.length then k (.int .u8 (byteAt s n)) else none
    | _ => none)
  | _ => none

/-- A value is one of a type. -/
def fitsD (d : TD U) (y : T U) : Bool :=
  match y with
  | .agg fs => d.has && d.agg && oneAll fs && Nat.beq fs.length d.cells
  | x => d.has && !d.agg && x.isOne && Nat.beq d.cells 1

def dLoad (st : St U) (t : TypeId) (x : T U) (k : T U → Option R) : Option R :=
  match x with
  | .rptr y => bif fitsD (Tb t) y then k y else none
  | .ptr l o => (match lk st.bx l with
    | some (.st cs) => dPart cs o (Tb t) k
    | _ => none)
  | .ptrE l a o => (match lk st.bx l with
    | some (.ar i xs) => bif Nat.ble (o + (Tb t).cells) (C.cells i) && Nat.blt a xs.length then feL (C.enc i (xs.getD a (C.dflt i))).flat fun l => dPart l o (Tb t) k else none
    | _ => none)
  | _ => none

def splT (cs : List (T U)) (o : Nat) (xs : List (T U)) : List (T U) := cs.take o ++ xs ++ cs.drop (o + xs.length)

/-- Cells that are an element. -/
def asEl (a : Bool) (l : List (T U)) : T U := bif a then .agg l else l.headD .any

def dStore (st : St U) (t : TypeId) (x y : T U) (k : St U → Option R) : Option R :=
  feL y.flat fun yf =>
  bif (Tb t).has && Nat.beq yf.length (Tb t).cells && oneAll yf then
    match x with
    | .ptr l o => (match lk st.bx l with
      | some (.st cs) => bif Nat.ble (o + yf.length) cs.length && bdds st.nl st.nx yf then
          feL (splT cs o yf) fun cs' => k ⟨(l, some (.st cs')) :: st.bx, st.tg, st.nl, st.nx⟩ else none
      | _ => none)
    | .ptrE l a o => (match lk st.bx l with
      | some (.ar i xs) => bif C.plain i && Nat.ble (o + yf.length) (C.cells i) && Nat.blt a xs.length then
          C.dec i (asEl (C.agg i) (splT (C.enc i (xs.getD a (C.dflt i))).flat o yf)) fun x' => k ⟨(l, some (.ar i (xs.set a x'))) :: st.bx, st.tg, st.nl, st.nx⟩ else none
      | _ => none)
    | _ => none
  else none

def dNew (st : St U) (cs : List (T U)) (k : T U → St U → Option R) : Option R :=
  bif oneAll cs && bdds st.nl st.nx cs then k (.ptr st.nl 0) ⟨(st.nl, some (.st cs)) :: st.bx, st.tg, st.nl + 1, st.nx⟩ else none

def dAlloc (st : St U) (t : TypeId) (k : T U → St U → Option R) : Option R :=
  bif (Tb t).has then (match (Tb t).zero with | some cs => dNew st cs k | none => none) else none

def fillT (flds : List (Nat × TypeId)) : List (T U) → List (Nat × T U) → (List (T U) → Option R) → Option R
  | cells, [], k => k cells
  | cells, (i, x) :: rest, k =>
    match flds[i]? with
    | none => none
    | some p => bif (Tb p.2).has && Nat.beq x.flat.length (Tb p.2).cells && Nat.ble (p.1 + (Tb p.2).cells) cells.length && oneAll x.flat then
        feL (splT cells p.1 x.flat) fun cells' => fillT flds cells' rest k else none

def dBuild (t : TypeId) (parts : List (Nat × T U)) (k : T U → Option R) : Option R :=
  bif (Tb t).has && (Tb t).isStruct then
    (match (Tb t).zero with
    | some cs => fillT Tb (Tb t).flds cs parts fun l => k (.agg l)
    | none => none) else none

def decAll (i : U.I) : List (Nat × T U) → (List (U.den i) → Option R) → Option R
  | [], k => k []
  | p :: r, k => C.dec i p.2 fun x => decAll i r fun xs => k (x :: xs)

def inOrd : Nat → List (Nat × T U) → Bool
  | _, [] => true
  | n, (i, _) :: r => Nat.beq i n && inOrd (n + 1) r

def okParts : List (Nat × T U) → Bool
  | [] => true
  | p :: r => oneAll p.2.flat && okParts r

def wrD (wr : Nat → Bool) : Option Nat → Bool
  | some d => wr d
  | none => false

def dBuildSlice (wr own : Nat → Bool) (dst : Option Nat) (st : St U) (t : TypeId) (n : Nat) (parts : List (Nat × T U)) (k : T U → St U → Option R) : Option R :=
  codeEl Tb t fun i _ d =>
  bif (match d.zero with | some z => Nat.beq z.length d.cells | none => false) && Nat.ble (n * d.cells) 16777216 && decide (n ≤ maxLen) && Nat.beq parts.length n && inOrd 0 parts && okParts parts then
    decAll C i parts fun xs =>
      bif wrD wr dst then
        bif C.plain i then k (.sl st.nl n) ⟨(st.nl, some (.ar i xs)) :: st.bx, st.tg, st.nl + 1, st.nx⟩ else none
      else bif wrD own dst then k (.lst (.ow st.nx false) i xs) ⟨st.bx, st.nx :: st.tg, st.nl, st.nx + 1⟩
      else k (.lst (.b false) i xs) st
  else none

def dLen (t : TypeId) (x : T U) (k : T U → Option R) : Option R :=
  match x with
  | .lst _ _ xs => bif (Tb t).has && (Tb t).el.isSome then k (.int .i64 (lenI xs)) else none
  | .nil => bif (Tb t).has && (Tb t).el.isSome then k (.int .i64 0) else none
  | .sl _ n => bif (Tb t).has && (Tb t).el.isSome then k (.int .i64 (n : Int)) else none
  | .str s => bif (Tb t).has && (Tb t).isStr then k (.int .i64 (lenI s)) else none
  | _ => none

def dMax (x y : T U) (k : T U → Option R) : Option R :=
  match x with
  | .int ka a => (match y with | .int _ b => k (.int ka (imax a b)) | _ => none)
  | _ => none

/-- Lists of one code. -/
def castL {i j : U.I} (h : j = i) (xs : List (U.den j)) : List (U.den i) := h ▸ xs
def sameC {R : Type} (i j : U.I) (xs : List (U.den j)) (k : List (U.den i) → Option R) : Option R :=
  if h : j = i then k (castL h xs) else none

def dAppend (wr : Nat → Bool) (dst : Option Nat) (st : St U) (t t2 : TypeId) (s x : T U) (k : T U → St U → Option R) : Option R :=
  codeEl Tb t fun i _ d =>
  bif Nat.beq t t2 && (match d.zero with | some z => Nat.beq z.length d.cells | none => false) then
    match x with
    | .lst _ j ys' => sameC i j ys' fun ys =>
      (match s with
      | .nil => bif okN d.bytes ys.length then
          (bif wrD wr dst then
            bif !ys.isEmpty then k (.sl st.nl ys.length) ⟨(st.nl, some (.ar i ys)) :: st.bx, st.tg, st.nl + 1, st.nx⟩ else none
          else k (.lst (.ow st.nx true) i ys) ⟨st.bx, st.nx :: st.tg, st.nl, st.nx + 1⟩) else none
      | .lst m j' xs' => (match m with
        | .ow tk nb => sameC i j' xs' fun xs => bif hasN st.tg tk && okN d.bytes (xs.length + ys.length) then
            k (.lst (.ow st.nx nb) i (xs ++ ys)) ⟨st.bx, st.nx :: rmN st.tg tk, st.nl, st.nx + 1⟩ else none
        | _ => none)
      | .sl l n => (match lk st.bx l with
        | some (.ar j' xs') => sameC i j' xs' fun xs => bif wrD wr dst && Nat.ble n xs.length && okN d.bytes (n + ys.length) then
            k (.sl st.nl (n + ys.length)) ⟨(st.nl, some (.ar i (xs.take n ++ ys))) :: (l, none) :: st.bx, st.tg, st.nl + 1, st.nx⟩ else none
        | _ => none)
      | _ => none)
    | _ => none
  else none

def dBound (x : Option (T U)) (d : Int) (k : Int → Option R) : Option R :=
  match x with
  | none => k d
  | some x => (match x with | .int _ n => k n | _ => none)

def cutM {α : Type} : TM → List α → TM
  | .b n, _ => .b n
  | .dl, xs => .b xs.isEmpty
  | .ow _ nb, xs => bif nb then .b xs.isEmpty else .b false

def dSlice (st : St U) (t : TypeId) (x : T U) (lo hi : Option (T U)) (k : T U → Option R) : Option R :=
  match x with
  | .lst m j xs => codeEl Tb t fun i _ _ => bif decide (j = i) then
      dBound lo 0 fun l => dBound hi (lenI xs) fun h => bif inS l h xs.length then k (.lst (cutM m xs) j (cutL xs l h)) else none
    else none
  | .sl l0 n => codeEl Tb t fun i _ _ =>
      (match lo with
      | none => (match lk st.bx l0 with
        | some (.ar j xs) => bif decide (j = i) then dBound hi (n : Int) fun h => bif inS 0 h xs.length then k (.sl l0 h.toNat) else none else none
        | _ => none)
      | some _ => none)
  | .str s => bif (Tb t).has && (Tb t).isStr then
      dBound lo 0 fun l => dBound hi (lenI s) fun h => bif inS l h s.length then k (.str (cutL s l h)) else none
    else none
  | _ => none

def dNilCheck (x : T U) (k : T U → Option R) : Option R :=
  match x with
  | .rptr y => k (.rptr y)
  | .ptr l o => k (.ptr l o)
  | .ptrE l a o => k (.ptrE l a o)
  | _ => none

/-- Calls: what comes of a function's call. -/
abbrev Call (U : TyU) (R : Type) := Nat → List (T U) → St U → (T U → St U → Option R) → Option R

def okArgs : List (T U) → Bool
  | [] => true
  | x :: r => oneAll x.flat && okArgs r

def dCall (call : Call U R) (f : T U) (args : List (T U)) (st : St U) (k : T U → St U → Option R) : Option R :=
  match f with
  | .clo fn caps => (match fn with
    | .func n => bif caps.isEmpty && okArgs args && bdds st.nl st.nx args then call n args st k else none
    | _ => none)
  | _ => none

def dBuiltin (wr : Nat → Bool) (dst : Option Nat) (b : Builtin) (ts : List TypeId) (args : List (T U)) (st : St U) (k : T U → St U → Option R) : Option R :=
  match b with
  | .len => (match ts with | t :: _ => (match args with | [x] => dLen Tb t x fun v => k v st | _ => none) | _ => none)
  | .max => (match args with | [x, y] => dMax x y fun v => k v st | _ => none)
  | .append => (match ts with | [t, t2] => (match args with | [s, x] => dAppend Tb wr dst st t t2 s x k | _ => none) | _ => none)
  | _ => none

def evL (e : En U) : List Operand → List (T U)
  | [] => []
  | x :: r => evT e x :: evL e r
def evP (e : En U) : List (Nat × Operand) → List (Nat × T U)
  | [] => []
  | x :: r => (x.1, evT e x.2) :: evP e r
def evO (e : En U) : Option Operand → Option (T U)
  | none => none
  | some x => some (evT e x)

/-- One operation. -/
def dop (call : Call U R) (wr own : Nat → Bool) (e : En U) (st : St U) (o : Oper) (k : T U → St U → Option R) : Option R :=
  match o.op with
  | .move x => k (evT e x) st
  | .assign x => k (evT e x) st
  | .pick c a b => dPick (evT e c) (evT e a) (evT e b) fun v => k v st
  | .binOp op t x y _ => dBin Tb op t (evT e x) (evT e y) fun v => k v st
  | .unOp op _ x => dUn op (evT e x) fun v => k v st
  | .extract x i => dExtract (evT e x) i fun v => k v st
  | .field t x f => dField Tb t (evT e x) f fun v => k v st
  | .fieldAddr t x f => dFieldAddr Tb t (evT e x) f fun v => k v st
  | .indexAddr t x i => dIndexAddr C Tb st t (evT e x) (evT e i) fun v => k v st
  | .index t x i => dIndex Tb t (evT e x) (evT e i) fun v => k v st
  | .load t x => dLoad C Tb st t (evT e x) fun v => k v st
  | .store t x y => dStore C Tb st t (evT e x) (evT e y) fun st' => k .any st'
  | .alloc t => dAlloc Tb st t k
  | .box _ x => feL (evT e x).flat fun cs => dNew st cs k
  | .build t parts => feP (evP e parts.toList) fun ps => dBuild Tb t ps fun v => k v st
  | .buildSlice t n parts => feP (evP e parts.toList) fun ps => dBuildSlice C Tb wr own o.dst st t n ps k
  | .nilCheck x => dNilCheck (evT e x) fun v => k v st
  | .slice t x lo hi mx => (match mx with | none => dSlice Tb st t (evT e x) (evO e lo) (evO e hi) fun v => k v st | some _ => none)
  | .call c => (match c.callee with
    | .value f => feA (evL e c.args.toList) fun as => dCall call (evT e f) as st k
    | .builtin b => feA (evL e c.args.toList) fun as => dBuiltin Tb wr o.dst b c.argTypes.toList as st k
    | .invoke _ _ => none)
  | _ => none

/-- One operation and what comes behind it. -/
def dthen (call : Call U R) (wr own : Nat → Bool) (e : En U) (st : St U) (o : Oper) (k : En U → St U → Option R) : Option R :=
  dop C Tb call wr own e st o fun v st' => feS st' fun st' => fe v fun v => bif bdd st'.nl st'.nx v then eputK e o.dst v fun e' => k e' st' else none

def dstep (call : Call U R) (wr own : Nat → Bool) (ds : List (Option Nat)) (o : Oper) (e : En U) (st : St U) (k : En U → St U → Option R) : Option R :=
  match o.guard with
  | none => dthen C Tb call wr own e st o k
  | some g =>
    match ds.getD g.1 none with
    | none => none
    | some d => (match eget e d with
      | .bool t => bif g.2 then (bif t then dthen C Tb call wr own ((d, .bool true) :: e) st o k else eputK ((d, .bool false) :: e) o.dst (.tup []) fun e' => k e' st)
          else (bif t then eputK ((d, .bool true) :: e) o.dst (.tup []) fun e' => k e' st else dthen C Tb call wr own ((d, .bool false) :: e) st o k)
      | .tup vs => (match vs with | [] => eputK e o.dst (.tup []) fun e' => k e' st | _ :: _ => none)
      | _ => none)

def dops (call : Call U R) (wr own : Nat → Bool) (ds : List (Option Nat)) : List Oper → En U → St U → (En U → St U → Option R) → Option R
  | [], e, st, k => k e st
  | o :: os, e, st, k => dstep C Tb call wr own ds o e st fun e' st' => dops call wr own ds os e' st' k

end ops
end
end Go.Den
