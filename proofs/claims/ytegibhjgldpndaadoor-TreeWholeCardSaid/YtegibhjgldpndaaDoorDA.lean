/-
  DEN, part 1: typed values, how they are named and translated. General: no program in sight.
-/
import Derived.Test.YtegibhjgldpndaaDoorAC
set_option linter.unusedVariables false
set_option linter.unusedSimpArgs false
namespace Go.Den
open Go.Al

/-- The types of the elements that slices have. -/
structure TyU where
  I : Type
  den : I → Type
  [deq : DecidableEq I]
attribute [instance] TyU.deq

/-- How a list is a slice: nil or not, as told; nil just if empty; a growing one, by its token. -/
inductive TM where
  | b (n : Bool)
  | dl
  | ow (t : Nat) (nb : Bool)

inductive T (U : TyU) : Type where
  | any
  | int (k : IntKind) (n : Int)
  | bool (b : Bool)
  | str (s : List UInt8)
  | con (v : Value)
  | nil
  | agg (fs : List (T U))
  | tup (vs : List (T U))
  | lst (m : TM) (i : U.I) (xs : List (U.den i))
  | rptr (x : T U)
  | ptr (l : Nat) (o : Nat)
  | ptrE (l : Nat) (k : Nat) (o : Nat)
  | sl (l : Nat) (n : Nat)
  | clo (fn : Fn) (caps : List (T U))
  | ifx

instance {U : TyU} : Inhabited (T U) := ⟨.any⟩

/-- How the elements are values. -/
structure Cod (U : TyU) where
  enc : (i : U.I) → U.den i → T U
  encV : (i : U.I) → U.den i → V
  dec : (i : U.I) → {R : Type} → T U → (U.den i → Option R) → Option R
  dflt : (i : U.I) → U.den i
  cells : U.I → Nat
  agg : U.I → Bool
  plain : U.I → Bool

/-- Names: which block a place is, its capacity, how many cells an element has there; which name a token is. -/
structure NM where
  bl : Nat → Nat
  cp : Nat → Nat
  sz : Nat → Nat
  tk : Nat → Nat

section
variable {U : TyU} (C : Cod U)

def trM (N : NM) (sz : Nat) (es : List V) : TM → Tag
  | .b n => if n then .nil else .no
  | .dl => tagOf es
  | .ow t nb => .own (N.tk t) nb sz

mutual
def trT (N : NM) : T U → V
  | .any => .any
  | .int k n => .at (.int k n)
  | .bool b => .at (.bool b)
  | .str s => .at (.string ⟨s.toArray⟩)
  | .con v => .at v
  | .nil => .lst .nil []
  | .agg fs => .agg (trTs N fs)
  | .tup vs => .tup (trTs N vs)
  | .lst m i xs => .lst (trM N (C.cells i) (xs.map (C.encV i)) m) (xs.map (C.encV i))
  | .rptr x => .rptr (trT N x)
  | .ptr l o => .at (.pointer (some ⟨N.bl l, o, none⟩))
  | .ptrE l k o => .at (.pointer (some ⟨N.bl l, k * N.sz l + o, none⟩))
  | .sl l n => .at (.slice (some ⟨N.bl l, 0, none⟩) n (N.cp l))
  | .clo fn caps => .clo fn (trTs N caps)
  | .ifx => .ifx
def trTs (N : NM) : List (T U) → List V
  | [] => []
  | x :: xs => trT N x :: trTs N xs
end

theorem trTs_map (N : NM) : ∀ l : List (T U), trTs C N l = l.map (trT C N)
  | [] => rfl
  | x :: r => by simp [trTs, trTs_map N r]

mutual
/-- Places and tokens that it names are there. -/
def bdd (nl nx : Nat) : T U → Bool
  | .ptr l _ => Nat.blt l nl
  | .ptrE l _ _ => Nat.blt l nl
  | .sl l _ => Nat.blt l nl
  | .lst m _ _ => (match m with | .ow t _ => Nat.blt t nx | _ => true)
  | .agg fs => bdds nl nx fs
  | .tup fs => bdds nl nx fs
  | .rptr x => bdd nl nx x
  | .clo _ fs => bdds nl nx fs
  | _ => true
def bdds (nl nx : Nat) : List (T U) → Bool
  | [] => true
  | x :: xs => bdd nl nx x && bdds nl nx xs
end

/-- N' names as N does what is there. -/
structure Ext (nl nx : Nat) (N N' : NM) : Prop where
  bl : ∀ l, l < nl → N'.bl l = N.bl l
  cp : ∀ l, l < nl → N'.cp l = N.cp l
  sz : ∀ l, l < nl → N'.sz l = N.sz l
  tk : ∀ t, t < nx → N'.tk t = N.tk t

theorem Ext.refl (nl nx : Nat) (N : NM) : Ext nl nx N N := ⟨fun _ _ => rfl, fun _ _ => rfl, fun _ _ => rfl, fun _ _ => rfl⟩
theorem Ext.trans {nl nx nl' nx' : Nat} {N N1 N2 : NM} (h : Ext nl nx N N1) (h' : Ext nl' nx' N1 N2) (h1 : nl ≤ nl') (h2 : nx ≤ nx') : Ext nl nx N N2 :=
  ⟨fun l hl => (h'.bl l (by omega)).trans (h.bl l hl), fun l hl => (h'.cp l (by omega)).trans (h.cp l hl), fun l hl => (h'.sz l (by omega)).trans (h.sz l hl), fun l hl => (h'.tk l (by omega)).trans (h.tk l hl)⟩
theorem Ext.less {nl nx nl' nx' : Nat} {N N' : NM} (h : Ext nl nx N N') (h1 : nl' ≤ nl) (h2 : nx' ≤ nx) : Ext nl' nx' N N' :=
  ⟨fun l hl => h.bl l (by omega), fun l hl => h.cp l (by omega), fun l hl => h.sz l (by omega), fun l hl => h.tk l (by omega)⟩

theorem blt_lt {a b : Nat} (h : Nat.blt a b = true) : a < b := by simpa [Nat.blt_eq] using h

mutual
theorem trT_ext {nl nx : Nat} {N N' : NM} (h : Ext nl nx N N') : ∀ x : T U, bdd nl nx x = true → trT C N' x = trT C N x
  | .any, _ => rfl
  | .ifx, _ => rfl
  | .int _ _, _ => rfl
  | .bool _, _ => rfl
  | .str _, _ => rfl
  | .con _, _ => rfl
  | .nil, _ => rfl
  | .agg fs, hb => by simp only [trT]; rw [trTs_ext h fs (by simpa only [bdd] using hb)]
  | .tup fs, hb => by simp only [trT]; rw [trTs_ext h fs (by simpa only [bdd] using hb)]
  | .lst m i xs, hb => by
    simp only [trT]
    cases m with
    | b n => rfl
    | dl => rfl
    | ow t nb =>
      simp only [bdd] at hb
      simp only [trM, h.tk t (blt_lt hb)]
  | .rptr x, hb => by simp only [trT]; rw [trT_ext h x (by simpa only [bdd] using hb)]
  | .ptr l o, hb => by simp only [bdd] at hb; simp only [trT, h.bl l (blt_lt hb)]
  | .ptrE l k o, hb => by simp only [bdd] at hb; simp only [trT, h.bl l (blt_lt hb), h.sz l (blt_lt hb)]
  | .sl l n, hb => by simp only [bdd] at hb; simp only [trT, h.bl l (blt_lt hb), h.cp l (blt_lt hb)]
  | .clo fn fs, hb => by simp only [trT]; rw [trTs_ext h fs (by simpa only [bdd] using hb)]
theorem trTs_ext {nl nx : Nat} {N N' : NM} (h : Ext nl nx N N') : ∀ xs : List (T U), bdds nl nx xs = true → trTs C N' xs = trTs C N xs
  | [], _ => rfl
  | x :: xs, hb => by
    simp only [bdds, Bool.and_eq_true] at hb
    simp only [trTs]
    rw [trT_ext h x hb.1, trTs_ext h xs hb.2]
end

theorem blt_mono {a b c : Nat} (h : Nat.blt a b = true) (hb : b ≤ c) : Nat.blt a c = true := by
  have := blt_lt h
  simp [Nat.blt_eq]; omega

mutual
theorem bdd_mono {nl nx nl' nx' : Nat} (h1 : nl ≤ nl') (h2 : nx ≤ nx') : ∀ x : T U, bdd nl nx x = true → bdd nl' nx' x = true
  | .any, _ => rfl
  | .ifx, _ => rfl
  | .int _ _, _ => rfl
  | .bool _, _ => rfl
  | .str _, _ => rfl
  | .con _, _ => rfl
  | .nil, _ => rfl
  | .agg fs, hb => by simp only [bdd] at hb ⊢; exact bdds_mono h1 h2 fs hb
  | .tup fs, hb => by simp only [bdd] at hb ⊢; exact bdds_mono h1 h2 fs hb
  | .lst m i xs, hb => by
    cases m with
    | b n => rfl
    | dl => rfl
    | ow t nb => simp only [bdd] at hb ⊢; exact blt_mono hb h2
  | .rptr x, hb => by simp only [bdd] at hb ⊢; exact bdd_mono h1 h2 x hb
  | .ptr l o, hb => by simp only [bdd] at hb ⊢; exact blt_mono hb h1
  | .ptrE l k o, hb => by simp only [bdd] at hb ⊢; exact blt_mono hb h1
  | .sl l n, hb => by simp only [bdd] at hb ⊢; exact blt_mono hb h1
  | .clo fn fs, hb => by simp only [bdd] at hb ⊢; exact bdds_mono h1 h2 fs hb
theorem bdds_mono {nl nx nl' nx' : Nat} (h1 : nl ≤ nl') (h2 : nx ≤ nx') : ∀ xs : List (T U), bdds nl nx xs = true → bdds nl' nx' xs = true
  | [], _ => rfl
  | x :: xs, hb => by
    simp only [bdds, Bool.and_eq_true] at hb ⊢
    exact ⟨bdd_mono h1 h2 x hb.1, bdds_mono h1 h2 xs hb.2⟩
end

/-- What holds of how elements are values. -/
structure CodOk : Prop where
  enc : ∀ N i x, trT C N (C.enc i x) = C.encV i x
  bd : ∀ i x, bdd 0 0 (C.enc i x) = true
  dec : ∀ i {R : Type} v (k : U.den i → Option R) r, C.dec i v k = some r → ∃ x, k x = some r ∧ ∀ N, (trT C N v).untag = C.encV i x
  decP : ∀ i {R : Type} v (k : U.den i → Option R) r, C.plain i = true → C.dec i v k = some r → ∃ x, k x = some r ∧ ∀ N, trT C N v = C.encV i x
  size : ∀ i x, (C.encV i x).size = C.cells i
  isAgg : ∀ i x, (C.encV i x).isAgg = C.agg i
  ones : ∀ i x, allOne (C.encV i x).flat
  untag : ∀ i x, (C.encV i x).untag = C.encV i x
  one : ∀ i, C.agg i = false → C.cells i = 1
  pos : ∀ i, 0 < C.cells i

def T.flat : T U → List (T U)
  | .agg fs => fs
  | x => [x]
def T.isOne : T U → Bool
  | .any | .agg _ | .tup _ => false
  | _ => true
def oneAll (l : List (T U)) : Bool := l.all T.isOne

theorem flat_tr (N : NM) (x : T U) : (trT C N x).flat = x.flat.map (trT C N) := by
  cases x <;> simp [T.flat, trT, V.flat, trTs_map]
theorem isOne_tr (N : NM) (x : T U) : (trT C N x).isOne = x.isOne := by
  cases x <;> rfl
theorem allOne_tr (N : NM) (l : List (T U)) : allOne (l.map (trT C N)) ↔ oneAll l = true := by
  unfold allOne oneAll
  rw [List.all_map]
  have : (V.isOne ∘ trT C N) = T.isOne := funext fun x => isOne_tr C N x
  rw [this]
theorem isAgg_tr (N : NM) (x : T U) : (trT C N x).isAgg = (match x with | .agg _ => true | _ => false) := by
  cases x <;> rfl

/-- A constant. -/
def cT1 : Value → T U
  | .slice none 0 0 => .nil
  | .agg _ => .any
  | .tuple _ => .any
  | .int k n => .int k n
  | .bool b => .bool b
  | .string s => .str s.data.toList
  | v => .con v
def cT : Value → T U
  | .agg cs => if cs.toList.all one then .agg (cs.toList.map cT1) else .any
  | v => cT1 v

theorem cT1_tr (N : NM) (v : Value) : trT C N (cT1 v) = cV1 v := by
  unfold cT1
  split <;> simp [trT, cV1]
theorem cT_tr (N : NM) (v : Value) : trT C N (cT v) = cV v := by
  unfold cT cV
  cases v <;> simp only [cT1_tr]
  split
  · simp only [trT, trTs_map, List.map_map]
    congr 1
    exact List.map_congr_left fun v _ => cT1_tr C N v
  · rfl

end
end Go.Den

/-
  DEN, part 2: stores, frames, and the operations on typed values. General: no program in sight.
-/
namespace Go.Den
open Go.Al

/-- What is known of a type. -/
structure TD (U : TyU) where
  has : Bool := false
  agg : Bool := false
  cells : Nat := 0
  bytes : Nat := 0
  el : Option TypeId := none
  code : Option U.I := none
  flds : List (Nat × TypeId) := []
  isStruct : Bool := false
  isStr : Bool := false
  isBool : Bool := false
  isIfc : Bool := false
  ik : Option IntKind := none
  zero : Option (List (T U)) := none

def fieldsOf (P : Program) (t : TypeId) : List (Nat × TypeId) := match P.underlying t with | some (.struct fs) => fs.toList.map fun f => (f.offset, f.type) | _ => []

theorem fieldAt_of (P : Program) (t : TypeId) (i : Nat) : fieldAt P t i = (fieldsOf P t)[i]? := by
  unfold fieldAt fieldsOf
  cases P.underlying t with
  | none => rfl
  | some d => cases d <;> simp

structure Facts {U : TyU} (C : Cod U) (P : Program) (t : TypeId) (d : TD U) : Prop where
  has : hasT P t = true
  agg : isAggT P t = d.agg
  cells : P.cellsOf t = d.cells
  bytes : P.bytesOf t = d.bytes
  el : elT P t = d.el
  flds : fieldsOf P t = d.flds
  isStruct : isStructT P t = d.isStruct
  isStr : isStrT P t = d.isStr
  isBool : isBoolT P t = d.isBool
  isIfc : isIfcT P t = d.isIfc
  ik : intT P t = d.ik
  zero : ∀ N, zeroC P t = d.zero.map fun l => l.map (trT C N)
  code : ∀ i, d.code = some i → C.cells i = d.cells ∧ C.agg i = d.agg

/-- What is in a box: cells; or elements that are written. -/
inductive Bx (U : TyU) where
  | st (cs : List (T U))
  | ar (i : U.I) (xs : List (U.den i))

structure St (U : TyU) where
  bx : List (Nat × Option (Bx U))
  tg : List Nat
  nl : Nat
  nx : Nat

abbrev En (U : TyU) := List (Nat × T U)

section
variable {U : TyU}

def lk : List (Nat × Option (Bx U)) → Nat → Option (Bx U)
  | [], _ => none
  | (k, b) :: r, l => bif Nat.beq k l then b else lk r l

def eget : En U → Nat → T U
  | [], _ => .any
  | (k, x) :: r, j => bif Nat.beq k j then x else eget r j

def eput (e : En U) : Option Nat → T U → En U
  | none, _ => e
  | some d, x => (d, x) :: e

def evT (e : En U) : Operand → T U
  | .tmp t => eget e t
  | .const v => cT v
  | .global g => .con (.pointer (some ⟨g, 0, none⟩))
  | .func f => .clo (.func f) []

def hasN : List Nat → Nat → Bool
  | [], _ => false
  | k :: r, t => bif Nat.beq k t then true else hasN r t
def rmN : List Nat → Nat → List Nat
  | [], _ => []
  | k :: r, t => bif Nat.beq k t then rmN r t else k :: rmN r t

/-- A value, worked out. -/
def fe {R : Type} (x : T U) (k : T U → Option R) : Option R :=
  match x with
  | .any => k .any
  | .int a b => k (.int a b)
  | .bool b => k (.bool b)
  | .str s => k (.str s)
  | .con v => k (.con v)
  | .nil => k .nil
  | .agg fs => k (.agg fs)
  | .tup vs => k (.tup vs)
  | .lst m i xs => k (.lst m i xs)
  | .rptr x => k (.rptr x)
  | .ptr l o => k (.ptr l o)
  | .ptrE l a o => k (.ptrE l a o)
  | .sl l n => k (.sl l n)
  | .clo fn caps => k (.clo fn caps)
  | .ifx => k .ifx
theorem fe_eq {R : Type} (x : T U) (k : T U → Option R) : fe x k = k x := by cases x <;> rfl

/-- A list, worked out. -/
def feL {R : Type} : List (T U) → (List (T U) → Option R) → Option R
  | [], k => k []
  | x :: xs, k => feL xs fun ys => k (x :: ys)
theorem feL_eq {R : Type} : ∀ (l : List (T U)) (k : List (T U) → Option R), feL l k = k l
  | [], _ => rfl
  | x :: xs, k => by simp [feL, feL_eq xs]

/-- A number, a store, worked out. -/
def fN {R : Type} (n : Nat) (k : Nat → Option R) : Option R :=
  match n with
  | 0 => k 0
  | m + 1 => k (Nat.succ m)
theorem fN_eq {R : Type} (n : Nat) (k : Nat → Option R) : fN n k = k n := by cases n <;> rfl
def feB {R : Type} : List (Nat × Option (Bx U)) → (List (Nat × Option (Bx U)) → Option R) → Option R
  | [], k => k []
  | p :: r, k => match p with | (l, b) => fN l fun l => feB r fun r' => k ((l, b) :: r')
theorem feB_eq {R : Type} : ∀ (l : List (Nat × Option (Bx U))) (k : List (Nat × Option (Bx U)) → Option R), feB l k = k l
  | [], _ => rfl
  | (l, b) :: r, k => by simp only [feB, fN_eq, feB_eq r]
def feS {R : Type} (st : St U) (k : St U → Option R) : Option R :=
  match st with
  | ⟨bx, tg, nl, nx⟩ => fN nl fun nl => fN nx fun nx => feB bx fun bx => k ⟨bx, tg, nl, nx⟩
theorem feS_eq {R : Type} (st : St U) (k : St U → Option R) : feS st k = k st := by
  cases st; simp only [feS, fN_eq, feB_eq]
def eputK {R : Type} (e : En U) (d : Option Nat) (x : T U) (k : En U → Option R) : Option R :=
  match d with
  | none => k e
  | some d => k ((d, x) :: e)
theorem eputK_eq {R : Type} (e : En U) (d : Option Nat) (x : T U) (k : En U → Option R) : eputK e d x k = k (eput e d x) := by cases d <;> rfl
/-- Values, worked out. -/
def feA {R : Type} : List (T U) → (List (T U) → Option R) → Option R
  | [], k => k []
  | x :: xs, k => fe x fun x => feA xs fun ys => k (x :: ys)
theorem feA_eq {R : Type} : ∀ (l : List (T U)) (k : List (T U) → Option R), feA l k = k l
  | [], _ => rfl
  | x :: xs, k => by simp only [feA, fe_eq, feA_eq xs]
def feP {R : Type} : List (Nat × T U) → (List (Nat × T U) → Option R) → Option R
  | [], k => k []
  | p :: xs, k => match p with | (i, x) => fe x fun x => feP xs fun ys => k ((i, x) :: ys)
theorem feP_eq {R : Type} : ∀ (l : List (Nat × T U)) (k : List (Nat × T U) → Option R), feP l k = k l
  | [], _ => rfl
  | (i, x) :: xs, k => by simp only [feP, fe_eq, feP_eq xs]

/- The operations' results, as they stand in what is printed. -/
def inB (n : Int) (len : Nat) : Bool := decide (0 ≤ n) && decide (n < (len : Int))
def inS (l h : Int) (len : Nat) : Bool := decide (0 ≤ l) && decide (l ≤ h) && decide (h ≤ (len : Int))
def okN (b n : Nat) : Bool := decide (n * b ≤ 140737488355328) && decide (n ≤ maxLen)
def iadd (k : IntKind) (a b : Int) : Int := k.wrap (a + b)
def isub (k : IntKind) (a b : Int) : Int := k.wrap (a - b)
def imul (k : IntKind) (a b : Int) : Int := k.wrap (a * b)
def iquo (k : IntKind) (a b : Int) : Int := k.wrap (a.tdiv b)
def iwrap (k : IntKind) (a : Int) : Int := k.wrap a
def irem (a b : Int) : Int := a.tmod b
def ieq (a b : Int) : Bool := a == b
def ine (a b : Int) : Bool := a != b
def ilt (a b : Int) : Bool := decide (a < b)
def ile (a b : Int) : Bool := decide (a ≤ b)
def imax (a b : Int) : Int := if b > a then b else a
def seq (a b : List UInt8) : Bool := a == b
def beqB (a b : Bool) : Bool := a == b
def okS (n : Nat) : Bool := Nat.ble n 9223372036854775807
theorem okS_le {n : Nat} (h : okS n = true) : (n : Int) ≤ IntKind.i64.max := by
  have h1 : n ≤ 9223372036854775807 := Nat.le_of_ble_eq_true h
  have h2 : IntKind.i64.max = 9223372036854775807 := by decide
  omega
def byteAt (s : List UInt8) (n : Int) : Int := ((s.getD n.toNat 0).toNat : Int)
def cutL {α : Type} (xs : List α) (l h : Int) : List α := (xs.take h.toNat).drop l.toNat
def lenI {α : Type} (xs : List α) : Int := (xs.length : Int)

section ops
variable {R : Type} (C : Cod U) (Tb : TypeId → TD U)

def dPick (c a b : T U) (k : T U → Option R) : Option R :=
  match c with
  | .bool t => bif t then k a else k b
  | _ => none

def dInt (op : BinOp) (kk : IntKind) (a b : Int) (k : T U → Option R) : Option R :=
  match op with
  | .add => k (.int kk (iadd kk a b))
  | .sub => k (.int kk (isub kk a b))
  | .mul => k (.int kk (imul kk a b))
  | .quo => bif ine b 0 then k (.int kk (iquo kk a b)) else none
  | .rem => bif ine b 0 then k (.int kk (irem a b)) else none
  | .eql => k (.bool (ieq a b))
  | .neq => k (.bool (ine a b))
  | .lss => k (.bool (ilt a b))
  | .leq => k (.bool (ile a b))
  | .gtr => k (.bool (ilt b a))
  | .geq => k (.bool (ile b a))
  | _ => none

def dStr (op : BinOp) (a b : List UInt8) (k : T U → Option R) : Option R :=
  match op with
  | .add => bif okS (a.length + b.length) then k (.str (a ++ b)) else none
  | .eql => k (.bool (seq a b))
  | .neq => k (.bool (!(seq a b)))
  | _ => none

def dBool (op : BinOp) (a b : Bool) (k : T U → Option R) : Option R :=
  match op with
  | .eql => k (.bool (beqB a b))
  | .neq => k (.bool (!(beqB a b)))
  | _ => none

def nilT {α : Type} : TM → List α → Bool
  | .b n, _ => n
  | .dl, xs => xs.isEmpty
  | .ow _ nb, xs => nb && xs.isEmpty

def dNil (op : BinOp) (b : Bool) (k : T U → Option R) : Option R :=
  match op with
  | .eql => k (.bool b)
  | .neq => k (.bool (!b))
  | _ => none

def isNilI : Value → Bool
  | .nilIface => true
  | _ => false

def dBin (op : BinOp) (t : TypeId) (c : Bool) (x y : T U) (k : T U → Option R) : Option R :=
  match x with
  | .int ka a => (match y with | .int kb b => bif decide (ka = kb) then dInt op ka a b k else none | _ => none)
  | .bool a => (match y with | .bool b => bif (Tb t).isBool && (Tb t).has then dBool op a b k else none | _ => none)
  | .str a => (match y with | .str b => dStr op a b k | _ => none)
  | .lst m i xs => (match y with | .nil => bif (Tb t).el.isSome && (Tb t).has then dNil op (nilT m xs) k else none | _ => none)
  | .nil => (match y with | .nil => bif (Tb t).el.isSome && (Tb t).has then dNil op true k else none | _ => none)
  | .ifx => (match y with | .con v => bif isNilI v && (Tb t).isIfc && (Tb t).has then dNil op false k else none | _ => none)
  | .con u => (match y with | .con v => bif isNilI u && isNilI v && (Tb t).isIfc && (Tb t).has && c then dNil op true k else none | _ => none)
  | _ => none

/-- A conversion. -/
def dConv (f t : TypeId) (x : T U) (k : T U → Option R) : Option R :=
  match x with
  | .int _ n => (match (Tb t).ik with | some kk => bif (Tb t).has && (Tb f).has then k (.int kk (iwrap kk n)) else none | none => none)
  | .str s => bif (Tb t).has && (Tb f).has && (Tb t).isStr && (Tb f).isStr then k (.str s) else none
  | _ => none

def dUn (op : UnOp) (x : T U) (k : T U → Option R) : Option R :=
  match x with
  | .bool b => (match op with | .not => k (.bool !b) | _ => none)
  | .int kk n => (match op with | .neg => k (.int kk (isub kk 0 n)) | _ => none)
  | _ => none

def dExtract (x : T U) (i : Nat) (k : T U → Option R) : Option R :=
  match x with
  | .tup vs => bif Nat.blt i vs.length then k (vs.getD i .any) else none
  | _ => none

/-- A part of a struct's cells. -/
def dPart (fs : List (T U)) (off : Nat) (d : TD U) (k : T U → Option R) : Option R :=
  bif d.has && Nat.ble (off + d.cells) fs.length && (d.agg || Nat.beq d.cells 1) then
    bif d.agg then feL ((fs.drop off).take d.cells) fun l => k (.agg l) else k (fs.getD off .any)
  else none

def dField (t : TypeId) (x : T U) (f : Nat) (k : T U → Option R) : Option R :=
  match x with
  | .agg fs => (match (Tb t).flds[f]? with
    | some p => bif (Tb t).has && oneAll fs then dPart fs p.1 (Tb p.2) k else none
    | none => none)
  | _ => none

def dFieldAddr (t : TypeId) (x : T U) (f : Nat) (k : T U → Option R) : Option R :=
  match (Tb t).flds[f]? with
  | none => none
  | some p =>
    bif (Tb t).has && (Tb p.2).has && Nat.blt 0 (Tb p.2).cells then
      match x with
      | .rptr y => (match y with
        | .agg fs => bif oneAll fs then dPart fs p.1 (Tb p.2) fun v => k (.rptr v) else none
        | _ => none)
      | .ptr l o => k (.ptr l (o + p.1))
      | .ptrE l a o => k (.ptrE l a (o + p.1))
      | _ => none
    else none

/-- The code of a slice's elements. -/
def codeEl (t : TypeId) (k : U.I → TypeId → TD U → Option R) : Option R :=
  match (Tb t).el with
  | none => none
  | some el => bif (Tb t).has && (Tb el).has then (match (Tb el).code with | some i => k i el (Tb el) | none => none) else none

def dIndexAddr (st : St U) (t : TypeId) (x n : T U) (k : T U → Option R) : Option R :=
  codeEl Tb t fun i _ _ =>
  match n with
  | .int _ n =>
    (match x with
    | .lst _ j xs => bif decide (j = i) && inB n xs.length then k (.rptr (C.enc j (xs.getD n.toNat (C.dflt j)))) else none
    | .sl l m => (match lk st.bx l with
      | some (.ar j _) => bif decide (j = i) && inB n m then k (.ptrE l n.toNat 0) else none
      | _ => none)
    | _ => none)
  | _ => none

def dIndex (t : TypeId) (x n : T U) (k : T U → Option R) : Option R :=
  match x with
  | .str s => (match n with
    | .int _ n => bif (Tb t).has && (Tb t).isStr && inB n s.length then k (.int .u8 (byteAt s n)) else none
    | _ => none)
  | _ => none

/-- A value is one of a type. -/
def fitsD (d : TD U) (y : T U) : Bool :=
  match y with
  | .agg fs => d.has && d.agg && oneAll fs && Nat.beq fs.length d.cells
  | x => d.has && !d.agg && x.isOne && Nat.beq d.cells 1

def dLoad (st : St U) (t : TypeId) (x : T U) (k : T U → Option R) : Option R :=
  match x with
  | .rptr y => bif fitsD (Tb t) y then k y else none
  | .ptr l o => (match lk st.bx l with
    | some (.st cs) => dPart cs o (Tb t) k
    | _ => none)
  | .ptrE l a o => (match lk st.bx l with
    | some (.ar i xs) => bif Nat.ble (o + (Tb t).cells) (C.cells i) && Nat.blt a xs.length then feL (C.enc i (xs.getD a (C.dflt i))).flat fun l => dPart l o (Tb t) k else none
    | _ => none)
  | _ => none

def splT (cs : List (T U)) (o : Nat) (xs : List (T U)) : List (T U) := cs.take o ++ xs ++ cs.drop (o + xs.length)

/-- Cells that are an element. -/
def asEl (a : Bool) (l : List (T U)) : T U := bif a then .agg l else l.headD .any

def dStore (st : St U) (t : TypeId) (x y : T U) (k : St U → Option R) : Option R :=
  feL y.flat fun yf =>
  bif (Tb t).has && Nat.beq yf.length (Tb t).cells && oneAll yf then
    match x with
    | .ptr l o => (match lk st.bx l with
      | some (.st cs) => bif Nat.ble (o + yf.length) cs.length && bdds st.nl st.nx yf then
          feL (splT cs o yf) fun cs' => k ⟨(l, some (.st cs')) :: st.bx, st.tg, st.nl, st.nx⟩ else none
      | _ => none)
    | .ptrE l a o => (match lk st.bx l with
      | some (.ar i xs) => bif C.plain i && Nat.ble (o + yf.length) (C.cells i) && Nat.blt a xs.length then
          C.dec i (asEl (C.agg i) (splT (C.enc i (xs.getD a (C.dflt i))).flat o yf)) fun x' => k ⟨(l, some (.ar i (xs.set a x'))) :: st.bx, st.tg, st.nl, st.nx⟩ else none
      | _ => none)
    | _ => none
  else none

def dNew (st : St U) (cs : List (T U)) (k : T U → St U → Option R) : Option R :=
  bif oneAll cs && bdds st.nl st.nx cs then k (.ptr st.nl 0) ⟨(st.nl, some (.st cs)) :: st.bx, st.tg, st.nl + 1, st.nx⟩ else none

def dAlloc (st : St U) (t : TypeId) (k : T U → St U → Option R) : Option R :=
  bif (Tb t).has then (match (Tb t).zero with | some cs => dNew st cs k | none => none) else none

def fillT (flds : List (Nat × TypeId)) : List (T U) → List (Nat × T U) → (List (T U) → Option R) → Option R
  | cells, [], k => k cells
  | cells, (i, x) :: rest, k =>
    match flds[i]? with
    | none => none
    | some p => bif (Tb p.2).has && Nat.beq x.flat.length (Tb p.2).cells && Nat.ble (p.1 + (Tb p.2).cells) cells.length && oneAll x.flat then
        feL (splT cells p.1 x.flat) fun cells' => fillT flds cells' rest k else none

def dBuild (t : TypeId) (parts : List (Nat × T U)) (k : T U → Option R) : Option R :=
  bif (Tb t).has && (Tb t).isStruct then
    (match (Tb t).zero with
    | some cs => fillT Tb (Tb t).flds cs parts fun l => k (.agg l)
    | none => none) else none

def decAll (i : U.I) : List (Nat × T U) → (List (U.den i) → Option R) → Option R
  | [], k => k []
  | p :: r, k => C.dec i p.2 fun x => decAll i r fun xs => k (x :: xs)

def inOrd : Nat → List (Nat × T U) → Bool
  | _, [] => true
  | n, (i, _) :: r => Nat.beq i n && inOrd (n + 1) r

def okParts : List (Nat × T U) → Bool
  | [] => true
  | p :: r => oneAll p.2.flat && okParts r

def wrD (wr : Nat → Bool) : Option Nat → Bool
  | some d => wr d
  | none => false

def dBuildSlice (wr own : Nat → Bool) (dst : Option Nat) (st : St U) (t : TypeId) (n : Nat) (parts : List (Nat × T U)) (k : T U → St U → Option R) : Option R :=
  codeEl Tb t fun i _ d =>
  bif (match d.zero with | some z => Nat.beq z.length d.cells | none => false) && Nat.ble (n * d.cells) 16777216 && decide (n ≤ maxLen) && Nat.beq parts.length n && inOrd 0 parts && okParts parts then
    decAll C i parts fun xs =>
      bif wrD wr dst then
        bif C.plain i then k (.sl st.nl n) ⟨(st.nl, some (.ar i xs)) :: st.bx, st.tg, st.nl + 1, st.nx⟩ else none
      else bif wrD own dst then k (.lst (.ow st.nx false) i xs) ⟨st.bx, st.nx :: st.tg, st.nl, st.nx + 1⟩
      else k (.lst (.b false) i xs) st
  else none

def dLen (t : TypeId) (x : T U) (k : T U → Option R) : Option R :=
  match x with
  | .lst _ _ xs => bif (Tb t).has && (Tb t).el.isSome then k (.int .i64 (lenI xs)) else none
  | .nil => bif (Tb t).has && (Tb t).el.isSome then k (.int .i64 0) else none
  | .sl _ n => bif (Tb t).has && (Tb t).el.isSome then k (.int .i64 (n : Int)) else none
  | .str s => bif (Tb t).has && (Tb t).isStr then k (.int .i64 (lenI s)) else none
  | _ => none

def dMax (x y : T U) (k : T U → Option R) : Option R :=
  match x with
  | .int ka a => (match y with | .int _ b => k (.int ka (imax a b)) | _ => none)
  | _ => none

/-- Lists of one code. -/
def castL {i j : U.I} (h : j = i) (xs : List (U.den j)) : List (U.den i) := h ▸ xs
def sameC {R : Type} (i j : U.I) (xs : List (U.den j)) (k : List (U.den i) → Option R) : Option R :=
  if h : j = i then k (castL h xs) else none

def dAppend (wr : Nat → Bool) (dst : Option Nat) (st : St U) (t t2 : TypeId) (s x : T U) (k : T U → St U → Option R) : Option R :=
  codeEl Tb t fun i _ d =>
  bif Nat.beq t t2 && (match d.zero with | some z => Nat.beq z.length d.cells | none => false) then
    match x with
    | .lst _ j ys' => sameC i j ys' fun ys =>
      (match s with
      | .nil => bif okN d.bytes ys.length then
          (bif wrD wr dst then
            bif !ys.isEmpty then k (.sl st.nl ys.length) ⟨(st.nl, some (.ar i ys)) :: st.bx, st.tg, st.nl + 1, st.nx⟩ else none
          else k (.lst (.ow st.nx true) i ys) ⟨st.bx, st.nx :: st.tg, st.nl, st.nx + 1⟩) else none
      | .lst m j' xs' => (match m with
        | .ow tk nb => sameC i j' xs' fun xs => bif hasN st.tg tk && okN d.bytes (xs.length + ys.length) then
            k (.lst (.ow st.nx nb) i (xs ++ ys)) ⟨st.bx, st.nx :: rmN st.tg tk, st.nl, st.nx + 1⟩ else none
        | _ => none)
      | .sl l n => (match lk st.bx l with
        | some (.ar j' xs') => sameC i j' xs' fun xs => bif wrD wr dst && Nat.ble n xs.length && okN d.bytes (n + ys.length) then
            k (.sl st.nl (n + ys.length)) ⟨(st.nl, some (.ar i (xs.take n ++ ys))) :: (l, none) :: st.bx, st.tg, st.nl + 1, st.nx⟩ else none
        | _ => none)
      | _ => none)
    | _ => none
  else none

def dBound (x : Option (T U)) (d : Int) (k : Int → Option R) : Option R :=
  match x with
  | none => k d
  | some x => (match x with | .int _ n => k n | _ => none)

def cutM {α : Type} : TM → List α → TM
  | .b n, _ => .b n
  | .dl, xs => .b xs.isEmpty
  | .ow _ nb, xs => bif nb then .b xs.isEmpty else .b false

def dSlice (st : St U) (t : TypeId) (x : T U) (lo hi : Option (T U)) (k : T U → Option R) : Option R :=
  match x with
  | .lst m j xs => codeEl Tb t fun i _ _ => bif decide (j = i) then
      dBound lo 0 fun l => dBound hi (lenI xs) fun h => bif inS l h xs.length then k (.lst (cutM m xs) j (cutL xs l h)) else none
    else none
  | .sl l0 n => codeEl Tb t fun i _ _ =>
      (match lo with
      | none => (match lk st.bx l0 with
        | some (.ar j xs) => bif decide (j = i) then dBound hi (n : Int) fun h => bif inS 0 h xs.length then k (.sl l0 h.toNat) else none else none
        | _ => none)
      | some _ => none)
  | .str s => bif (Tb t).has && (Tb t).isStr then
      dBound lo 0 fun l => dBound hi (lenI s) fun h => bif inS l h s.length then k (.str (cutL s l h)) else none
    else none
  | _ => none

def dNilCheck (x : T U) (k : T U → Option R) : Option R :=
  match x with
  | .rptr y => k (.rptr y)
  | .ptr l o => k (.ptr l o)
  | .ptrE l a o => k (.ptrE l a o)
  | _ => none

/-- Calls: what comes of a function's call. -/
abbrev Call (U : TyU) (R : Type) := Nat → List (T U) → St U → (T U → St U → Option R) → Option R

def okArgs : List (T U) → Bool
  | [] => true
  | x :: r => oneAll x.flat && okArgs r

def dCall (call : Call U R) (f : T U) (args : List (T U)) (st : St U) (k : T U → St U → Option R) : Option R :=
  match f with
  | .clo fn caps => (match fn with
    | .func n => bif caps.isEmpty && okArgs args && bdds st.nl st.nx args then call n args st k else none
    | _ => none)
  | _ => none

def dBuiltin (wr : Nat → Bool) (dst : Option Nat) (b : Builtin) (ts : List TypeId) (args : List (T U)) (st : St U) (k : T U → St U → Option R) : Option R :=
  match b with
  | .len => (match ts with | t :: _ => (match args with | [x] => dLen Tb t x fun v => k v st | _ => none) | _ => none)
  | .max => (match args with | [x, y] => dMax x y fun v => k v st | _ => none)
  | .append => (match ts with | [t, t2] => (match args with | [s, x] => dAppend Tb wr dst st t t2 s x k | _ => none) | _ => none)
  | _ => none

def evL (e : En U) : List Operand → List (T U)
  | [] => []
  | x :: r => evT e x :: evL e r
def evP (e : En U) : List (Nat × Operand) → List (Nat × T U)
  | [] => []
  | x :: r => (x.1, evT e x.2) :: evP e r
def evO (e : En U) : Option Operand → Option (T U)
  | none => none
  | some x => some (evT e x)

/-- One operation. -/
def dop (call : Call U R) (wr own : Nat → Bool) (e : En U) (st : St U) (o : Oper) (k : T U → St U → Option R) : Option R :=
  match o.op with
  | .move x => k (evT e x) st
  | .assign x => k (evT e x) st
  | .pick c a b => dPick (evT e c) (evT e a) (evT e b) fun v => k v st
  | .binOp op t x y _ => dBin Tb op t (isCon y) (evT e x) (evT e y) fun v => k v st
  | .convert f t x => dConv Tb f t (evT e x) fun v => k v st
  | .unOp op _ x => dUn op (evT e x) fun v => k v st
  | .extract x i => dExtract (evT e x) i fun v => k v st
  | .field t x f => dField Tb t (evT e x) f fun v => k v st
  | .fieldAddr t x f => dFieldAddr Tb t (evT e x) f fun v => k v st
  | .indexAddr t x i => dIndexAddr C Tb st t (evT e x) (evT e i) fun v => k v st
  | .index t x i => dIndex Tb t (evT e x) (evT e i) fun v => k v st
  | .load t x => dLoad C Tb st t (evT e x) fun v => k v st
  | .store t x y => dStore C Tb st t (evT e x) (evT e y) fun st' => k .any st'
  | .alloc t => dAlloc Tb st t k
  | .box _ x => feL (evT e x).flat fun cs => dNew st cs k
  | .build t parts => feP (evP e parts.toList) fun ps => dBuild Tb t ps fun v => k v st
  | .buildSlice t n parts => feP (evP e parts.toList) fun ps => dBuildSlice C Tb wr own o.dst st t n ps k
  | .nilCheck x => dNilCheck (evT e x) fun v => k v st
  | .slice t x lo hi mx => (match mx with | none => dSlice Tb st t (evT e x) (evO e lo) (evO e hi) fun v => k v st | some _ => none)
  | .call c => (match c.callee with
    | .value f => feA (evL e c.args.toList) fun as => dCall call (evT e f) as st k
    | .builtin b => feA (evL e c.args.toList) fun as => dBuiltin Tb wr o.dst b c.argTypes.toList as st k
    | .invoke _ _ => none)
  | _ => none

/-- One operation and what comes behind it. -/
def dthen (call : Call U R) (wr own : Nat → Bool) (e : En U) (st : St U) (o : Oper) (k : En U → St U → Option R) : Option R :=
  dop C Tb call wr own e st o fun v st' => feS st' fun st' => fe v fun v => bif bdd st'.nl st'.nx v then eputK e o.dst v fun e' => k e' st' else none

def dstep (call : Call U R) (wr own : Nat → Bool) (ds : List (Option Nat)) (o : Oper) (e : En U) (st : St U) (k : En U → St U → Option R) : Option R :=
  match o.guard with
  | none => dthen C Tb call wr own e st o k
  | some g =>
    match ds.getD g.1 none with
    | none => none
    | some d => (match eget e d with
      | .bool t => bif g.2 then (bif t then dthen C Tb call wr own ((d, .bool true) :: e) st o k else eputK ((d, .bool false) :: e) o.dst (.tup []) fun e' => k e' st)
          else (bif t then eputK ((d, .bool true) :: e) o.dst (.tup []) fun e' => k e' st else dthen C Tb call wr own ((d, .bool false) :: e) st o k)
      | .tup vs => (match vs with | [] => eputK e o.dst (.tup []) fun e' => k e' st | _ :: _ => none)
      | _ => none)

def dops (call : Call U R) (wr own : Nat → Bool) (ds : List (Option Nat)) : List Oper → En U → St U → (En U → St U → Option R) → Option R
  | [], e, st, k => k e st
  | o :: os, e, st, k => dstep C Tb call wr own ds o e st fun e' st' => dops call wr own ds os e' st' k

end ops
end
end Go.Den

/-
  DEN, part 3: the operations that only compute answer as the abstract ones do. General: no program in sight.
-/
namespace Go.Den
open Go.Al

/-- A value of a frame: unknown, or its translation. -/
def VR {U : TyU} (C : Cod U) (N : NM) (x : T U) (v : V) : Prop := x = .any ∨ v = trT C N x

def TbOk {U : TyU} (C : Cod U) (P : Program) (Tb : TypeId → TD U) : Prop := ∀ t, (Tb t).has = true → Facts C P t (Tb t)

section
variable {U : TyU} {C : Cod U} {P : Program} {Tb : TypeId → TD U} {R : Type} {r : R} {N : NM} {K : V → Prop} {k : T U → Option R}

theorem bif_some {c : Bool} {x : Option R} (h : (bif c then x else none) = some r) : c = true ∧ x = some r := by cases c <;> simp_all

theorem VR.get {x : T U} {v : V} (h : VR C N x v) (hx : x ≠ .any) : v = trT C N x := h.resolve_left hx
theorem VR.mk (x : T U) : VR C N x (trT C N x) := .inr rfl

theorem bytes_loop (b : ByteArray) : ∀ (n i : Nat) (acc : List UInt8), b.size - i = n → ByteArray.toList.loop b i acc = acc.reverse ++ b.data.toList.drop i := by
  have hs : b.size = b.data.toList.length := by rw [Array.length_toList]; rfl
  intro n
  induction n with
  | zero =>
    intro i acc hn
    unfold ByteArray.toList.loop
    rw [if_neg (by omega), List.drop_of_length_le (by omega), List.append_nil]
  | succ n ih =>
    intro i acc hn
    unfold ByteArray.toList.loop
    have hi : i < b.data.toList.length := by omega
    rw [if_pos (by omega), ih _ _ (by omega), List.drop_eq_getElem_cons hi]
    have e : b.get! i = b.data.toList[i] := by
      show b.data[i]! = _
      have hi' : i < b.data.size := by rw [← Array.length_toList]; exact hi
      rw [getElem!_pos b.data i hi', Array.getElem_toList]
    rw [e, List.reverse_cons, List.append_assoc]; rfl
theorem bytes_toList (s : List UInt8) : (⟨s.toArray⟩ : ByteArray).toList = s := by
  have := bytes_loop ⟨s.toArray⟩ _ 0 [] rfl
  rw [List.drop_zero, List.reverse_nil, List.nil_append] at this
  exact this

theorem dPick_ok {c a b : T U} {cv av bv : V} (hc : VR C N c cv) (ha : VR C N a av) (hb : VR C N b bv) (h : dPick c a b k = some r)
    (hK : ∀ v v', k v = some r → VR C N v v' → K v') : aPick cv av bv K := by
  unfold dPick at h
  split at h
  · rename_i t
    rw [hc.get (by simp)]
    cases t with
    | true => exact hK _ _ h ha
    | false => exact hK _ _ h hb
  · cases h

theorem dInt_ok {op : BinOp} {kk : IntKind} {a b : Int} (h : dInt op kk a b k = some r) (hK : ∀ v, k v = some r → K (trT C N v)) : aInt op kk a b K := by
  cases op <;> simp only [dInt] at h <;> first | exact hK _ h | cases h | skip
  case quo =>
    obtain ⟨h1, h2⟩ := bif_some h
    exact ⟨by simpa [ine] using h1, hK _ h2⟩
  case rem =>
    obtain ⟨h1, h2⟩ := bif_some h
    exact ⟨by simpa [ine] using h1, hK _ h2⟩

theorem dStr_ok {op : BinOp} {a b : List UInt8} (h : dStr op a b k = some r) (hK : ∀ v, k v = some r → K (trT C N v)) : aStr op ⟨a.toArray⟩ ⟨b.toArray⟩ K := by
  cases op <;> simp only [dStr] at h <;> first | cases h | skip
  case add =>
    obtain ⟨h1, h2⟩ := bif_some h
    have h1 := okS_le h1
    refine ⟨by simpa [ByteArray.size] using h1, ?_⟩
    have := hK _ h2
    simp only [trT] at this
    have e : (⟨a.toArray⟩ : ByteArray) ++ ⟨b.toArray⟩ = ⟨(a ++ b).toArray⟩ := by
      apply ByteArray.ext
      simp
    rw [e]; exact this
  case eql =>
    have := hK _ h
    simp only [aStr, bytes_toList]
    exact this
  case neq =>
    have := hK _ h
    simp only [aStr, bytes_toList]
    exact this

theorem dBool_ok {op : BinOp} {a b : Bool} (h : dBool op a b k = some r) (hK : ∀ v, k v = some r → K (trT C N v)) : aBool op a b K := by
  cases op <;> simp only [dBool] at h <;> first | cases h | exact hK _ h

theorem nilB_tr (m : TM) {i : U.I} (xs : List (U.den i)) : nilB (trM N (C.cells i) (xs.map (C.encV i)) m) (xs.map (C.encV i)) = nilT m xs := by
  cases m with
  | b n => cases n <;> rfl
  | dl => cases xs <;> rfl
  | ow t nb => cases xs <;> rfl

theorem dNil_ok {op : BinOp} {b : Bool} (h : dNil op b k = some r) (hK : ∀ v, k v = some r → K (trT C N v)) : aBool op b true K := by
  cases op <;> simp only [dNil] at h <;> first | cases h | skip
  · have := hK _ h
    simp only [aBool, beq_true]
    exact this
  · have := hK _ h
    simp only [aBool, beq_true]
    exact this

theorem isNilI_spec {v : Value} (h : isNilI v = true) : v = .nilIface := by
  unfold isNilI at h
  split at h
  · rfl
  · cases h

theorem dBin_ok (hT : TbOk C P Tb) {op : BinOp} {t : TypeId} {c : Bool} {x y : T U} {xv yv : V} (hx : VR C N x xv) (hy : VR C N y yv) (h : dBin Tb op t c x y k = some r)
    (hK : ∀ v, k v = some r → K (trT C N v)) : aBinI P op t c xv yv K := by
  unfold dBin at h
  split at h
  · split at h
    · obtain ⟨h1, h2⟩ := bif_some h
      rw [hx.get (by simp), hy.get (by simp)]
      simp only [decide_eq_true_eq] at h1
      subst h1
      exact ⟨rfl, dInt_ok h2 hK⟩
    · cases h
  · split at h
    · obtain ⟨h1, h2⟩ := bif_some h
      rw [hx.get (by simp), hy.get (by simp)]
      simp only [Bool.and_eq_true] at h1
      exact ⟨(hT t h1.2).isBool.trans h1.1, dBool_ok h2 hK⟩
    · cases h
  · split at h
    · rw [hx.get (by simp), hy.get (by simp)]
      exact dStr_ok h hK
    · cases h
  · split at h
    · obtain ⟨h1, h2⟩ := bif_some h
      rw [hx.get (by simp), hy.get (by simp)]
      simp only [Bool.and_eq_true] at h1
      refine ⟨by rw [(hT t h1.2).el]; exact h1.1, ?_⟩
      rw [nilB_tr]
      exact dNil_ok h2 hK
    · cases h
  · split at h
    · obtain ⟨h1, h2⟩ := bif_some h
      rw [hx.get (by simp), hy.get (by simp)]
      simp only [Bool.and_eq_true] at h1
      exact ⟨by rw [(hT t h1.2).el]; exact h1.1, dNil_ok h2 hK⟩
    · cases h
  · split at h
    · rename_i v
      obtain ⟨h1, h2⟩ := bif_some h
      rw [hx.get (by simp), hy.get (by simp)]
      simp only [Bool.and_eq_true] at h1
      have e1 := isNilI_spec h1.1.1
      subst e1
      exact ⟨(hT t h1.2).isIfc.trans h1.1.2, dNil_ok h2 hK⟩
    · cases h
  · split at h
    · rename_i u v
      obtain ⟨h1, h2⟩ := bif_some h
      rw [hx.get (by simp), hy.get (by simp)]
      simp only [Bool.and_eq_true] at h1
      have e1 := isNilI_spec h1.1.1.1.1
      have e2 := isNilI_spec h1.1.1.1.2
      subst e1; subst e2
      exact ⟨(hT t h1.1.2).isIfc.trans h1.1.1.2, h1.2, dNil_ok h2 hK⟩
    · cases h
  · cases h

theorem dConv_ok (hT : TbOk C P Tb) {f t : TypeId} {x : T U} {xv : V} (hx : VR C N x xv) (h : dConv Tb f t x k = some r) (hK : ∀ v, k v = some r → K (trT C N v)) : aConv P f t xv K := by
  unfold dConv at h
  split at h
  · split at h
    · rename_i kk hk
      obtain ⟨h1, h2⟩ := bif_some h
      simp only [Bool.and_eq_true] at h1
      rw [hx.get (by simp)]
      unfold aConv
      simp only [trT]
      rw [(hT t h1.1).ik, hk]
      exact ⟨(hT f h1.2).has, hK _ h2⟩
    · cases h
  · obtain ⟨h1, h2⟩ := bif_some h
    simp only [Bool.and_eq_true] at h1
    rw [hx.get (by simp)]
    exact ⟨(hT f h1.1.1.2).isStr.trans h1.2, (hT t h1.1.1.1).isStr.trans h1.1.2, hK _ h2⟩
  · cases h

theorem dUn_ok {op : UnOp} {x : T U} {xv : V} (hx : VR C N x xv) (h : dUn op x k = some r) (hK : ∀ v, k v = some r → K (trT C N v)) : aUn op xv K := by
  unfold dUn at h
  split at h
  · rw [hx.get (by simp)]
    cases op <;> simp only at h <;> first | cases h | exact hK _ h
  · rw [hx.get (by simp)]
    cases op <;> simp only at h <;> first | cases h | exact hK _ h
  · cases h

theorem dExtract_ok {x : T U} {xv : V} {i : Nat} (hx : VR C N x xv) (h : dExtract x i k = some r) (hK : ∀ v, k v = some r → K (trT C N v)) : aExtract xv i K := by
  unfold dExtract at h
  split at h
  · rename_i vs
    obtain ⟨h1, h2⟩ := bif_some h
    have h1 := blt_lt h1
    rw [hx.get (by simp)]
    have e : (trTs C N vs).getD i .any = trT C N (vs.getD i .any) := by
      rw [trTs_map]; simp [h1]
    refine ⟨by rw [trTs_map]; simpa using h1, ?_⟩
    rw [e]
    exact hK _ h2
  · cases h

theorem dPart_ok {fs : List (T U)} {off : Nat} {t : TypeId} {d : TD U} (hd : d.has = true → Facts C P t d) (h : dPart fs off d k = some r) (hK : ∀ v, k v = some r → K (trT C N v)) :
    partOk P t (fs.map (trT C N)) off ∧ K (partV P t (fs.map (trT C N)) off) := by
  unfold dPart at h
  obtain ⟨h1, h2⟩ := bif_some h
  simp only [Bool.and_eq_true, Bool.or_eq_true, Nat.ble_eq, Nat.beq_eq] at h1
  obtain ⟨⟨h3, h4⟩, h5⟩ := h1
  have hf := hd h3
  refine ⟨⟨hf.has, by rw [hf.cells]; simpa using h4, fun ha => by rw [hf.agg] at ha; rw [hf.cells]; simpa [ha] using h5⟩, ?_⟩
  unfold partV
  rw [hf.agg, hf.cells]
  cases ha : d.agg with
  | true =>
    rw [ha] at h2
    simp only [cond_true, feL_eq] at h2
    have := hK _ h2
    simp only [trT, trTs_map, List.map_take, List.map_drop] at this
    simpa using this
  | false =>
    rw [ha] at h2
    simp only [cond_false] at h2
    have := hK _ h2
    have h6 : d.cells = 1 := by simpa [ha] using h5
    have h7 : off < fs.length := by omega
    have e : (fs.map (trT C N)).getD off .any = trT C N (fs.getD off .any) := by simp [h7]
    simp only [Bool.false_eq_true, if_false]
    rw [e]; exact this

theorem dField_ok (hT : TbOk C P Tb) {t : TypeId} {x : T U} {xv : V} {f : Nat} (hx : VR C N x xv) (h : dField Tb t x f k = some r) (hK : ∀ v, k v = some r → K (trT C N v)) : aField P t xv f K := by
  unfold dField at h
  split at h
  · rename_i fs
    split at h
    · rename_i p hp
      obtain ⟨h1, h2⟩ := bif_some h
      simp only [Bool.and_eq_true] at h1
      rw [hx.get (by simp)]
      simp only [trT, trTs_map, aField, fieldAt_of, (hT t h1.1).flds, hp]
      exact ⟨(allOne_tr C N fs).2 h1.2, dPart_ok (fun hh => hT _ hh) h2 hK⟩
    · cases h
  · cases h

theorem dFieldAddr_ok (hT : TbOk C P Tb) {t : TypeId} {x : T U} {xv : V} {f : Nat} (hx : VR C N x xv) (h : dFieldAddr Tb t x f k = some r) (hK : ∀ v, k v = some r → K (trT C N v)) : aFieldAddr P t xv f K := by
  unfold dFieldAddr at h
  split at h
  · cases h
  · rename_i p hp
    obtain ⟨h1, h2⟩ := bif_some h
    simp only [Bool.and_eq_true] at h1
    obtain ⟨⟨h3, h4⟩, h5⟩ := h1
    have h6 : 0 < P.cellsOf p.2 := by rw [(hT _ h4).cells]; exact blt_lt h5
    have hfl : fieldAt P t f = some (p.1, p.2) := by rw [fieldAt_of, (hT t h3).flds, hp]
    split at h2
    · split at h2
      · obtain ⟨h7, h8⟩ := bif_some h2
        rw [hx.get (by simp)]
        simp only [trT, trTs_map, aFieldAddr, hfl]
        have := dPart_ok (C := C) (P := P) (t := p.2) (N := N) (K := fun v => K (.rptr v)) (fun hh => hT _ hh) h8 (fun v hv => hK _ hv)
        exact ⟨(allOne_tr C N _).2 h7, this.1, h6, this.2⟩
      · cases h2
    · rw [hx.get (by simp)]
      simp only [trT, aFieldAddr, hfl]
      exact ⟨(hT _ h4).has, h6, hK _ h2⟩
    · rw [hx.get (by simp)]
      simp only [trT, aFieldAddr, hfl]
      have := hK _ h2
      simp only [trT, ← Nat.add_assoc] at this
      exact ⟨(hT _ h4).has, h6, this⟩
    · cases h2

theorem codeEl_ok (hT : TbOk C P Tb) {t : TypeId} {kk : U.I → TypeId → TD U → Option R} (h : codeEl Tb t kk = some r) :
    ∃ i el, kk i el (Tb el) = some r ∧ elT P t = some el ∧ Facts C P el (Tb el) ∧ C.cells i = P.cellsOf el ∧ C.agg i = isAggT P el := by
  unfold codeEl at h
  split at h
  · cases h
  · rename_i el hel
    obtain ⟨h1, h2⟩ := bif_some h
    simp only [Bool.and_eq_true] at h1
    split at h2
    · rename_i i hi
      have hf := hT el h1.2
      exact ⟨i, el, h2, by rw [(hT t h1.1).el, hel], hf, by rw [hf.cells]; exact (hf.code i hi).1, by rw [hf.agg]; exact (hf.code i hi).2⟩
    · cases h2

theorem inB_spec {n : Int} {len : Nat} (h : inB n len = true) : 0 ≤ n ∧ n < (len : Int) := by
  simpa [inB] using h
theorem inS_spec {l h : Int} {len : Nat} (hh : inS l h len = true) : 0 ≤ l ∧ l ≤ h ∧ h ≤ (len : Int) := by
  simpa [inS, and_assoc] using hh

theorem getD_tr {i : U.I} (xs : List (U.den i)) (n : Nat) (h : n < xs.length) (d : U.den i) : (xs.map (C.encV i)).getD n .any = C.encV i (xs.getD n d) := by
  simp [h]

theorem dIndex_ok (hT : TbOk C P Tb) {t : TypeId} {x n : T U} {xv nv : V} (hx : VR C N x xv) (hn : VR C N n nv) (h : dIndex Tb t x n k = some r) (hK : ∀ v, k v = some r → K (trT C N v)) : aIndex P t xv nv K := by
  unfold dIndex at h
  split at h
  · split at h
    · rename_i s _ _ n'
      obtain ⟨h1, h2⟩ := bif_some h
      simp only [Bool.and_eq_true] at h1
      rw [hx.get (by simp), hn.get (by simp)]
      have hb := inB_spec h1.2
      refine ⟨(hT t h1.1.1).isStr.trans h1.1.2, by simpa [ByteArray.size] using hb, ?_⟩
      have := hK _ h2
      simpa [trT, byteAt] using this
    · cases h
  · cases h

theorem fitsD_ok {t : TypeId} {d : TD U} (hd : d.has = true → Facts C P t d) {y : T U} (h : fitsD d y = true) : fits P t (trT C N y) := by
  have key : d.has = true → (trT C N y).size = d.cells → (trT C N y).isAgg = d.agg → fits P t (trT C N y) := fun h1 h2 h3 =>
    ⟨(hd h1).has, by rw [h2, (hd h1).cells], by rw [h3, (hd h1).agg]⟩
  have other : (∀ fs, y ≠ .agg fs) → (d.has && !d.agg && y.isOne && Nat.beq d.cells 1) = true → fits P t (trT C N y) := fun hne h => by
    simp only [Bool.and_eq_true, Nat.beq_eq, Bool.not_eq_true'] at h
    obtain ⟨⟨⟨h1, h2⟩, h3⟩, h4⟩ := h
    refine key h1 ?_ ?_
    · rw [size_one (by rw [isOne_tr]; exact h3)]
      exact h4.symm
    · rw [isAgg_tr, h2]
      cases y <;> first | rfl | exact absurd rfl (hne _)
  unfold fitsD at h
  split at h
  · rename_i fs
    simp only [Bool.and_eq_true, Nat.beq_eq] at h
    obtain ⟨⟨⟨h1, h2⟩, h3⟩, h4⟩ := h
    refine key h1 ?_ ?_
    · simp only [trT, V.size, trTs_map]
      rw [sizes_one ((allOne_tr C N fs).2 h3)]
      simpa using h4
    · rw [isAgg_tr, h2]
  · rename_i x hne
    exact other hne h

theorem dMax_ok {x y : T U} {xv yv : V} (hx : VR C N x xv) (hy : VR C N y yv) (h : dMax x y k = some r) (hK : ∀ v, k v = some r → K (trT C N v)) : aMax xv yv K := by
  unfold dMax at h
  split at h
  · split at h
    · rw [hx.get (by simp), hy.get (by simp)]
      exact hK _ h
    · cases h
  · cases h

theorem dLen_ok (hT : TbOk C P Tb) {t : TypeId} {x : T U} {xv : V} (hx : VR C N x xv) (h : dLen Tb t x k = some r) (hK : ∀ v, k v = some r → K (trT C N v)) : aLen P t xv K := by
  unfold dLen at h
  split at h
  all_goals first | cases h | skip
  all_goals
    obtain ⟨h1, h2⟩ := bif_some h
    simp only [Bool.and_eq_true] at h1
    have hf := hT t h1.1
    rw [hx.get (by simp)]
    have := hK _ h2
  · exact ⟨by rw [hf.el]; exact h1.2, by simpa [trT, lenI] using this⟩
  · exact ⟨by rw [hf.el]; exact h1.2, by simpa [trT] using this⟩
  · exact ⟨by rw [hf.el]; exact h1.2, by simpa [trT] using this⟩
  · exact ⟨hf.isStr.trans h1.2, by simpa [trT, lenI, ByteArray.size] using this⟩

theorem dNilCheck_ok {x : T U} {xv : V} (hx : VR C N x xv) (h : dNilCheck x k = some r) (hK : ∀ v, k v = some r → K (trT C N v)) : aNilCheck xv K := by
  unfold dNilCheck at h
  split at h
  · rw [hx.get (by simp)]; exact hK _ h
  · rw [hx.get (by simp)]; exact hK _ h
  · rw [hx.get (by simp)]; exact hK _ h
  · cases h

theorem splT_tr (N : NM) (cs : List (T U)) (o : Nat) (xs : List (T U)) : (splT cs o xs).map (trT C N) = spl (cs.map (trT C N)) o (xs.map (trT C N)) := by
  simp [splT, spl, List.map_take, List.map_drop]

theorem fillT_ok (hT : TbOk C P Tb) {t : TypeId} {flds : List (Nat × TypeId)} (hf : fieldsOf P t = flds) {k : List (T U) → Option R} :
    ∀ (parts : List (Nat × T U)) (vs : List (Nat × V)) (cells : List (T U)), fillT Tb flds cells parts k = some r → vs.map (·.1) = parts.map (·.1) →
      (∀ (j : Nat) (x : Nat × T U) (v : Nat × V), parts[j]? = some x → vs[j]? = some v → VR C N x.2 v.2) → ∃ l, fillV (placeOf P t) (cells.map (trT C N)) vs = some (l.map (trT C N)) ∧ k l = some r
  | [], vs, cells, h, he, _ => by
    cases vs with
    | nil => exact ⟨cells, rfl, h⟩
    | cons _ _ => simp at he
  | (i, x) :: rest, vs, cells, h, he, hv => by
    cases vs with
    | nil => simp at he
    | cons v vs =>
      obtain ⟨j, v⟩ := v
      simp only [List.map_cons, List.cons.injEq] at he
      obtain ⟨rfl, he⟩ := he
      simp only [fillT] at h
      split at h
      · cases h
      · rename_i p hp
        obtain ⟨h1, h2⟩ := bif_some h
        simp only [Bool.and_eq_true, Nat.beq_eq, Nat.ble_eq] at h1
        obtain ⟨⟨⟨h3, h4⟩, h5⟩, h6⟩ := h1
        rw [feL_eq] at h2
        have hx : x ≠ .any := fun e => by subst e; simp [T.flat, oneAll, T.isOne] at h6
        have hxv : v = trT C N x := (hv 0 (j, x) (j, v) rfl rfl).get hx
        subst hxv
        obtain ⟨l, h7, h8⟩ := fillT_ok hT hf rest vs _ h2 he (fun j x v a b => hv (j + 1) x v (by simpa using a) (by simpa using b))
        refine ⟨l, ?_, h8⟩
        have hpl : placeOf P t j = some (p.1, P.cellsOf p.2) := by
          unfold placeOf
          rw [fieldAt_of, hf, hp]
          simp [(hT _ h3).has]
        unfold fillV
        simp only [hpl]
        rw [flat_tr]
        simp only [List.length_map]
        rw [if_pos ⟨by rw [(hT _ h3).cells]; simpa using h4, by rw [(hT _ h3).cells]; simpa using h5, (allOne_tr C N _).2 h6⟩]
        rw [splT_tr] at h7
        exact h7

theorem dBuild_ok (hT : TbOk C P Tb) {t : TypeId} {parts : List (Nat × T U)} {vs : List (Nat × V)} (he : vs.map (·.1) = parts.map (·.1)) (hv : ∀ (j : Nat) (x : Nat × T U) (v : Nat × V), parts[j]? = some x → vs[j]? = some v → VR C N x.2 v.2)
    (h : dBuild Tb t parts k = some r) (hK : ∀ v, k v = some r → K (trT C N v)) : aBuild P t vs K := by
  unfold dBuild at h
  obtain ⟨h1, h2⟩ := bif_some h
  simp only [Bool.and_eq_true] at h1
  have hf := hT t h1.1
  split at h2
  · rename_i cs hcs
    obtain ⟨l, h3, h4⟩ := fillT_ok (N := N) hT hf.flds parts vs cs h2 he hv
    refine ⟨hf.isStruct.trans h1.2, ?_⟩
    rw [hf.zero N, hcs]
    simp only [Option.map_some]
    rw [h3]
    have := hK _ h4
    simpa only [trT, trTs_map] using this
  · cases h2

theorem dBound_ok {x : Option (T U)} {xv : Option V} (hx : match x, xv with | none, none => True | some x, some v => VR C N x v | _, _ => False) {d : Int} {kk : Int → Option R} {K : Int → Prop} (h : dBound x d kk = some r) (hK : ∀ n, kk n = some r → K n) :
    boundV xv d K := by
  unfold dBound at h
  cases x with
  | none => cases xv with
    | none => exact hK _ h
    | some v => exact hx.elim
  | some x => cases xv with
    | none => exact hx.elim
    | some v =>
      simp only at h hx
      split at h
      · rw [hx.get (by simp)]
        exact hK _ h
      · cases h

theorem cutM_tr (m : TM) {i : U.I} (xs ys : List (U.den i)) : slTag (trM N (C.cells i) (xs.map (C.encV i)) m) (xs.map (C.encV i)) = trM N (C.cells i) (ys.map (C.encV i)) (cutM m xs) := by
  cases m with
  | b n => cases n <;> rfl
  | dl => cases xs <;> rfl
  | ow t nb => cases nb <;> cases xs <;> rfl

end
end Go.Den

/-
  DEN, part 4: stores that answer one another; the operations on memory. General: no program in sight.
-/
namespace Go.Den
open Go.Al

section
variable {U : TyU} {C : Cod U} {P : Program} {Tb : TypeId → TD U} {R : Type} {r : R} {N : NM}

def trB (C : Cod U) (N : NM) (l : Nat) : Bx U → List V × Nat
  | .st cs => (cs.map (trT C N), cs.length)
  | .ar i xs => (flats (xs.map (C.encV i)), N.cp l * C.cells i)

def wfB (C : Cod U) (N : NM) (nl nx l : Nat) : Bx U → Prop
  | .st cs => bdds nl nx cs = true ∧ oneAll cs = true
  | .ar i xs => N.sz l = C.cells i ∧ xs.length ≤ N.cp l

/-- A typed store and an abstract one. -/
structure SSim (C : Cod U) (N : NM) (st : St U) (s : S) : Prop where
  box : ∀ l b, lk st.bx l = some b → Al.look s.box (N.bl l) = some (trB C N l b)
  lt : ∀ l b, lk st.bx l = some b → l < st.nl
  wf : ∀ l b, lk st.bx l = some b → wfB C N st.nl st.nx l b
  inj : ∀ l l' b b', lk st.bx l = some b → lk st.bx l' = some b' → N.bl l = N.bl l' → l = l'
  tgIn : ∀ t ∈ st.tg, N.tk t ∈ s.tg
  tgInj : ∀ t ∈ st.tg, ∀ t' ∈ st.tg, N.tk t = N.tk t' → t = t'
  tgLt : ∀ t ∈ st.tg, t < st.nx
  nm : ∀ t ∈ st.tg, N.tk t < s.nx

/-- A typed frame and an abstract one. -/
def ESim (C : Cod U) (N : NM) (st : St U) (e : En U) (E : Env) : Prop := ∀ k, VR C N (eget e k) (E.get k) ∧ bdd st.nl st.nx (eget e k) = true

/-- How a store has turned. -/
structure Turn (N : NM) (st : St U) (N' : NM) (st' : St U) : Prop where
  ext : Ext st.nl st.nx N N'
  nl : st.nl ≤ st'.nl
  nx : st.nx ≤ st'.nx

theorem Turn.refl (N : NM) (st : St U) : Turn N st N st := ⟨.refl _ _ _, Nat.le_refl _, Nat.le_refl _⟩
theorem Turn.trans {N N1 N2 : NM} {st st1 st2 : St U} (h : Turn N st N1 st1) (h' : Turn N1 st1 N2 st2) : Turn N st N2 st2 :=
  ⟨h.ext.trans h'.ext h.nl h.nx, Nat.le_trans h.nl h'.nl, Nat.le_trans h.nx h'.nx⟩

theorem ESim.turn {N N' : NM} {st st' : St U} {e : En U} {E : Env} (h : ESim C N st e E) (t : Turn N st N' st') : ESim C N' st' e E := fun k => by
  obtain ⟨h1, h2⟩ := h k
  exact ⟨h1.imp id fun h => by rw [h, trT_ext C t.ext _ h2], bdd_mono t.nl t.nx _ h2⟩

theorem beq_ne {a b : Nat} (h : a ≠ b) : Nat.beq a b = false := by
  cases e : Nat.beq a b with
  | false => rfl
  | true => exact absurd (Nat.eq_of_beq_eq_true e) h

theorem ESim.put {st : St U} {e : En U} {E : Env} (h : ESim C N st e E) {v : T U} {v' : V} (hv : VR C N v v') (hb : bdd st.nl st.nx v = true) (d : Option Nat) : ESim C N st (eput e d v) (E.putO d v') := fun k => by
  cases d with
  | none => exact h k
  | some t =>
    simp only [eput, eget, Env.putO, Env.get_put]
    by_cases hk : t = k
    · subst hk
      simpa using ⟨hv, hb⟩
    · have : Nat.beq t k = false := beq_ne hk
      simpa [this, hk] using h k

theorem ESim.ev {st : St U} {e : En U} {E : Env} (h : ESim C N st e E) (x : Operand) : VR C N (evT e x) (E.ev x) := by
  cases x with
  | tmp t => exact (h t).1
  | const v => exact .inr (cT_tr C N v).symm
  | global g => exact .inr rfl
  | func f => exact .inr rfl

/-- What an operation's result has to lead to. -/
def Kok (C : Cod U) (N : NM) (st : St U) (K : V → S → Prop) (k : T U → St U → Option R) (r : R) : Prop :=
  ∀ N' st' s' v v', k v st' = some r → Turn N st N' st' → SSim C N' st' s' → VR C N' v v' → K v' s'

theorem hasN_mem : ∀ {l : List Nat} {t : Nat}, hasN l t = true → t ∈ l
  | [], _, h => by simp [hasN] at h
  | k :: r, t, h => by
    simp only [hasN] at h
    by_cases e : k = t
    · subst e; simp
    · have : Nat.beq k t = false := beq_ne e
      simp only [this, cond_false] at h
      exact List.mem_cons_of_mem _ (hasN_mem h)
theorem rmN_mem : ∀ {l : List Nat} {t x : Nat}, x ∈ rmN l t → x ∈ l ∧ x ≠ t
  | [], _, _, h => by simp [rmN] at h
  | k :: r, t, x, h => by
    simp only [rmN] at h
    by_cases e : k = t
    · have : Nat.beq k t = true := by simpa using e
      simp only [this, cond_true] at h
      have := rmN_mem h
      exact ⟨List.mem_cons_of_mem _ this.1, this.2⟩
    · have hb : Nat.beq k t = false := beq_ne e
      simp only [hb, cond_false, List.mem_cons] at h
      rcases h with rfl | h
      · exact ⟨by simp, e⟩
      · have := rmN_mem h
        exact ⟨List.mem_cons_of_mem _ this.1, this.2⟩

theorem lk_cons (k : Nat) (b : Option (Bx U)) (r : List (Nat × Option (Bx U))) (l : Nat) : lk ((k, b) :: r) l = if k = l then b else lk r l := by
  by_cases e : k = l
  · have : Nat.beq k l = true := by simpa using e
    simp [lk, this, e]
  · have : Nat.beq k l = false := beq_ne e
    simp [lk, this, e]

/-- N with one place more. -/
def NM.loc (N : NM) (l b c z : Nat) : NM := ⟨fun j => if j = l then b else N.bl j, fun j => if j = l then c else N.cp j, fun j => if j = l then z else N.sz j, N.tk⟩
theorem NM.ext_loc (N : NM) (l nx b c z : Nat) : Ext l nx N (N.loc l b c z) :=
  ⟨fun j hj => if_neg (by omega), fun j hj => if_neg (by omega), fun j hj => if_neg (by omega), fun _ _ => rfl⟩
/-- N with one token more. -/
def NM.tok (N : NM) (t n : Nat) : NM := ⟨N.bl, N.cp, N.sz, fun j => if j = t then n else N.tk j⟩
theorem NM.ext_tok (N : NM) (nl t n : Nat) : Ext nl t N (N.tok t n) := ⟨fun _ _ => rfl, fun _ _ => rfl, fun _ _ => rfl, fun j hj => if_neg (by omega)⟩

theorem map_tr_ext {nl nx : Nat} {N N' : NM} (h : Ext nl nx N N') {l : List (T U)} (hb : bdds nl nx l = true) : l.map (trT C N') = l.map (trT C N) := by
  rw [← trTs_map, ← trTs_map, trTs_ext C h l hb]

/-- A box read under more names. -/
theorem trB_ext {st : St U} {s : S} (hs : SSim C N st s) {nl nx : Nat} {N' : NM} (h : Ext nl nx N N') (h1 : st.nl ≤ nl) (h2 : st.nx ≤ nx) {l : Nat} {b : Bx U} (hl : lk st.bx l = some b) : trB C N' l b = trB C N l b := by
  have hlt := hs.lt l b hl
  have hw := hs.wf l b hl
  cases b with
  | st cs => simp only [trB]; rw [map_tr_ext (h.less h1 h2) hw.1]
  | ar i xs => simp only [trB]; rw [h.cp l (by omega)]
theorem wfB_ext {nl nx nl' nx' : Nat} {N N' : NM} (h : Ext nl nx N N') (h1 : nl ≤ nl') (h2 : nx ≤ nx') {l : Nat} (hl : l < nl) {b : Bx U} (hw : wfB C N nl nx l b) : wfB C N' nl' nx' l b := by
  cases b with
  | st cs => exact ⟨bdds_mono h1 h2 _ hw.1, hw.2⟩
  | ar i xs => exact ⟨(h.sz l hl).trans hw.1, by rw [h.cp l hl]; exact hw.2⟩

/-- A NEW BOX. -/
theorem SSim.newBox {st : St U} {s : S} (hs : SSim C N st s) {b c z : Nat} {bx : Bx U} (hb : Al.look s.box b = none) (hw : wfB C (N.loc st.nl b c z) (st.nl + 1) st.nx st.nl bx) :
    SSim C (N.loc st.nl b c z) ⟨(st.nl, some bx) :: st.bx, st.tg, st.nl + 1, st.nx⟩ ⟨lay s.box b (trB C (N.loc st.nl b c z) st.nl bx), s.tg, s.nx⟩ := by
  have hext := N.ext_loc st.nl st.nx b c z
  have hbl : ∀ l, l < st.nl → (N.loc st.nl b c z).bl l = N.bl l := hext.bl
  have hbn : (N.loc st.nl b c z).bl st.nl = b := if_pos rfl
  have hne : ∀ l b', lk st.bx l = some b' → b ≠ N.bl l := fun l b' hl e => by
    have := hs.box l b' hl
    rw [← e, hb] at this
    cases this
  refine ⟨?_, ?_, ?_, ?_, hs.tgIn, hs.tgInj, hs.tgLt, hs.nm⟩
  · intro l b' hl
    rw [lk_cons] at hl
    by_cases e : st.nl = l
    · rw [if_pos e] at hl
      injection hl with hl
      subst hl; subst e
      show Al.look (lay s.box b _) _ = _
      rw [hbn, look_lay, if_pos rfl]
    · rw [if_neg e] at hl
      have hlt := hs.lt l b' hl
      show Al.look (lay s.box b _) _ = _
      rw [hbl l hlt, look_lay, if_neg (hne l b' hl), hs.box l b' hl, trB_ext hs hext (Nat.le_refl _) (Nat.le_refl _) hl]
  · intro l b' hl
    rw [lk_cons] at hl
    by_cases e : st.nl = l
    · show l < st.nl + 1; omega
    · rw [if_neg e] at hl
      have hlt := hs.lt l b' hl
      show l < st.nl + 1; omega
  · intro l b' hl
    rw [lk_cons] at hl
    by_cases e : st.nl = l
    · rw [if_pos e] at hl
      injection hl with hl
      subst hl; subst e
      exact hw
    · rw [if_neg e] at hl
      exact wfB_ext hext (Nat.le_succ _) (Nat.le_refl _) (hs.lt l b' hl) (hs.wf l b' hl)
  · intro l l' b1 b2 h1 h2 he
    rw [lk_cons] at h1 h2
    by_cases e : st.nl = l
    · by_cases e' : st.nl = l'
      · omega
      · rw [if_neg e'] at h2
        subst e
        rw [hbn, hbl l' (hs.lt l' b2 h2)] at he
        exact absurd he (hne l' b2 h2)
    · rw [if_neg e] at h1
      by_cases e' : st.nl = l'
      · subst e'
        rw [hbn, hbl l (hs.lt l b1 h1)] at he
        exact absurd he.symm (hne l b1 h1)
      · rw [if_neg e'] at h2
        rw [hbl l (hs.lt l b1 h1), hbl l' (hs.lt l' b2 h2)] at he
        exact hs.inj l l' b1 b2 h1 h2 he

/-- A box goes. -/
theorem SSim.drop {st : St U} {s : S} (hs : SSim C N st s) (l0 : Nat) {b0 : Bx U} (h0 : lk st.bx l0 = some b0) : SSim C N ⟨(l0, none) :: st.bx, st.tg, st.nl, st.nx⟩ ⟨wipe s.box (N.bl l0), s.tg, s.nx⟩ := by
  have key : ∀ l b, lk ((l0, none) :: st.bx) l = some b → l ≠ l0 ∧ lk st.bx l = some b := fun l b hl => by
    rw [lk_cons] at hl
    by_cases e : l0 = l
    · rw [if_pos e] at hl; cases hl
    · rw [if_neg e] at hl; exact ⟨fun e' => e e'.symm, hl⟩
  refine ⟨fun l b hl => ?_, fun l b hl => hs.lt l b (key l b hl).2, fun l b hl => hs.wf l b (key l b hl).2, fun l l' b b' h1 h2 he => hs.inj l l' b b' (key l b h1).2 (key l' b' h2).2 he, hs.tgIn, hs.tgInj, hs.tgLt, hs.nm⟩
  obtain ⟨h1, h2⟩ := key l b hl
  show Al.look (wipe s.box _) _ = _
  rw [look_wipe, if_neg (fun e => h1 (hs.inj l l0 b b0 h2 h0 e.symm)), hs.box l b h2]

/-- A box is written. -/
theorem SSim.setBox {st : St U} {s : S} (hs : SSim C N st s) {l0 : Nat} {b0 b1 : Bx U} (h0 : lk st.bx l0 = some b0) (hw : wfB C N st.nl st.nx l0 b1) :
    SSim C N ⟨(l0, some b1) :: st.bx, st.tg, st.nl, st.nx⟩ ⟨lay s.box (N.bl l0) (trB C N l0 b1), s.tg, s.nx⟩ := by
  have key : ∀ l b, lk ((l0, some b1) :: st.bx) l = some b → (l = l0 ∧ b = b1) ∨ (l ≠ l0 ∧ lk st.bx l = some b) := fun l b hl => by
    rw [lk_cons] at hl
    by_cases e : l0 = l
    · rw [if_pos e] at hl; injection hl with hl; exact .inl ⟨e.symm, hl.symm⟩
    · rw [if_neg e] at hl; exact .inr ⟨fun e' => e e'.symm, hl⟩
  have any : ∀ l b, lk ((l0, some b1) :: st.bx) l = some b → ∃ b', lk st.bx l = some b' := fun l b hl => by
    rcases key l b hl with ⟨rfl, _⟩ | ⟨_, h⟩
    · exact ⟨_, h0⟩
    · exact ⟨_, h⟩
  refine ⟨fun l b hl => ?_, fun l b hl => ?_, fun l b hl => ?_, fun l l' b b' h1 h2 he => ?_, hs.tgIn, hs.tgInj, hs.tgLt, hs.nm⟩
  · show Al.look (lay s.box _ _) _ = _
    rcases key l b hl with ⟨rfl, rfl⟩ | ⟨h1, h2⟩
    · rw [look_lay, if_pos rfl]
    · rw [look_lay, if_neg (fun e => h1 (hs.inj l l0 b b0 h2 h0 e.symm)), hs.box l b h2]
  · obtain ⟨b', h⟩ := any l b hl
    exact hs.lt l b' h
  · rcases key l b hl with ⟨rfl, rfl⟩ | ⟨h1, h2⟩
    · exact hw
    · exact hs.wf l b h2
  · obtain ⟨x, hx⟩ := any l b h1
    obtain ⟨y, hy⟩ := any l' b' h2
    exact hs.inj l l' x y hx hy he

/-- A NEW TOKEN, in the place of others. -/
theorem SSim.newTok {st : St U} {s : S} (hs : SSim C N st s) {n : Nat} {tg : List Nat} {tg' : List Nat} {x : Nat} (h1 : ∀ t ∈ tg, t ∈ st.tg) (h2 : ∀ t ∈ tg, N.tk t ∈ tg') (h3 : ∀ t ∈ tg, N.tk t ≠ n) (h4 : s.nx ≤ x) (h5 : n < x) :
    SSim C (N.tok st.nx n) ⟨st.bx, st.nx :: tg, st.nl, st.nx + 1⟩ ⟨s.box, n :: tg', x⟩ := by
  have hext := N.ext_tok st.nl st.nx n
  have htk : ∀ t, t < st.nx → (N.tok st.nx n).tk t = N.tk t := hext.tk
  have htn : (N.tok st.nx n).tk st.nx = n := if_pos rfl
  refine ⟨fun l b hl => ?_, hs.lt, fun l b hl => ?_, fun l l' b b' q1 q2 he => hs.inj l l' b b' q1 q2 he, ?_, ?_, ?_, ?_⟩
  · rw [trB_ext hs hext (Nat.le_refl _) (Nat.le_refl _) hl]
    exact hs.box l b hl
  · exact wfB_ext hext (Nat.le_refl _) (Nat.le_succ _) (hs.lt l b hl) (hs.wf l b hl)
  · intro t ht
    rcases List.mem_cons.1 ht with rfl | ht
    · rw [htn]; simp
    · rw [htk t (hs.tgLt t (h1 t ht))]
      exact List.mem_cons_of_mem _ (h2 t ht)
  · intro t ht t' ht' he
    rcases List.mem_cons.1 ht with rfl | ht
    · rcases List.mem_cons.1 ht' with rfl | ht'
      · rfl
      · rw [htn, htk t' (hs.tgLt t' (h1 t' ht'))] at he
        exact absurd he.symm (h3 t' ht')
    · rcases List.mem_cons.1 ht' with rfl | ht'
      · rw [htn, htk t (hs.tgLt t (h1 t ht))] at he
        exact absurd he (h3 t ht)
      · rw [htk t (hs.tgLt t (h1 t ht)), htk t' (hs.tgLt t' (h1 t' ht'))] at he
        exact hs.tgInj t (h1 t ht) t' (h1 t' ht') he
  · intro t ht
    show t < st.nx + 1
    rcases List.mem_cons.1 ht with rfl | ht
    · omega
    · have := hs.tgLt t (h1 t ht); omega
  · intro t ht
    show _ < x
    rcases List.mem_cons.1 ht with rfl | ht
    · rw [htn]; exact h5
    · rw [htk t (hs.tgLt t (h1 t ht))]
      have := hs.nm t (h1 t ht); omega

theorem elsOk_map (hC : CodOk C) (i : U.I) (xs : List (U.den i)) : elsOk (C.cells i) (xs.map (C.encV i)) := fun x hx => by
  obtain ⟨y, _, rfl⟩ := List.mem_map.1 hx
  exact hC.size i y

theorem flats_length (hC : CodOk C) (i : U.I) : ∀ xs : List (U.den i), (flats (xs.map (C.encV i))).length = xs.length * C.cells i
  | [] => by simp [flats]
  | x :: r => by
    have h1 := hC.size i x
    have h2 := hC.ones i x
    have h3 : (C.encV i x).flat.length = C.cells i := by
      rw [← h1]
      cases hx : C.encV i x with
      | agg fs => rw [hx] at h2; simp only [V.flat] at h2 ⊢; simp only [V.size, sizes_one h2]
      | _ => simp [V.flat, V.size]
    simp only [List.map_cons, flats, List.length_append, flats_length hC i r, h3, List.length_cons, Nat.add_mul]
    omega
theorem flat_length (hC : CodOk C) (i : U.I) (x : U.den i) : (C.encV i x).flat.length = C.cells i := by
  have := flats_length hC i [x]
  simpa [flats] using this

theorem flats_append (a b : List V) : flats (a ++ b) = flats a ++ flats b := by
  induction a with
  | nil => rfl
  | cons x r ih => simp [flats, ih]

theorem flats_ones (hC : CodOk C) (i : U.I) : ∀ xs : List (U.den i), allOne (flats (xs.map (C.encV i)))
  | [] => rfl
  | x :: r => by
    simp only [List.map_cons, flats]
    exact allOne_append (hC.ones i x) (flats_ones hC i r)

theorem flats_take (hC : CodOk C) (i : U.I) : ∀ (xs : List (U.den i)) (n : Nat), (flats (xs.map (C.encV i))).take (n * C.cells i) = flats ((xs.take n).map (C.encV i))
  | [], n => by simp [flats]
  | x :: r, 0 => by simp [flats]
  | x :: r, n + 1 => by
    have h := flat_length hC i x
    have e : (n + 1) * C.cells i = (C.encV i x).flat.length + n * C.cells i := by rw [h, Nat.add_mul]; omega
    simp only [List.map_cons, flats, List.take_succ_cons]
    rw [e, List.take_length_add_append, flats_take hC i r n]
theorem flats_drop (hC : CodOk C) (i : U.I) : ∀ (xs : List (U.den i)) (n : Nat), (flats (xs.map (C.encV i))).drop (n * C.cells i) = flats ((xs.drop n).map (C.encV i))
  | [], n => by simp [flats]
  | x :: r, 0 => by simp [flats]
  | x :: r, n + 1 => by
    have h := flat_length hC i x
    have e : (n + 1) * C.cells i = (C.encV i x).flat.length + n * C.cells i := by rw [h, Nat.add_mul]; omega
    simp only [List.map_cons, flats, List.drop_succ_cons]
    rw [e, List.drop_length_add_append, flats_drop hC i r n]

theorem dIndexAddr_ok (hT : TbOk C P Tb) (hC : CodOk C) {st : St U} {s : S} (hs : SSim C N st s) {t : TypeId} {x n : T U} {xv nv : V} {K : V → Prop} {k : T U → Option R} (hx : VR C N x xv) (hn : VR C N n nv)
    (h : dIndexAddr C Tb st t x n k = some r) (hK : ∀ v, k v = some r → K (trT C N v)) : aIndexAddr P t xv nv K := by
  unfold dIndexAddr at h
  obtain ⟨i, el, hh, h1, h2, h3, h4⟩ := codeEl_ok hT h
  clear h
  have h := hh
  clear hh
  simp only at h
  split at h
  · rename_i _ n'
    split at h
    · rename_i m j xs
      obtain ⟨h5, h6⟩ := bif_some h
      simp only [Bool.and_eq_true, decide_eq_true_eq] at h5
      obtain ⟨rfl, h5⟩ := h5
      have hb := inB_spec h5
      have hlt : n'.toNat < xs.length := by omega
      rw [hx.get (by simp), hn.get (by simp)]
      simp only [trT, aIndexAddr, h1, List.length_map]
      rw [getD_tr xs _ hlt (C.dflt j)]
      refine ⟨h2.has, hb, by rw [hC.size, h3], ?_⟩
      have := hK _ h6
      simp only [trT, hC.enc] at this
      exact this
    · rename_i l m
      split at h
      · rename_i j ys hl
        obtain ⟨h5, h6⟩ := bif_some h
        simp only [Bool.and_eq_true, decide_eq_true_eq] at h5
        obtain ⟨rfl, h5⟩ := h5
        have hb := inB_spec h5
        rw [hx.get (by simp), hn.get (by simp)]
        simp only [trT, aIndexAddr, h1]
        refine ⟨h2.has, hb, ?_⟩
        have := hK _ h6
        have hw := hs.wf l _ hl
        simp only [trT, hw.1, Nat.add_zero, h3] at this
        simpa using this
      · cases h
    · cases h
  · cases h

theorem part_of_el (hC : CodOk C) (i : U.I) (xs : List (U.den i)) (a o z : Nat) (ha : a < xs.length) (hz : o + z ≤ C.cells i) :
    (((flats (xs.map (C.encV i))).drop (a * C.cells i + o)).take z = ((C.encV i (xs.getD a (C.dflt i))).flat.drop o).take z) ∧
    (o < C.cells i → (flats (xs.map (C.encV i))).getD (a * C.cells i + o) .any = (C.encV i (xs.getD a (C.dflt i))).flat.getD o .any) := by
  have h1 : (flats (xs.map (C.encV i))).drop (a * C.cells i) = (C.encV i (xs.getD a (C.dflt i))).flat ++ flats ((xs.drop (a + 1)).map (C.encV i)) := by
    rw [flats_drop hC, List.drop_eq_getElem_cons ha]
    simp only [List.map_cons, flats, List.getD_eq_getElem?_getD, List.getElem?_eq_getElem ha, Option.getD_some]
  have h2 := flat_length hC i (xs.getD a (C.dflt i))
  refine ⟨?_, fun ho => ?_⟩
  · rw [← List.drop_drop, h1, List.drop_append_of_le_length (by omega), List.take_append_of_le_length (by rw [List.length_drop]; omega)]
  · have e : (flats (xs.map (C.encV i))).getD (a * C.cells i + o) .any = ((flats (xs.map (C.encV i))).drop (a * C.cells i)).getD o .any := by
      simp only [List.getD_eq_getElem?_getD, List.getElem?_drop]
    rw [e, h1]
    rw [List.getD_eq_getElem?_getD (l := _ ++ _), List.getElem?_append_left (by omega), ← List.getD_eq_getElem?_getD]

theorem dLoad_ok (hT : TbOk C P Tb) (hC : CodOk C) {st : St U} {s : S} (hs : SSim C N st s) {t : TypeId} {x : T U} {xv : V} {K : V → Prop} {k : T U → Option R} (hx : VR C N x xv)
    (h : dLoad C Tb st t x k = some r) (hK : ∀ v, k v = some r → K (trT C N v)) : aLoad P s t xv K := by
  unfold dLoad at h
  split at h
  · obtain ⟨h1, h2⟩ := bif_some h
    rw [hx.get (by simp)]
    exact ⟨fitsD_ok (fun hh => hT _ hh) h1, hK _ h2⟩
  · rename_i l o
    split at h
    · rename_i cs hl
      rw [hx.get (by simp)]
      simp only [trT, aLoad, hs.box l _ hl, trB]
      exact dPart_ok (fun hh => hT _ hh) h hK
    · cases h
  · rename_i l a o
    split at h
    · rename_i i xs hl
      obtain ⟨h1, h2⟩ := bif_some h
      simp only [Bool.and_eq_true, Nat.ble_eq] at h1
      have ha := blt_lt h1.2
      have hw := hs.wf l _ hl
      rw [hx.get (by simp)]
      simp only [trT, aLoad, hs.box l _ hl, trB, hw.1]
      rw [feL_eq] at h2
      obtain ⟨q1, q2⟩ := dPart_ok (P := P) (t := t) (fun hh => hT _ hh) h2 hK
      have e0 : (C.enc i (xs.getD a (C.dflt i))).flat.map (trT C N) = (C.encV i (xs.getD a (C.dflt i))).flat := by rw [← flat_tr, hC.enc]
      rw [e0] at q1 q2
      obtain ⟨p1, p2, p3⟩ := q1
      have hc : P.cellsOf t = (Tb t).cells := by
        have : (Tb t).has = true := by
          unfold dPart at h2
          have := (bif_some h2).1
          simp only [Bool.and_eq_true] at this
          exact this.1.1
        exact (hT t this).cells
      have hfl := flat_length hC i (xs.getD a (C.dflt i))
      have hlen := flats_length hC i xs
      have hmul : (a + 1) * C.cells i ≤ xs.length * C.cells i := Nat.mul_le_mul_right _ ha
      rw [Nat.add_mul, Nat.one_mul] at hmul
      have hpe := part_of_el hC i xs a o (P.cellsOf t) ha (by rw [hc]; exact h1.1)
      refine ⟨⟨p1, by omega, p3⟩, ?_⟩
      unfold partV at q2 ⊢
      split at q2
      · rename_i hag
        rw [if_pos hag, hpe.1]; exact q2
      · rename_i hag
        rw [if_neg hag, hpe.2 (by have := p3 (by simpa using hag); omega)]; exact q2
    · cases h
  · cases h

theorem dNew_ok {st : St U} {s : S} (hs : SSim C N st s) {cs : List (T U)} {cv : List V} (hcv : cs.map (trT C N) = cv) {K : V → S → Prop} {k : T U → St U → Option R} (h : dNew st cs k = some r) (hK : Kok C N st K k r) : aNew s cv K := by
  subst hcv
  unfold dNew at h
  obtain ⟨h1, h2⟩ := bif_some h
  simp only [Bool.and_eq_true] at h1
  refine ⟨(allOne_tr C N cs).2 h1.1, fun b hb => ?_⟩
  have hn := hs.newBox (b := b) (c := 0) (z := 0) (bx := .st cs) hb ⟨bdds_mono (Nat.le_succ _) (Nat.le_refl _) _ h1.2, h1.1⟩
  have hext := N.ext_loc st.nl st.nx b 0 0
  simp only [trB, map_tr_ext hext h1.2] at hn
  have := hK _ _ _ _ _ h2 ⟨hext, Nat.le_succ _, Nat.le_refl _⟩ hn (.inr rfl)
  simp only [trT] at this
  have e : (N.loc st.nl b 0 0).bl st.nl = b := if_pos rfl
  rw [e] at this
  simpa using this

theorem dStore_ok (hT : TbOk C P Tb) (hC : CodOk C) {st : St U} {s : S} (hs : SSim C N st s) {t : TypeId} {x y : T U} {xv yv : V} {K : S → Prop} {k : St U → Option R} (hx : VR C N x xv) (hy : VR C N y yv)
    (h : dStore C Tb st t x y k = some r) (hK : ∀ st' s', k st' = some r → Turn N st N st' → SSim C N st' s' → K s') : aStore P s t xv yv K := by
  unfold dStore at h
  rw [feL_eq] at h
  have hq := bif_some h
  clear h
  obtain ⟨h1, h⟩ := hq
  simp only [Bool.and_eq_true, Nat.beq_eq] at h1
  obtain ⟨⟨h1, h2⟩, h3⟩ := h1
  have hf := hT t h1
  have hyn : y ≠ .any := fun e => by subst e; simp [T.flat, oneAll, T.isOne] at h3
  have hyv := hy.get hyn
  subst hyv
  split at h
  · rename_i l o
    split at h
    · rename_i cs hl
      obtain ⟨h4, h5⟩ := bif_some h
      simp only [Bool.and_eq_true, Nat.ble_eq] at h4
      rw [feL_eq] at h5
      rw [hx.get (by simp)]
      simp only [trT, aStore, hs.box l _ hl, trB, flat_tr, List.length_map]
      refine ⟨hf.has, by rw [hf.cells]; exact h2, (allOne_tr C N _).2 h3, h4.1, ?_⟩
      have hw := hs.wf l _ hl
      have hlen : (splT cs o y.flat).length = cs.length := by simp [splT]; omega
      have hone : oneAll (splT cs o y.flat) = true := by
        have h1 := hw.2
        unfold oneAll at *
        rw [List.all_eq_true] at *
        intro z hz
        simp only [splT, List.mem_append] at hz
        rcases hz with (hz | hz) | hz
        · exact h1 z (List.mem_of_mem_take hz)
        · exact h3 z hz
        · exact h1 z (List.mem_of_mem_drop hz)
      have hbd : bdds st.nl st.nx (splT cs o y.flat) = true := by
        have key : ∀ l : List (T U), bdds st.nl st.nx l = true ↔ ∀ z ∈ l, bdd st.nl st.nx z = true := fun l => by
          induction l with
          | nil => simp [bdds]
          | cons a r ih => simp [bdds, ih]
        rw [key]
        intro z hz
        simp only [splT, List.mem_append] at hz
        rcases hz with (hz | hz) | hz
        · exact (key _).1 hw.1 z (List.mem_of_mem_take hz)
        · exact (key _).1 h4.2 z hz
        · exact (key _).1 hw.1 z (List.mem_of_mem_drop hz)
      have hn := hs.setBox (b1 := .st (splT cs o y.flat)) hl ⟨hbd, hone⟩
      simp only [trB, splT_tr, hlen] at hn
      exact hK _ _ h5 ⟨.refl _ _ _, Nat.le_refl _, Nat.le_refl _⟩ hn
    · cases h
  · rename_i l a o
    split at h
    · rename_i i xs hl
      obtain ⟨h4, h5⟩ := bif_some h
      simp only [Bool.and_eq_true, Nat.ble_eq] at h4
      obtain ⟨⟨hp, ho⟩, ha⟩ := h4
      have ha := blt_lt ha
      obtain ⟨x', h6, h7⟩ := hC.decP i _ _ _ hp h5
      have hw := hs.wf l _ hl
      rw [hx.get (by simp)]
      simp only [trT, aStore, hs.box l _ hl, trB, flat_tr, List.length_map, hw.1]
      have hlen := flats_length hC i xs
      have hfl := flat_length hC i (xs.getD a (C.dflt i))
      have hmul : (a + 1) * C.cells i ≤ xs.length * C.cells i := Nat.mul_le_mul_right _ ha
      rw [Nat.add_mul, Nat.one_mul] at hmul
      refine ⟨hf.has, by rw [hf.cells]; exact h2, (allOne_tr C N _).2 h3, by omega, ?_⟩
      have hn := hs.setBox (b1 := .ar i (xs.set a x')) hl ⟨hw.1, by rw [List.length_set]; exact hw.2⟩
      simp only [trB] at hn
      have e : spl (flats (xs.map (C.encV i))) (a * C.cells i + o) (y.flat.map (trT C N)) = flats ((xs.set a x').map (C.encV i)) := by
        have h8 := h7 N
        have e1 : (C.enc i (xs.getD a (C.dflt i))).flat.map (trT C N) = (C.encV i (xs.getD a (C.dflt i))).flat := by rw [← flat_tr, hC.enc]
        have e2 : (C.encV i x').flat = spl (C.encV i (xs.getD a (C.dflt i))).flat o (y.flat.map (trT C N)) := by
          rw [← h8, flat_tr, ← e1, ← splT_tr]
          unfold asEl
          cases hag : C.agg i with
          | true => rfl
          | false =>
            have h9 := hC.one i hag
            have h10 : (C.enc i (xs.getD a (C.dflt i))).flat.length = 1 := by
              have := congrArg List.length e1
              rw [List.length_map, hfl, h9] at this
              exact this
            have h11 : (splT (C.enc i (xs.getD a (C.dflt i))).flat o y.flat).length = 1 := by rw [splT, List.length_append, List.length_append, List.length_take, List.length_drop, h10]; omega
            match hq : splT (C.enc i (xs.getD a (C.dflt i))).flat o y.flat, h11 with
            | [z], _ =>
              simp only [cond_false, List.headD_cons]
              have : oneAll [z] = true := by
                rw [← hq]
                unfold oneAll
                rw [List.all_eq_true]
                intro u hu
                simp only [splT, List.mem_append] at hu
                have hones : oneAll (C.enc i (xs.getD a (C.dflt i))).flat = true := (allOne_tr C N _).1 (by rw [e1]; exact hC.ones i _)
                unfold oneAll at hones h3
                rw [List.all_eq_true] at hones h3
                rcases hu with (hu | hu) | hu
                · exact hones u (List.mem_of_mem_take hu)
                · exact h3 u hu
                · exact hones u (List.mem_of_mem_drop hu)
              cases z <;> simp [oneAll, T.isOne] at this <;> rfl
        have ex : xs.set a x' = xs.take a ++ x' :: xs.drop (a + 1) := by rw [List.set_eq_take_append_cons_drop, if_pos ha]
        rw [ex, List.map_append, flats_append, List.map_cons]
        simp only [flats]
        rw [e2]
        unfold spl
        rw [← flats_take hC, ← flats_drop hC]
        have d1 : (flats (xs.map (C.encV i))).take (a * C.cells i + o) = (flats (xs.map (C.encV i))).take (a * C.cells i) ++ (C.encV i (xs.getD a (C.dflt i))).flat.take o := by
          rw [List.take_add]
          congr 1
          have := (part_of_el hC i xs a 0 o ha (by omega)).1
          simpa using this
        have d2 : (flats (xs.map (C.encV i))).drop (a * C.cells i + o + (y.flat.map (trT C N)).length) = (C.encV i (xs.getD a (C.dflt i))).flat.drop (o + (y.flat.map (trT C N)).length) ++ (flats (xs.map (C.encV i))).drop ((a + 1) * C.cells i) := by
          have hd : (flats (xs.map (C.encV i))).drop (a * C.cells i) = (C.encV i (xs.getD a (C.dflt i))).flat ++ flats ((xs.drop (a + 1)).map (C.encV i)) := by
            rw [flats_drop hC, List.drop_eq_getElem_cons ha]
            simp only [List.map_cons, flats, List.getD_eq_getElem?_getD, List.getElem?_eq_getElem ha, Option.getD_some]
          rw [Nat.add_assoc, ← List.drop_drop, hd, List.drop_append_of_le_length (by rw [List.length_map]; omega), flats_drop hC]
        rw [d1, d2]
        simp
      rw [e]
      exact hK _ _ h6 ⟨.refl _ _ _, Nat.le_refl _, Nat.le_refl _⟩ hn
    · cases h
  · cases h

theorem sameC_ok {i j : U.I} {xs : List (U.den j)} {k : List (U.den i) → Option R} (h : sameC i j xs k = some r) : ∃ e : j = i, k (castL e xs) = some r := by
  unfold sameC at h
  split at h
  · rename_i e; exact ⟨e, h⟩
  · cases h

theorem okN_spec {b n : Nat} (h : okN b n = true) : n * b ≤ 140737488355328 ∧ n ≤ maxLen := by
  simpa [okN] using h

theorem zeroLen (hT : TbOk C P Tb) {el : TypeId} (hf : Facts C P el (Tb el)) (h : (match (Tb el).zero with | some z => Nat.beq z.length (Tb el).cells | none => false) = true) :
    (zeroC P el).isSome = true ∧ (zeroC P el).map List.length = some (P.cellsOf el) := by
  rw [hf.zero ⟨id, id, id, id⟩, hf.cells]
  split at h
  · rename_i z hz
    rw [hz]
    simp only [Nat.beq_eq] at h
    simp [h]
  · cases h

theorem dAppend_ok (hT : TbOk C P Tb) (hC : CodOk C) {L : Pol} {st : St U} {s : S} (hs : SSim C N st s) {dst : Option Nat} {t t2 : TypeId} {x y : T U} {xv yv : V} {K : V → S → Prop} {k : T U → St U → Option R}
    (hx : VR C N x xv) (hy : VR C N y yv) (h : dAppend Tb L.wr dst st t t2 x y k = some r) (hK : Kok C N st K k r) : aAppend P L dst s t t2 xv yv K := by
  unfold dAppend at h
  obtain ⟨i, el, hh, h1, h2, h3, h4⟩ := codeEl_ok hT h
  clear h
  have h := hh
  clear hh
  simp only at h
  have hq := bif_some h
  clear h
  obtain ⟨h5, h⟩ := hq
  simp only [Bool.and_eq_true, Nat.beq_eq] at h5
  obtain ⟨rfl, hz⟩ := h5
  have hz := (zeroLen hT h2 hz).2
  have hwd : wrD L.wr dst = (dst.map L.wr).getD false := by cases dst <;> rfl
  rw [hwd] at h
  split at h
  · rename_i m j ys'
    have hq := sameC_ok h; clear h; obtain ⟨rfl, h⟩ := hq
    simp only [castL] at h
    have hyv := hy.get (by simp)
    subst hyv
    simp only [trT, aAppend, h1]
    refine ⟨trivial, h2.has, hz, by rw [← h3]; exact hC.pos j, by rw [← h3]; exact elsOk_map hC j ys', ?_⟩
    split at h
    · have hq := bif_some h
      clear h
      obtain ⟨h6, h⟩ := hq
      have h6 := okN_spec h6
      rw [hx.get (by simp)]
      simp only [trT, List.length_map]
      refine ⟨by rw [h2.bytes]; exact h6.1, h6.2, ?_⟩
      split
      · rename_i hw
        rw [hw] at h
        simp only [cond_true] at h
        have hq := bif_some h
        clear h
        obtain ⟨h7, h⟩ := hq
        refine ⟨by cases ys' <;> simp at h7 ⊢, flats_ones hC j ys', fun b cap hb hcap => ?_⟩
        have hn := hs.newBox (b := b) (c := cap) (z := C.cells j) (bx := .ar j ys') hb ⟨if_pos rfl, by show _ ≤ if _ then _ else _; rw [if_pos rfl]; exact hcap⟩
        have hext := N.ext_loc st.nl st.nx b cap (C.cells j)
        have ec : (N.loc st.nl b cap (C.cells j)).cp st.nl = cap := if_pos rfl
        have eb : (N.loc st.nl b cap (C.cells j)).bl st.nl = b := if_pos rfl
        simp only [trB, ec] at hn
        have := hK _ _ _ _ _ h ⟨hext, Nat.le_succ _, Nat.le_refl _⟩ hn (.inr rfl)
        simp only [trT, ec, eb] at this
        rw [← h3]
        exact this
      · rename_i hw
        have hw : (Option.map L.wr dst).getD false = false := by simpa using hw
        rw [hw] at h
        simp only [cond_false] at h
        have hn := hs.newTok (n := s.nx) (tg := st.tg) (tg' := s.tg) (x := s.nx + 1) (fun _ h => h) hs.tgIn (fun t ht => Nat.ne_of_lt (hs.nm t ht)) (Nat.le_succ _) (Nat.lt_succ_self _)
        have := hK _ _ _ _ _ h ⟨N.ext_tok st.nl st.nx s.nx, Nat.le_refl _, Nat.le_succ _⟩ hn (.inr rfl)
        simp only [trT, trM] at this
        have e : (N.tok st.nx s.nx).tk st.nx = s.nx := if_pos rfl
        rw [e, h3] at this
        exact this
    · rename_i m' j' xs'
      split at h
      · rename_i tk nb
        have hq := sameC_ok h; clear h; obtain ⟨rfl, h⟩ := hq
        simp only [castL] at h
        have hq := bif_some h
        clear h
        obtain ⟨h6, h⟩ := hq
        simp only [Bool.and_eq_true] at h6
        have h7 := okN_spec h6.2
        have hm := hasN_mem h6.1
        rw [hx.get (by simp)]
        simp only [trT, trM, List.length_map]
        refine ⟨hs.tgIn _ hm, h3, by rw [h2.bytes]; exact h7.1, h7.2, ?_⟩
        have hn := hs.newTok (n := s.nx) (tg := rmN st.tg tk) (tg' := s.tg.erase (N.tk tk)) (x := s.nx + 1) (fun t ht => (rmN_mem ht).1) (fun t ht => by
          obtain ⟨q1, q2⟩ := rmN_mem ht
          exact (List.mem_erase_of_ne (fun e => q2 (hs.tgInj t q1 tk hm e))).2 (hs.tgIn t q1)) (fun t ht => Nat.ne_of_lt (hs.nm t (rmN_mem ht).1)) (Nat.le_succ _) (Nat.lt_succ_self _)
        have := hK _ _ _ _ _ h ⟨N.ext_tok st.nl st.nx s.nx, Nat.le_refl _, Nat.le_succ _⟩ hn (.inr rfl)
        simp only [trT, trM] at this
        have e : (N.tok st.nx s.nx).tk st.nx = s.nx := if_pos rfl
        rw [e, List.map_append] at this
        exact this
      · cases h
    · rename_i l n
      split at h
      · rename_i j' xs' hl
        have hq := sameC_ok h; clear h; obtain ⟨rfl, h⟩ := hq
        simp only [castL] at h
        have hq := bif_some h
        clear h
        obtain ⟨h6, h⟩ := hq
        simp only [Bool.and_eq_true, Nat.ble_eq] at h6
        obtain ⟨⟨h7, h8⟩, h9⟩ := h6
        have h9 := okN_spec h9
        have hw := hs.wf l _ hl
        rw [hx.get (by simp)]
        simp only [trT, hs.box l _ hl, trB, List.length_map]
        refine ⟨h7, by rw [h3], by have := hw.2; omega, by rw [flats_length hC, ← h3]; exact Nat.mul_le_mul_right _ h8, by rw [h2.bytes]; exact h9.1, h9.2, flats_ones hC j' ys', fun b' cap' hb hcap => ?_⟩
        have hd := hs.drop l hl
        have hn := hd.newBox (b := b') (c := cap') (z := C.cells j') (bx := .ar j' (xs'.take n ++ ys')) hb ⟨if_pos rfl, by
          show _ ≤ if _ then _ else _
          rw [if_pos rfl, List.length_append, List.length_take]; omega⟩
        have hext := N.ext_loc st.nl st.nx b' cap' (C.cells j')
        have ec : (N.loc st.nl b' cap' (C.cells j')).cp st.nl = cap' := if_pos rfl
        have eb : (N.loc st.nl b' cap' (C.cells j')).bl st.nl = b' := if_pos rfl
        simp only [trB, ec] at hn
        have := hK _ _ _ _ _ h ⟨hext, Nat.le_succ _, Nat.le_refl _⟩ hn (.inr rfl)
        simp only [trT, ec, eb] at this
        rw [List.map_append, flats_append, ← flats_take hC] at this
        rw [← h3]
        exact this
      · cases h
    · cases h
  · cases h

end
end Go.Den

/-
  DEN, part 5: EVERY OPERATION, AND A LIST OF THEM, ANSWERS AS THE ABSTRACT ONE. General: no program in sight.
-/
namespace Go.Den
open Go.Al

section
variable {U : TyU} {C : Cod U} {P : Program} {Tb : TypeId → TD U} {R : Type} {r : R} {N : NM}

theorem extract_tr (s : List UInt8) (a b : Nat) : (⟨s.toArray⟩ : ByteArray).extract a b = ⟨((s.take b).drop a).toArray⟩ := by
  apply ByteArray.ext
  simp [ByteArray.data_extract, List.extract_toArray, List.extract_eq_take_drop, List.drop_take]

def OR (C : Cod U) (N : NM) (x : Option (T U)) (v : Option V) : Prop := match x, v with | none, none => True | some x, some v => VR C N x v | _, _ => False

theorem dSlice_ok (hT : TbOk C P Tb) (hC : CodOk C) {st : St U} {s : S} (hs : SSim C N st s) {t : TypeId} {x : T U} {xv : V} {lo hi : Option (T U)} {lov hiv : Option V} {K : V → Prop} {k : T U → Option R} (hx : VR C N x xv)
    (hlo : OR C N lo lov) (hhi : OR C N hi hiv) (h : dSlice Tb st t x lo hi k = some r) (hK : ∀ v, k v = some r → K (trT C N v)) : aSlice P t xv lov hiv K := by
  unfold dSlice at h
  split at h
  · rename_i m j xs
    obtain ⟨i, el, hh, h1, h2, h3, h4⟩ := codeEl_ok hT h
    clear h
    have hq := bif_some hh; clear hh
    obtain ⟨h5, h⟩ := hq
    simp only [decide_eq_true_eq] at h5
    subst h5
    rw [hx.get (by simp)]
    simp only [trT, aSlice, h1]
    refine ⟨h2.has, .inr fun y hy => by rw [← h3]; exact elsOk_map hC j xs y (List.mem_of_mem_take hy), ?_⟩
    refine dBound_ok hlo h fun l hl => ?_
    rw [List.length_map]
    refine dBound_ok hhi hl fun hh hl2 => ?_
    obtain ⟨h6, h7⟩ := bif_some hl2
    refine ⟨inS_spec h6, ?_⟩
    have := hK _ h7
    simp only [trT, cutL, List.map_drop, List.map_take] at this
    rw [cutM_tr m xs (cutL xs l hh)]
    simpa [cutL, List.map_drop, List.map_take] using this
  · rename_i l0 n
    obtain ⟨i, el, hh, h1, h2, h3, h4⟩ := codeEl_ok hT h
    clear h
    split at hh
    · split at hh
      · rename_i j xs hl
        have hq := bif_some hh; clear hh
        obtain ⟨h5, h⟩ := hq
        simp only [decide_eq_true_eq] at h5
        subst h5
        cases lov with
        | some _ => exact hlo.elim
        | none =>
          rw [hx.get (by simp)]
          simp only [trT, aSlice, h1]
          refine ⟨h2.has, ?_⟩
          have e0 : ∀ (d : Int) (K : Int → Prop), boundV none d K = K d := fun _ _ => rfl
          rw [e0]
          refine dBound_ok hhi h fun hh hl2 => ?_
          obtain ⟨h6, h7⟩ := bif_some hl2
          obtain ⟨q1, q2, q3⟩ := inS_spec h6
          have hw := hs.wf l0 _ hl
          refine ⟨⟨q1, q2, by have := hw.2; omega⟩, ?_⟩
          have := hK _ h7
          simp only [trT] at this
          have e1 : (if ((N.cp l0 : Nat) : Int) = 0 then 0 else 0 + (0 : Int).toNat * P.cellsOf el) = 0 := by split <;> simp
          rw [e1]
          simpa using this
      · cases hh
    · cases hh
  · rename_i s'
    obtain ⟨h1, h2⟩ := bif_some h
    simp only [Bool.and_eq_true] at h1
    rw [hx.get (by simp)]
    simp only [trT, aSlice]
    refine ⟨(hT t h1.1).isStr.trans h1.2, ?_⟩
    refine dBound_ok hlo h2 fun l hl => ?_
    have e : ((⟨s'.toArray⟩ : ByteArray).size : Int) = lenI s' := by simp [ByteArray.size, lenI]
    rw [e]
    refine dBound_ok hhi hl fun hh hl2 => ?_
    obtain ⟨h6, h7⟩ := bif_some hl2
    refine ⟨by have := inS_spec h6; simpa [lenI] using this, ?_⟩
    have := hK _ h7
    simp only [trT, cutL] at this
    rw [extract_tr]
    exact this
  · cases h

theorem decAll_ok (hC : CodOk C) {i : U.I} : ∀ {parts : List (Nat × T U)} {k : List (U.den i) → Option R}, decAll C i parts k = some r →
    ∃ xs, k xs = some r ∧ (∀ N, parts.map (fun p => (trT C N p.2).untag) = xs.map (C.encV i)) ∧ (C.plain i = true → ∀ N, parts.map (fun p => trT C N p.2) = xs.map (C.encV i))
  | [], k, h => ⟨[], h, fun _ => rfl, fun _ _ => rfl⟩
  | p :: rest, k, h => by
    simp only [decAll] at h
    by_cases hp : C.plain i = true
    · obtain ⟨x, h1, h2⟩ := hC.decP i _ _ _ hp h
      obtain ⟨xs, h3, h4, h5⟩ := decAll_ok hC h1
      exact ⟨x :: xs, h3, fun N => by rw [List.map_cons, List.map_cons, h4 N, h2 N, hC.untag], fun hp N => by rw [List.map_cons, List.map_cons, h5 hp N, h2 N]⟩
    · obtain ⟨x, h1, h2⟩ := hC.dec i _ _ _ h
      obtain ⟨xs, h3, h4, h5⟩ := decAll_ok hC h1
      exact ⟨x :: xs, h3, fun N => by rw [List.map_cons, List.map_cons, h4 N, h2 N], fun hp' => absurd hp' hp⟩

/-- Parts and what they are. -/
def PR (C : Cod U) (N : NM) (parts : List (Nat × T U)) (vs : List (Nat × V)) : Prop := vs.map (·.1) = parts.map (·.1) ∧ ∀ (j : Nat) (x : Nat × T U) (v : Nat × V), parts[j]? = some x → vs[j]? = some v → VR C N x.2 v.2

theorem PR.exact : ∀ {parts : List (Nat × T U)} {vs : List (Nat × V)}, PR C N parts vs → okParts parts = true → vs = parts.map fun p => (p.1, trT C N p.2)
  | [], vs, h, _ => by have := h.1; simpa using this
  | p :: rest, vs, h, ho => by
    simp only [okParts, Bool.and_eq_true] at ho
    cases vs with
    | nil => have := h.1; simp at this
    | cons v vs =>
      have h1 := h.1
      simp only [List.map_cons, List.cons.injEq] at h1
      have hv := h.2 0 p v rfl rfl
      have hne : p.2 ≠ .any := fun e => by rw [e] at ho; simp [T.flat, oneAll, T.isOne] at ho
      have := PR.exact (parts := rest) (vs := vs) ⟨h1.2, fun j x v a b => h.2 (j + 1) x v (by simpa using a) (by simpa using b)⟩ ho.2
      rw [this]
      simp only [List.map_cons, List.cons.injEq]
      exact ⟨by rw [← h1.1, ← hv.get hne], trivial⟩

theorem inOrd_tr {f : T U → V} : ∀ {n : Nat} {parts : List (Nat × T U)}, inOrd n parts = true → inOrder n (parts.map fun p => (p.1, f p.2)) = true
  | _, [], _ => rfl
  | n, p :: rest, h => by
    simp only [inOrd, Bool.and_eq_true, Nat.beq_eq] at h
    simp only [List.map_cons, inOrder, Bool.and_eq_true, beq_iff_eq]
    exact ⟨h.1, inOrd_tr h.2⟩

theorem okParts_tr (N : NM) : ∀ {parts : List (Nat × T U)}, okParts parts = true → (parts.map fun p => (p.1, trT C N p.2)).all (fun p => p.2.flat.all V.isOne) = true
  | [], _ => rfl
  | p :: rest, h => by
    simp only [okParts, Bool.and_eq_true] at h
    simp only [List.map_cons, List.all_cons, Bool.and_eq_true]
    refine ⟨?_, okParts_tr N h.2⟩
    have := (allOne_tr C N p.2.flat).2 h.1
    rw [← flat_tr] at this
    exact this

theorem dBuildSlice_ok (hT : TbOk C P Tb) (hC : CodOk C) {L : Pol} {st : St U} {s : S} (hs : SSim C N st s) {dst : Option Nat} {t : TypeId} {n : Nat} {parts : List (Nat × T U)} {vs : List (Nat × V)} {K : V → S → Prop} {k : T U → St U → Option R}
    (hp : PR C N parts vs) (h : dBuildSlice C Tb L.wr L.own dst st t n parts k = some r) (hK : Kok C N st K k r) : aBuildSlice P L dst s t n vs K := by
  unfold dBuildSlice at h
  obtain ⟨i, el, hh, h1, h2, h3, h4⟩ := codeEl_ok hT h
  clear h
  have hq := bif_some hh; clear hh
  obtain ⟨h5, h⟩ := hq
  simp only [Bool.and_eq_true, Nat.ble_eq, Nat.beq_eq, decide_eq_true_eq] at h5
  obtain ⟨⟨⟨⟨⟨hz, h6⟩, h7⟩, h8⟩, h9⟩, h10⟩ := h5
  have hz := zeroLen hT h2 hz
  have hex := hp.exact h10
  subst hex
  obtain ⟨xs, h11, h12, h13⟩ := decAll_ok hC h
  clear h
  have hwd : wrD L.wr dst = (dst.map L.wr).getD false := by cases dst <;> rfl
  have hod : wrD L.own dst = (dst.map L.own).getD false := by cases dst <;> rfl
  rw [hwd, hod] at h11
  have hlen : xs.length = n := by
    have := congrArg List.length (h12 N)
    simp only [List.length_map] at this
    omega
  have hes : (List.map (fun p => (p.1, trT C N p.2)) parts).map (fun p => p.2.untag) = xs.map (C.encV i) := by
    rw [List.map_map]; exact h12 N
  unfold aBuildSlice
  simp only [h1, hes]
  refine ⟨h2.has, hz.1, hz.2, by rw [h2.cells]; exact h6, h7, by rw [List.length_map]; exact h8, inOrd_tr h9, by rw [← h3]; exact elsOk_map hC i xs, okParts_tr N h10, ?_⟩
  split
  · rename_i hw
    rw [hw] at h11
    simp only [cond_true] at h11
    obtain ⟨h14, h15⟩ := bif_some h11
    have e : (List.map (fun p => (p.1, trT C N p.2)) parts).map (·.2) = xs.map (C.encV i) := by
      rw [List.map_map]; exact h13 h14 N
    rw [e]
    refine ⟨flats_ones hC i xs, fun b hb => ?_⟩
    have hn := hs.newBox (b := b) (c := n) (z := C.cells i) (bx := .ar i xs) hb ⟨if_pos rfl, by show _ ≤ if _ then _ else _; rw [if_pos rfl, hlen]; exact Nat.le_refl _⟩
    have hext := N.ext_loc st.nl st.nx b n (C.cells i)
    have ec : (N.loc st.nl b n (C.cells i)).cp st.nl = n := if_pos rfl
    have eb : (N.loc st.nl b n (C.cells i)).bl st.nl = b := if_pos rfl
    simp only [trB, ec] at hn
    have := hK _ _ _ _ _ h15 ⟨hext, Nat.le_succ _, Nat.le_refl _⟩ hn (.inr rfl)
    simp only [trT, ec, eb] at this
    rw [← h3]
    exact this
  · rename_i hw
    have hw : (Option.map L.wr dst).getD false = false := by simpa using hw
    rw [hw] at h11
    simp only [cond_false] at h11
    split
    · rename_i ho
      rw [ho] at h11
      simp only [cond_true] at h11
      have hn := hs.newTok (n := s.nx) (tg := st.tg) (tg' := s.tg) (x := s.nx + 1) (fun _ h => h) hs.tgIn (fun t ht => Nat.ne_of_lt (hs.nm t ht)) (Nat.le_succ _) (Nat.lt_succ_self _)
      have := hK _ _ _ _ _ h11 ⟨N.ext_tok st.nl st.nx s.nx, Nat.le_refl _, Nat.le_succ _⟩ hn (.inr rfl)
      simp only [trT, trM] at this
      have e : (N.tok st.nx s.nx).tk st.nx = s.nx := if_pos rfl
      rw [e, h3] at this
      exact this
    · rename_i ho
      have ho : (Option.map L.own dst).getD false = false := by simpa using ho
      rw [ho] at h11
      simp only [cond_false] at h11
      have := hK _ _ _ _ _ h11 ⟨.refl _ _ _, Nat.le_refl _, Nat.le_refl _⟩ hs (.inr rfl)
      simpa [trT, trM] using this

/-- A call leads where the abstract one does. -/
def CallOk (C : Cod U) (P : Program) (L : Pol) (call : Call U R) (r : R) : Prop :=
  ∀ n args st k N s, SSim C N st s → bdds st.nl st.nx args = true → okArgs args = true → call n args st k = some r →
    ∀ K KP, Kok C N st K k r → aCall P L (.clo (.func n) []) (args.map (trT C N)) s K KP

theorem okArgs_tr : ∀ {e : En U} {E : Env} {st : St U} (_ : ESim C N st e E) {l : List Operand}, okArgs (evL e l) = true → l.map E.ev = (evL e l).map (trT C N)
  | _, _, _, _, [], _ => rfl
  | e, E, st, he, x :: rest, h => by
    simp only [evL, okArgs, Bool.and_eq_true] at h
    simp only [evL, List.map_cons]
    have hne : evT e x ≠ .any := fun e' => by rw [e'] at h; simp [T.flat, oneAll, T.isOne] at h
    rw [(he.ev x).get hne, okArgs_tr he h.2]

theorem evP_PR {e : En U} {E : Env} {st : St U} (he : ESim C N st e E) (l : List (Nat × Operand)) : PR C N (evP e l) (l.map fun p => (p.1, E.ev p.2)) := by
  have e1 : ∀ l : List (Nat × Operand), evP e l = l.map fun p => (p.1, evT e p.2) := fun l => by
    induction l with
    | nil => rfl
    | cons a r ih => simp [evP, ih]
  rw [e1]
  refine ⟨by simp, fun j x v h1 h2 => ?_⟩
  rw [List.getElem?_map] at h1 h2
  cases hq : l[j]? with
  | none => rw [hq] at h1; cases h1
  | some p =>
    rw [hq] at h1 h2
    injection h1 with h1
    injection h2 with h2
    subst h1; subst h2
    exact he.ev p.2

theorem evO_OR {e : En U} {E : Env} {st : St U} (he : ESim C N st e E) (x : Option Operand) : OR C N (evO e x) (x.map E.ev) := by
  cases x with
  | none => trivial
  | some x => exact he.ev x

theorem dop_ok (hT : TbOk C P Tb) (hC : CodOk C) {L : Pol} {call : Call U R} (hcall : CallOk C P L call r) {st : St U} {s : S} {e : En U} {E : Env} (hs : SSim C N st s) (he : ESim C N st e E) {o : Oper} {K : V → S → Prop} {KP : List PanicEntry → S → Prop} {k : T U → St U → Option R}
    (h : dop C Tb call L.wr L.own e st o k = some r) (hK : Kok C N st K k r) : aop P L E s o K KP := by
  have pure : ∀ v, k v st = some r → K (trT C N v) s := fun v hv => hK _ _ _ _ _ hv (Turn.refl N st) hs (.inr rfl)
  obtain ⟨dst, op, ty, pos, af, gd⟩ := o
  cases op <;> simp only [dop] at h <;> simp only [aop]
  case move x => exact hK _ _ _ _ _ h (Turn.refl N st) hs (he.ev x)
  case assign x => exact hK _ _ _ _ _ h (Turn.refl N st) hs (he.ev x)
  case pick c a b => exact dPick_ok (he.ev c) (he.ev a) (he.ev b) h fun v v' hv hr => hK _ _ _ _ _ hv (Turn.refl N st) hs hr
  case alloc t =>
    unfold dAlloc at h
    obtain ⟨h1, h2⟩ := bif_some h
    split at h2
    · rename_i cs hcs
      unfold aAlloc
      rw [(hT t h1).zero N, hcs]
      exact dNew_ok hs rfl h2 hK
    · cases h2
  case box t x =>
    rw [feL_eq] at h
    have hne : evT e x ≠ .any := fun e' => by
      rw [e'] at h
      simp [dNew, T.flat, oneAll, T.isOne] at h
    rw [(he.ev x).get hne, flat_tr]
    exact dNew_ok hs rfl h hK
  case build t parts =>
    rw [feP_eq] at h
    exact dBuild_ok hT (evP_PR he _).1 (evP_PR he _).2 h pure
  case buildSlice t n parts =>
    rw [feP_eq] at h
    exact dBuildSlice_ok hT hC hs (evP_PR he _) h hK
  case load t x => exact dLoad_ok hT hC hs (he.ev x) h pure
  case store t x y =>
    exact dStore_ok hT hC hs (he.ev x) (he.ev y) h fun st' s' h1 h2 h3 => hK _ _ _ _ _ h1 h2 h3 (.inl rfl)
  case nilCheck x => exact dNilCheck_ok (he.ev x) h pure
  case binOp op t x y t2 => exact dBin_ok hT (he.ev x) (he.ev y) h pure
  case unOp op t x => exact dUn_ok (he.ev x) h pure
  case convert f t x => exact dConv_ok hT (he.ev x) h pure
  case slice t x lo hi mx =>
    cases mx with
    | some _ => cases h
    | none => exact ⟨rfl, dSlice_ok hT hC hs (he.ev x) (evO_OR he lo) (evO_OR he hi) h pure⟩
  case fieldAddr t x f => exact dFieldAddr_ok hT (he.ev x) h pure
  case field t x f => exact dField_ok hT (he.ev x) h pure
  case indexAddr t x i => exact dIndexAddr_ok hT hC hs (he.ev x) (he.ev i) h pure
  case index t x i => exact dIndex_ok hT (he.ev x) (he.ev i) h pure
  case extract x i => exact dExtract_ok (he.ev x) h pure
  case call c =>
    obtain ⟨callee, args, ts⟩ := c
    cases callee with
    | invoke r m => cases h
    | value f =>
      simp only [feA_eq] at h ⊢
      unfold dCall at h
      split at h
      · rename_i fn caps hf
        split at h
        · rename_i n
          obtain ⟨h1, h2⟩ := bif_some h
          simp only [Bool.and_eq_true, List.isEmpty_iff] at h1
          obtain ⟨⟨h1, h3⟩, h4⟩ := h1
          subst h1
          have := he.ev f
          rw [hf] at this
          rw [this.get (by simp), okArgs_tr he h3]
          exact hcall _ _ _ _ _ _ hs h4 h3 h2 K KP hK
        · cases h
      · cases h
    | builtin b =>
      simp only [feA_eq] at h ⊢
      have e1 : ∀ l : List Operand, evL e l = l.map (evT e) := fun l => by
        induction l with
        | nil => rfl
        | cons a r ih => simp [evL, ih]
      rw [e1] at h
      unfold dBuiltin at h
      cases b <;> simp only at h <;> try (cases h; done)
      case len =>
        split at h
        · rename_i t _ hts
          split at h
          · rename_i x hx
            cases hl : args.toList with
            | nil => rw [hl] at hx; cases hx
            | cons a l2 =>
              cases l2 with
              | cons _ _ => rw [hl] at hx; simp at hx
              | nil =>
                rw [hl] at hx
                simp only [List.map_cons, List.map_nil, List.cons.injEq, and_true] at hx
                subst hx
                simp only [aBuiltin, hts, List.map_cons, List.map_nil]
                exact dLen_ok hT (he.ev a) h pure
          · cases h
        · cases h
      case max =>
        split at h
        · rename_i x y hx
          cases hl : args.toList with
          | nil => rw [hl] at hx; cases hx
          | cons a l2 =>
            cases l2 with
            | nil => rw [hl] at hx; simp at hx
            | cons b l3 =>
              cases l3 with
              | cons _ _ => rw [hl] at hx; simp at hx
              | nil =>
                rw [hl] at hx
                simp only [List.map_cons, List.map_nil, List.cons.injEq, and_true] at hx
                obtain ⟨rfl, rfl⟩ := hx
                simp only [aBuiltin, List.map_cons, List.map_nil]
                exact dMax_ok (he.ev a) (he.ev b) h pure
        · cases h
      case append =>
        split at h
        · rename_i t t2 hts
          split at h
          · rename_i x y hx
            cases hl : args.toList with
            | nil => rw [hl] at hx; cases hx
            | cons a l2 =>
              cases l2 with
              | nil => rw [hl] at hx; simp at hx
              | cons b l3 =>
                cases l3 with
                | cons _ _ => rw [hl] at hx; simp at hx
                | nil =>
                  rw [hl] at hx
                  simp only [List.map_cons, List.map_nil, List.cons.injEq, and_true] at hx
                  obtain ⟨rfl, rfl⟩ := hx
                  simp only [aBuiltin, hts, List.map_cons, List.map_nil]
                  exact dAppend_ok hT hC hs (he.ev a) (he.ev b) h hK
          · cases h
        · cases h
  all_goals cases h

def dstL : List Oper → List Nat
  | [] => []
  | o :: r => (match o.dst with | some d => d :: dstL r | none => dstL r)

/-- Slots that are not among these are as they were. -/
def FrX (ds : List Nat) (e e' : En U) : Prop := ∀ j, j ∉ ds → eget e' j = eget e j

/-- What a walk has to lead to. -/
def Kok2 (C : Cod U) (N : NM) (st : St U) (e : En U) (ds : List Nat) (K : Env → S → Prop) (k : En U → St U → Option R) (r : R) : Prop :=
  ∀ N' e' st' E' s', k e' st' = some r → Turn N st N' st' → SSim C N' st' s' → ESim C N' st' e' E' → FrX ds e e' → K E' s'

theorem FrX.put (e : En U) (o : Oper) (v : T U) : FrX (dstL [o]) e (eput e o.dst v) := fun j hj => by
  cases hd : o.dst with
  | none => rfl
  | some d =>
    have : d ≠ j := fun e => by subst e; apply hj; simp [dstL, hd]
    simp [eput, eget, beq_ne this]

theorem dthen_ok (hT : TbOk C P Tb) (hC : CodOk C) {L : Pol} {call : Call U R} (hcall : CallOk C P L call r) {st : St U} {s : S} {e : En U} {E : Env} (hs : SSim C N st s) (he : ESim C N st e E) {o : Oper} {K : Env → S → Prop} {KP : List PanicEntry → S → Prop} {k : En U → St U → Option R}
    (h : dthen C Tb call L.wr L.own e st o k = some r) (hK : Kok2 C N st e (dstL [o]) K k r) : aop P L E s o (fun v s' => K (E.putO o.dst v) s') KP := by
  unfold dthen at h
  refine dop_ok hT hC hcall hs he h ?_
  intro N' st' s' v v' h1 h2 h3 h4
  simp only [fe_eq, feS_eq, eputK_eq] at h1
  obtain ⟨h5, h6⟩ := bif_some h1
  exact hK _ _ _ _ _ h6 h2 h3 ((he.turn h2).put h4 h5 o.dst) (FrX.put e o v)

theorem dstep_ok (hT : TbOk C P Tb) (hC : CodOk C) {L : Pol} {call : Call U R} (hcall : CallOk C P L call r) {st : St U} {s : S} {e : En U} {E : Env} (hs : SSim C N st s) (he : ESim C N st e E) {ds : List (Option Nat)} {o : Oper} {K : Env → S → Prop} {KP : List PanicEntry → S → Prop} {k : En U → St U → Option R}
    (h : dstep C Tb call L.wr L.own ds o e st k = some r) (hK : Kok2 C N st e (dstL [o]) K k r) : astep P L ds KP o K E s := by
  unfold dstep at h
  unfold astep awant
  split at h
  · rename_i hg
    rw [hg]
    simp only [if_true]
    exact dthen_ok hT hC hcall hs he h hK
  · rename_i g hg
    rw [hg]
    obtain ⟨j, b⟩ := g
    simp only at h ⊢
    split at h
    · cases h
    · rename_i d hd
      rw [hd]
      simp only
      split at h
      · rename_i t ht
        have h1 := (he d).1
        rw [ht] at h1
        rw [h1.get (by simp)]
        simp only [trT]
        have he' : ESim C N st (eput e (some d) (.bool t)) E := fun j => by
          simp only [eput, eget]
          by_cases hj : d = j
          · subst hj
            have : Nat.beq d d = true := by simp
            simp only [this, cond_true]
            rw [← ht]; exact he d
          · simp only [beq_ne hj, cond_false]; exact he j
        have hfr : FrX [] e (eput e (some d) (.bool t)) := fun j _ => by
          simp only [eput, eget]
          by_cases hj : d = j
          · subst hj
            have : Nat.beq d d = true := by simp
            simp only [this, cond_true]
            exact ht.symm
          · simp only [beq_ne hj, cond_false]
        have hK' : Kok2 C N st (eput e (some d) (.bool t)) (dstL [o]) K k r := fun N' e' st' E' s' q1 q2 q3 q4 q5 => hK N' e' st' E' s' q1 q2 q3 q4 fun j hj => (q5 j hj).trans (hfr j (by simp))
        have hskip : k (eput (eput e (some d) (.bool t)) o.dst (.tup [])) st = some r → K (E.putO o.dst (.tup [])) s := fun hh => hK' _ _ _ _ _ hh (Turn.refl N st) hs (he'.put (.inr rfl) rfl o.dst) (FrX.put _ o (.tup []))
        simp only [eputK_eq] at h
        cases b <;> cases t <;> simp only [cond_true, cond_false] at h <;> first | exact dthen_ok hT hC hcall hs he' h hK' | exact hskip h
      · rename_i vs ht
        split at h
        · have h1 := (he d).1
          rw [ht] at h1
          rw [h1.get (by simp)]
          simp only [eputK_eq] at h
          exact hK _ _ _ _ _ h (Turn.refl N st) hs (he.put (.inr rfl) rfl o.dst) (FrX.put e o (.tup []))
        · cases h
      · cases h

theorem dops_ok (hT : TbOk C P Tb) (hC : CodOk C) {L : Pol} {call : Call U R} (hcall : CallOk C P L call r) {ds : List (Option Nat)} {KP : List PanicEntry → S → Prop} : ∀ {l : List Oper} {N : NM} {st : St U} {s : S} {e : En U} {E : Env} {K : Env → S → Prop} {k : En U → St U → Option R},
    SSim C N st s → ESim C N st e E → dops C Tb call L.wr L.own ds l e st k = some r → Kok2 C N st e (dstL l) K k r → AL P L ds KP l K E s
  | [], N, st, s, e, E, K, k, hs, he, h, hK => hK _ _ _ _ _ h (Turn.refl N st) hs he (fun _ _ => rfl)
  | o :: os, N, st, s, e, E, K, k, hs, he, h, hK => by
    simp only [dops] at h
    show astep P L ds KP o (AL P L ds KP os K) E s
    refine dstep_ok hT hC hcall hs he h ?_
    intro N' e' st' E' s' h1 h2 h3 h4 h5
    refine dops_ok hT hC hcall h3 h4 h1 fun N2 e2 st2 E2 s2 q1 q2 q3 q4 q5 => hK _ _ _ _ _ q1 (h2.trans q2) q3 q4 fun j hj => ?_
    rw [q5 j fun hh => hj ?_, h5 j fun hh => hj ?_]
    · cases hd : o.dst <;> simp only [dstL, hd] at hh ⊢ <;> simp at hh <;> simp [hh]
    · cases hd : o.dst <;> simp only [dstL, hd] <;> simp [hh]

end
end Go.Den
