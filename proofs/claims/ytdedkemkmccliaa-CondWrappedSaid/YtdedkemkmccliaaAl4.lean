/-
  AL, part 4: the operations on abstract values, and how they read. General: no program in sight.
-/
import Derived.Test.YtdedkemkmccliaaAl3
set_option linter.unusedVariables false
set_option linter.unusedSimpArgs false
namespace Go.Al
open Go.RowKit

/-- Which functions have contracts without memory; at which slots a new slice is one whose elements are written; at which slots a slice literal is one that grows. -/
structure Pol where
  pf : FuncId → Bool
  wr : Nat → Bool
  own : Nat → Bool

section facts
variable (P : Program)
def hasT (t : TypeId) : Bool := (P.info? t).isSome && (P.underlying t).isSome
def isAggT (t : TypeId) : Bool := match P.underlying t with | some (.struct _) | some (.array _ _) => true | _ => false
def elT (t : TypeId) : Option TypeId := match P.underlying t with | some (.slice e) => some e | _ => none
def isStrT (t : TypeId) : Bool := match P.underlying t with | some .string => true | _ => false
def isBoolT (t : TypeId) : Bool := match P.underlying t with | some .bool => true | _ => false
def fieldAt (t : TypeId) (i : Nat) : Option (Nat × TypeId) := match P.underlying t with | some (.struct fs) => (fs[i]?).map fun f => (f.offset, f.type) | _ => none
def zeroOf (t : TypeId) : Option Value := (P.info? t).bind (·.zero)
def zeroC (t : TypeId) : Option (List V) := (zeroOf P t).bind fun z => if z.cells.toList.all one then some (z.cells.toList.map cV1) else none
def isCode (f : FuncId) : Bool := match P.funcs[f]? with | some fn => fn.name != "runtime.NumGoroutine" && fn.body.isSome | none => false
end facts

def untag1 : V → V
  | .lst (.own _ nb _) es => .lst (if nb then tagOf es else .no) es
  | x => x
def V.untag : V → V
  | .agg fs => .agg (fs.map untag1)
  | x => untag1 x

section ops
variable (P : Program)

def partOk (t : TypeId) (fs : List V) (off : Nat) : Prop := hasT P t = true ∧ off + P.cellsOf t ≤ fs.length ∧ (isAggT P t = false → P.cellsOf t = 1)
def partV (t : TypeId) (fs : List V) (off : Nat) : V := if isAggT P t = true then .agg ((fs.drop off).take (P.cellsOf t)) else fs.getD off .any
def spl (cs : List V) (o : Nat) (xs : List V) : List V := cs.take o ++ xs ++ cs.drop (o + xs.length)
def allOne (fs : List V) : Prop := fs.all V.isOne = true
def fits (t : TypeId) (x : V) : Prop := hasT P t = true ∧ x.size = P.cellsOf t ∧ x.isAgg = isAggT P t

def aPick : V → V → V → (V → Prop) → Prop
  | .at (.bool t), a, b, K => K (if t then a else b)
  | _, _, _, _ => False

def aInt (op : BinOp) (k : IntKind) (a b : Int) (K : V → Prop) : Prop :=
  match op with
  | .add => K (.at (.int k (k.wrap (a + b))))
  | .sub => K (.at (.int k (k.wrap (a - b))))
  | .mul => K (.at (.int k (k.wrap (a * b))))
  | .quo => b ≠ 0 ∧ K (.at (.int k (k.wrap (a.tdiv b))))
  | .rem => b ≠ 0 ∧ K (.at (.int k (a.tmod b)))
  | .eql => K (.at (.bool (a == b)))
  | .neq => K (.at (.bool (a != b)))
  | .lss => K (.at (.bool (decide (a < b))))
  | .leq => K (.at (.bool (decide (a ≤ b))))
  | .gtr => K (.at (.bool (decide (a > b))))
  | .geq => K (.at (.bool (decide (a ≥ b))))
  | _ => False

def aStr (op : BinOp) (a b : ByteArray) (K : V → Prop) : Prop :=
  match op with
  | .add => ((a.size + b.size : Nat) : Int) ≤ IntKind.i64.max ∧ K (.at (.string (a ++ b)))
  | .eql => K (.at (.bool (a.toList == b.toList)))
  | .neq => K (.at (.bool !(a.toList == b.toList)))
  | .lss => K (.at (.bool (Op.bytesLess a.toList b.toList)))
  | .leq => K (.at (.bool (Op.bytesLess a.toList b.toList || a.toList == b.toList)))
  | .gtr => K (.at (.bool !(Op.bytesLess a.toList b.toList || a.toList == b.toList)))
  | .geq => K (.at (.bool !(Op.bytesLess a.toList b.toList)))
  | _ => False

def nilB : Tag → List V → Bool
  | .nil, _ => true
  | .no, _ => false
  | .own _ nb _, es => nb && es.isEmpty

def aBool (op : BinOp) (a b : Bool) (K : V → Prop) : Prop :=
  match op with
  | .eql => K (.at (.bool (a == b)))
  | .neq => K (.at (.bool (!(a == b))))
  | _ => False

def aBin (op : BinOp) (t : TypeId) : V → V → (V → Prop) → Prop
  | .at (.int k a), .at (.int k' b), K => k = k' ∧ aInt op k a b K
  | .at (.bool a), .at (.bool b), K => isBoolT P t = true ∧ aBool op a b K
  | .at (.string a), .at (.string b), K => aStr op a b K
  | .lst tg es, .lst .nil [], K => (elT P t).isSome = true ∧ aBool op (nilB tg es) true K
  | _, _, _ => False

def aUn (op : UnOp) : V → (V → Prop) → Prop
  | .at (.bool b), K => (match op with | .not => K (.at (.bool !b)) | _ => False)
  | .at (.int k n), K => (match op with | .neg => K (.at (.int k (k.wrap (0 - n)))) | _ => False)
  | _, _ => False

def aExtract (x : V) (i : Nat) (K : V → Prop) : Prop :=
  match x with
  | .tup vs => i < vs.length ∧ K (vs.getD i .any)
  | _ => False

def aField (t : TypeId) (x : V) (f : Nat) (K : V → Prop) : Prop :=
  match x, fieldAt P t f with
  | .agg fs, some (off, ft) => allOne fs ∧ partOk P ft fs off ∧ K (partV P ft fs off)
  | _, _ => False

def aFieldAddr (t : TypeId) (x : V) (f : Nat) (K : V → Prop) : Prop :=
  match x, fieldAt P t f with
  | .rptr (.agg fs), some (off, ft) => allOne fs ∧ partOk P ft fs off ∧ 0 < P.cellsOf ft ∧ K (.rptr (partV P ft fs off))
  | .at (.pointer (some ⟨b, o, none⟩)), some (off, ft) => hasT P ft = true ∧ 0 < P.cellsOf ft ∧ K (.at (.pointer (some ⟨b, o + off, none⟩)))
  | _, _ => False

def aIndexAddr (t : TypeId) (x i : V) (K : V → Prop) : Prop :=
  match elT P t, x, i with
  | some el, .lst _ es, .at (.int _ n) => hasT P el = true ∧ (0 ≤ n ∧ n < (es.length : Int)) ∧ (es.getD n.toNat .any).size = P.cellsOf el ∧ K (.rptr (es.getD n.toNat .any))
  | some el, .at (.slice (some ⟨b, o, none⟩) len _), .at (.int _ n) => hasT P el = true ∧ (0 ≤ n ∧ n < (len : Int)) ∧ K (.at (.pointer (some ⟨b, o + n.toNat * P.cellsOf el, none⟩)))
  | _, _, _ => False

def aIndex (t : TypeId) (x i : V) (K : V → Prop) : Prop :=
  match x, i with
  | .at (.string s), .at (.int _ n) => isStrT P t = true ∧ (0 ≤ n ∧ n < (s.size : Int)) ∧ K (.at (.int .u8 ((s.data.getD n.toNat 0).toNat : Int)))
  | _, _ => False

def aLoad (st : S) (t : TypeId) (x : V) (K : V → Prop) : Prop :=
  match x with
  | .rptr y => fits P t y ∧ K y
  | .at (.pointer (some ⟨b, o, none⟩)) =>
    match look st.box b with
    | some (cs, _) => partOk P t cs o ∧ K (partV P t cs o)
    | none => False
  | _ => False

def aStore (st : S) (t : TypeId) (x y : V) (K : S → Prop) : Prop :=
  match x with
  | .at (.pointer (some ⟨b, o, none⟩)) =>
    match look st.box b with
    | some (cs, k) => hasT P t = true ∧ y.flat.length = P.cellsOf t ∧ allOne y.flat ∧ o + y.flat.length ≤ cs.length ∧ K ⟨lay st.box b (spl cs o y.flat, k), st.tg, st.nx⟩
    | none => False
  | _ => False

def aNew (st : S) (cs : List V) (K : V → S → Prop) : Prop :=
  allOne cs ∧ ∀ b, look st.box b = none → K (.at (.pointer (some ⟨b, 0, none⟩))) ⟨lay st.box b (cs, cs.length), st.tg, st.nx⟩

def aAlloc (st : S) (t : TypeId) (K : V → S → Prop) : Prop :=
  match zeroC P t with
  | some cs => aNew st cs K
  | none => False

/-- The parts laid into a struct's cells. -/
def fillV (place : Nat → Option (Nat × Nat)) (cells : List V) : List (Nat × V) → Option (List V)
  | [] => some cells
  | (i, x) :: rest =>
    match place i with
    | none => none
    | some (off, size) => if x.flat.length = size ∧ off + size ≤ cells.length ∧ x.flat.all V.isOne = true then fillV place (spl cells off x.flat) rest else none

def placeOf (t : TypeId) (i : Nat) : Option (Nat × Nat) := (fieldAt P t i).bind fun p => if hasT P p.2 then some (p.1, P.cellsOf p.2) else none

def isStructT (t : TypeId) : Bool := match P.underlying t with | some (.struct fs) => fs.toList.all fun f => hasT P f.type | _ => false

def aBuild (t : TypeId) (parts : List (Nat × V)) (K : V → Prop) : Prop :=
  isStructT P t = true ∧
  match zeroC P t with
  | some cs => (match fillV (placeOf P t) cs parts with | some cs' => K (.agg cs') | none => False)
  | none => False

def flats : List V → List V
  | [] => []
  | x :: xs => x.flat ++ flats xs

def inOrder : Nat → List (Nat × V) → Bool
  | _, [] => true
  | n, (i, _) :: r => i == n && inOrder (n + 1) r

def elsOk (sz : Nat) (es : List V) : Prop := ∀ x ∈ es, x.size = sz

def aBuildSlice (L : Pol) (dst : Option Nat) (st : S) (t : TypeId) (n : Nat) (parts : List (Nat × V)) (K : V → S → Prop) : Prop :=
  match elT P t with
  | none => False
  | some el =>
    let es := parts.map fun p => p.2.untag
    hasT P el = true ∧ (zeroC P el).isSome = true ∧ ((zeroC P el).map List.length = some (P.cellsOf el)) ∧ n * P.cellsOf el ≤ 2 ^ 24 ∧ n ≤ maxLen ∧ parts.length = n ∧ inOrder 0 parts = true ∧ elsOk (P.cellsOf el) es ∧ (parts.all fun p => p.2.flat.all V.isOne) = true ∧
    (if (dst.map L.wr).getD false = true then
      allOne (flats (parts.map (·.2))) ∧ ∀ b, look st.box b = none → K (.at (.slice (some ⟨b, 0, none⟩) n n)) ⟨lay st.box b (flats (parts.map (·.2)), n * P.cellsOf el), st.tg, st.nx⟩
    else if (dst.map L.own).getD false = true then
      K (.lst (.own st.nx false (P.cellsOf el)) es) ⟨st.box, st.nx :: st.tg, st.nx + 1⟩
    else K (.lst .no es) st)

def aLen (t : TypeId) (x : V) (K : V → Prop) : Prop :=
  match x with
  | .lst _ es => (elT P t).isSome = true ∧ K (.at (.int .i64 (es.length : Int)))
  | .at (.slice _ n _) => (elT P t).isSome = true ∧ K (.at (.int .i64 (n : Int)))
  | .at (.string s) => isStrT P t = true ∧ K (.at (.int .i64 (s.size : Int)))
  | _ => False

def aMax : V → V → (V → Prop) → Prop
  | .at (.int k x), .at (.int _ y), K => K (.at (.int k (if y > x then y else x)))
  | _, _, _ => False

/-- append: what comes of the base. -/
def aAppend (L : Pol) (dst : Option Nat) (st : S) (t t2 : TypeId) (s x : V) (K : V → S → Prop) : Prop :=
  match elT P t, x with
  | some el, .lst _ ys =>
    t2 = t ∧ hasT P el = true ∧ ((zeroC P el).map List.length = some (P.cellsOf el)) ∧ 0 < P.cellsOf el ∧ elsOk (P.cellsOf el) ys ∧
    (match s with
     | .lst .nil [] => ys.length * P.bytesOf el ≤ 140737488355328 ∧ ys.length ≤ maxLen ∧
        (if (dst.map L.wr).getD false = true then
          ys ≠ [] ∧ allOne (flats ys) ∧ ∀ b cap, look st.box b = none → ys.length ≤ cap → K (.at (.slice (some ⟨b, 0, none⟩) ys.length cap)) ⟨lay st.box b (flats ys, cap * P.cellsOf el), st.tg, st.nx⟩
        else K (.lst (.own st.nx true (P.cellsOf el)) ys) ⟨st.box, st.nx :: st.tg, st.nx + 1⟩)
     | .lst (.own g nb sz) es => g ∈ st.tg ∧ sz = P.cellsOf el ∧ (es.length + ys.length) * P.bytesOf el ≤ 140737488355328 ∧ es.length + ys.length ≤ maxLen ∧
        K (.lst (.own st.nx nb sz) (es ++ ys)) ⟨st.box, st.nx :: st.tg.erase g, st.nx + 1⟩
     | .at (.slice (some ⟨b, 0, none⟩) len cap) =>
        (match look st.box b with
         | some (cs, k) => (dst.map L.wr).getD false = true ∧ k = cap * P.cellsOf el ∧ len ≤ cap ∧ len * P.cellsOf el ≤ cs.length ∧ (len + ys.length) * P.bytesOf el ≤ 140737488355328 ∧ len + ys.length ≤ maxLen ∧ allOne (flats ys) ∧
            ∀ b' cap', look (wipe st.box b) b' = none → len + ys.length ≤ cap' →
              K (.at (.slice (some ⟨b', 0, none⟩) (len + ys.length) cap')) ⟨lay (wipe st.box b) b' (cs.take (len * P.cellsOf el) ++ flats ys, cap' * P.cellsOf el), st.tg, st.nx⟩
         | none => False)
     | _ => False)
  | some el, .at (.slice (some ⟨bs, 0, none⟩) m _) =>
    t2 = t ∧ hasT P el = true ∧ ((zeroC P el).map List.length = some (P.cellsOf el)) ∧ 0 < P.cellsOf el ∧ (dst.map L.wr).getD false = true ∧
    (match look st.box bs with
     | none => False
     | some (css, _) => m * P.cellsOf el ≤ css.length ∧
      (match s with
       | .lst .nil [] => m * P.bytesOf el ≤ 140737488355328 ∧ m ≤ maxLen ∧ m ≠ 0 ∧
          ∀ b cap, look st.box b = none → m ≤ cap → K (.at (.slice (some ⟨b, 0, none⟩) m cap)) ⟨lay st.box b (css.take (m * P.cellsOf el), cap * P.cellsOf el), st.tg, st.nx⟩
       | .at (.slice (some ⟨b, 0, none⟩) len cap) =>
          (match look st.box b with
           | some (cs, k) => k = cap * P.cellsOf el ∧ len ≤ cap ∧ len * P.cellsOf el ≤ cs.length ∧ (len + m) * P.bytesOf el ≤ 140737488355328 ∧ len + m ≤ maxLen ∧
              ∀ b' cap', look (wipe st.box b) b' = none → len + m ≤ cap' →
                K (.at (.slice (some ⟨b', 0, none⟩) (len + m) cap')) ⟨lay (wipe st.box b) b' (cs.take (len * P.cellsOf el) ++ css.take (m * P.cellsOf el), cap' * P.cellsOf el), st.tg, st.nx⟩
           | none => False)
       | _ => False))
  | _, _ => False

def slTag : Tag → List V → Tag
  | .own _ nb _, es => if nb then tagOf es else .no
  | t, _ => t

def boundV (x : Option V) (d : Int) (K : Int → Prop) : Prop :=
  match x with
  | none => K d
  | some (.at (.int _ n)) => K n
  | _ => False

def aSlice (t : TypeId) (x : V) (lo hi : Option V) (K : V → Prop) : Prop :=
  match x with
  | .lst tg es =>
    (match elT P t with
     | none => False
     | some el => hasT P el = true ∧ (es = [] ∨ ∀ x ∈ es.take 1, x.size = P.cellsOf el) ∧
        boundV lo 0 fun l => boundV hi es.length fun h => (0 ≤ l ∧ l ≤ h ∧ h ≤ (es.length : Int)) ∧ K (.lst (slTag tg es) ((es.take h.toNat).drop l.toNat)))
  | .at (.slice (some ⟨b, o, none⟩) len cap) =>
    (match elT P t with
     | none => False
     | some el => hasT P el = true ∧ boundV lo 0 fun l => boundV hi len fun h => (0 ≤ l ∧ l ≤ h ∧ h ≤ (cap : Int)) ∧
        K (.at (.slice (some ⟨b, if (cap : Int) = l then o else o + l.toNat * P.cellsOf el, none⟩) (h.toNat - l.toNat) (cap - l.toNat))))
  | .at (.string s) => isStrT P t = true ∧ boundV lo 0 fun l => boundV hi s.size fun h => (0 ≤ l ∧ l ≤ h ∧ h ≤ (s.size : Int)) ∧ K (.at (.string (s.extract l.toNat h.toNat)))
  | _ => False

def aNilCheck (x : V) (K : V → Prop) : Prop :=
  match x with
  | .rptr y => K (.rptr y)
  | .at (.pointer (some a)) => K (.at (.pointer (some a)))
  | _ => False

end ops

/-- What comes of a call. -/
inductive Outc where
  | ret (r : V)
  | pan (c : List PanicEntry)

/-- A contract without memory: the arguments read as data, so does the result; of what was there nothing turns. -/
def PureF (P : Program) (f : FuncId) (args : List V) (r : V) : Prop :=
  ∀ (wm : Nat → Nat) (w : World) (vs : List Value), (∀ b, w.heap.size ≤ b → wm b = 0) → RVs ⟨wm, fun _ => none⟩ w args vs →
    Calls P f vs.toArray w fun e w' => ∃ v wm', e = .returned v ∧ (∀ b, w'.heap.size ≤ b → wm' b = 0) ∧ Step w.heap.size ⟨wm, fun _ => none⟩ w ⟨wm', fun _ => none⟩ w' ∧ RV ⟨wm', fun _ => none⟩ w' r v

/-- A contract over a store. -/
def FnC (P : Program) (f : FuncId) (args : List V) (st : S) (Q : Outc → S → Prop) : Prop :=
  ∀ (B : Nat) (g : Gh) (w : World) (vs : List Value), Inv B g st w → RVs g w args vs →
    Calls P f vs.toArray w fun e w' => ∃ g' st', Step B g w g' w' ∧ Inv B g' st' w' ∧
      match e with
      | .returned v => ∃ r, RV g' w' r v ∧ Q (.ret r) st'
      | .panicked c => Q (.pan c) st'
      | .outgrown => False

/-- An argument as it is, or without its name. -/
inductive Sub : List V → List V → Prop where
  | nil : Sub [] []
  | keep {x xs ys} (h : Sub xs ys) : Sub (x :: xs) (x :: ys)
  | drop {x xs ys} (h : Sub xs ys) : Sub (x :: xs) (x.untag :: ys)

def aCall (P : Program) (L : Pol) (f : V) (args : List V) (st : S) (K : V → S → Prop) (KP : List PanicEntry → S → Prop) : Prop :=
  match f with
  | .clo (.func n) caps => isCode P n = true ∧ (args.all fun x => x.flat.all V.isOne) = true ∧ allOne caps ∧
    (if L.pf n = true then caps = [] ∧ ∃ r, PureF P n (args.map V.untag) r ∧ K r st
     else ∃ as, Sub args as ∧ FnC P n (as ++ caps) st fun | .ret r, st' => K r st' | .pan c, st' => KP c st')
  | _ => False

def aBuiltin (P : Program) (L : Pol) (dst : Option Nat) (b : Builtin) (ts : Array TypeId) (args : List V) (st : S) (K : V → S → Prop) : Prop :=
  match b, ts.toList, args with
  | .len, t :: _, [x] => aLen P t x fun v => K v st
  | .max, _, [x, y] => aMax x y fun v => K v st
  | .append, [t, t2], [s, x] => aAppend P L dst st t t2 s x K
  | _, _, _ => False

/-- One operation. -/
def aop (P : Program) (L : Pol) (e : Env) (st : S) (o : Oper) (K : V → S → Prop) (KP : List PanicEntry → S → Prop) : Prop :=
  match o.op with
  | .move x => K (e.ev x) st
  | .assign x => K (e.ev x) st
  | .pick c a b => aPick (e.ev c) (e.ev a) (e.ev b) fun v => K v st
  | .binOp op t x y _ => aBin P op t (e.ev x) (e.ev y) fun v => K v st
  | .unOp op _ x => aUn op (e.ev x) fun v => K v st
  | .extract x i => aExtract (e.ev x) i fun v => K v st
  | .field t x f => aField P t (e.ev x) f fun v => K v st
  | .fieldAddr t x f => aFieldAddr P t (e.ev x) f fun v => K v st
  | .indexAddr t x i => aIndexAddr P t (e.ev x) (e.ev i) fun v => K v st
  | .index t x i => aIndex P t (e.ev x) (e.ev i) fun v => K v st
  | .load t x => aLoad P st t (e.ev x) fun v => K v st
  | .store t x y => aStore P st t (e.ev x) (e.ev y) fun st' => K .any st'
  | .alloc t => aAlloc P st t K
  | .box _ x => aNew st (e.ev x).flat K
  | .build t parts => aBuild P t (parts.toList.map fun p => (p.1, e.ev p.2)) fun v => K v st
  | .buildSlice t n parts => aBuildSlice P L o.dst st t n (parts.toList.map fun p => (p.1, e.ev p.2)) K
  | .nilCheck x => aNilCheck (e.ev x) fun v => K v st
  | .slice t x lo hi mx => mx.isNone = true ∧ aSlice P t (e.ev x) (lo.map e.ev) (hi.map e.ev) fun v => K v st
  | .call c => (match c.callee with
    | .value f => aCall P L (e.ev f) (c.args.toList.map e.ev) st K KP
    | .builtin b => aBuiltin P L o.dst b c.argTypes (c.args.toList.map e.ev) st K
    | .invoke _ _ => False)
  | _ => False

end Go.Al
