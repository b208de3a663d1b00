/-
  DEN, part 1: typed values, how they are named and translated. General: no program in sight.
-/
import Derived.Test.YtdedkemkmccliaaAl21
set_option linter.unusedVariables false
set_option linter.unusedSimpArgs false
namespace Go.Den
open Go.Al

/-- The types of the elements that slices have. -/
structure TyU where
  I : Type
  den : I → Type
  [deq : DecidableEq I]
attribute [instance] TyU.deq

/-- How a list is a slice: nil or not, as told; nil just if empty; a growing one, by its token. -/
inductive TM where
  | b (n : Bool)
  | dl
  | ow (t : Nat) (nb : Bool)

inductive T (U : TyU) : Type where
  | any
  | int (k : IntKind) (n : Int)
  | bool (b : Bool)
  | str (s : List UInt8)
  | con (v : Value)
  | nil
  | agg (fs : List (T U))
  | tup (vs : List (T U))
  | lst (m : TM) (i : U.I) (xs : List (U.den i))
  | rptr (x : T U)
  | ptr (l : Nat) (o : Nat)
  | ptrE (l : Nat) (k : Nat) (o : Nat)
  | sl (l : Nat) (n : Nat)
  | clo (fn : Fn) (caps : List (T U))

instance {U : TyU} : Inhabited (T U) := ⟨.any⟩

/-- How the elements are values. -/
structure Cod (U : TyU) where
  enc : (i : U.I) → U.den i → T U
  encV : (i : U.I) → U.den i → V
  dec : (i : U.I) → {R : Type} → T U → (U.den i → Option R) → Option R
  dflt : (i : U.I) → U.den i
  cells : U.I → Nat
  agg : U.I → Bool
  plain : U.I → Bool

/-- Names: which block a place is, its capacity, how many cells an element has there; which name a token is. -/
structure NM where
  bl : Nat → Nat
  cp : Nat → Nat
  sz : Nat → Nat
  tk : Nat → Nat

section
variable {U : TyU} (C : Cod U)

def trM (N : NM) (sz : Nat) (es : List V) : TM → Tag
  | .b n => if n then .nil else .no
  | .dl => tagOf es
  | .ow t nb => .own (N.tk t) nb sz

mutual
def trT (N : NM) : T U → V
  | .any => .any
  | .int k n => .at (.int k n)
  | .bool b => .at (.bool b)
  | .str s => .at (.string ⟨s.toArray⟩)
  | .con v => .at v
  | .nil => .lst .nil []
  | .agg fs => .agg (trTs N fs)
  | .tup vs => .tup (trTs N vs)
  | .lst m i xs => .lst (trM N (C.cells i) (xs.map (C.encV i)) m) (xs.map (C.encV i))
  | .rptr x => .rptr (trT N x)
  | .ptr l o => .at (.pointer (some ⟨N.bl l, o, none⟩))
  | .ptrE l k o => .at (.pointer (some ⟨N.bl l, k * N.sz l + o, none⟩))
  | .sl l n => .at (.slice (some ⟨N.bl l, 0, none⟩) n (N.cp l))
  | .clo fn caps => .clo fn (trTs N caps)
def trTs (N : NM) : List (T U) → List V
  | [] => []
  | x :: xs => trT N x :: trTs N xs
end

theorem trTs_map (N : NM) : ∀ l : List (T U), trTs C N l = l.map (trT C N)
  | [] => rfl
  | x :: r => by simp [trTs, trTs_map N r]

mutual
/-- Places and tokens that it names are there. -/
def bdd (nl nx : Nat) : T U → Bool
  | .ptr l _ => Nat.blt l nl
  | .ptrE l _ _ => Nat.blt l nl
  | .sl l _ => Nat.blt l nl
  | .lst m _ _ => (match m with | .ow t _ => Nat.blt t nx | _ => true)
  | .agg fs => bdds nl nx fs
  | .tup fs => bdds nl nx fs
  | .rptr x => bdd nl nx x
  | .clo _ fs => bdds nl nx fs
  | _ => true
def bdds (nl nx : Nat) : List (T U) → Bool
  | [] => true
  | x :: xs => bdd nl nx x && bdds nl nx xs
end

/-- N' names as N does what is there. -/
structure Ext (nl nx : Nat) (N N' : NM) : Prop where
  bl : ∀ l, l < nl → N'.bl l = N.bl l
  cp : ∀ l, l < nl → N'.cp l = N.cp l
  sz : ∀ l, l < nl → N'.sz l = N.sz l
  tk : ∀ t, t < nx → N'.tk t = N.tk t

theorem Ext.refl (nl nx : Nat) (N : NM) : Ext nl nx N N := ⟨fun _ _ => rfl, fun _ _ => rfl, fun _ _ => rfl, fun _ _ => rfl⟩
theorem Ext.trans {nl nx nl' nx' : Nat} {N N1 N2 : NM} (h : Ext nl nx N N1) (h' : Ext nl' nx' N1 N2) (h1 : nl ≤ nl') (h2 : nx ≤ nx') : Ext nl nx N N2 :=
  ⟨fun l hl => (h'.bl l (by omega)).trans (h.bl l hl), fun l hl => (h'.cp l (by omega)).trans (h.cp l hl), fun l hl => (h'.sz l (by omega)).trans (h.sz l hl), fun l hl => (h'.tk l (by omega)).trans (h.tk l hl)⟩
theorem Ext.less {nl nx nl' nx' : Nat} {N N' : NM} (h : Ext nl nx N N') (h1 : nl' ≤ nl) (h2 : nx' ≤ nx) : Ext nl' nx' N N' :=
  ⟨fun l hl => h.bl l (by omega), fun l hl => h.cp l (by omega), fun l hl => h.sz l (by omega), fun l hl => h.tk l (by omega)⟩

theorem blt_lt {a b : Nat} (h : Nat.blt a b = true) : a < b := by simpa [Nat.blt_eq] using h

mutual
theorem trT_ext {nl nx : Nat} {N N' : NM} (h : Ext nl nx N N') : ∀ x : T U, bdd nl nx x = true → trT C N' x = trT C N x
  | .any, _ => rfl
  | .int _ _, _ => rfl
  | .bool _, _ => rfl
  | .str _, _ => rfl
  | .con _, _ => rfl
  | .nil, _ => rfl
  | .agg fs, hb => by simp only [trT]; rw [trTs_ext h fs (by simpa only [bdd] using hb)]
  | .tup fs, hb => by simp only [trT]; rw [trTs_ext h fs (by simpa only [bdd] using hb)]
  | .lst m i xs, hb => by
    simp only [trT]
    cases m with
    | b n => rfl
    | dl => rfl
    | ow t nb =>
      simp only [bdd] at hb
      simp only [trM, h.tk t (blt_lt hb)]
  | .rptr x, hb => by simp only [trT]; rw [trT_ext h x (by simpa only [bdd] using hb)]
  | .ptr l o, hb => by simp only [bdd] at hb; simp only [trT, h.bl l (blt_lt hb)]
  | .ptrE l k o, hb => by simp only [bdd] at hb; simp only [trT, h.bl l (blt_lt hb), h.sz l (blt_lt hb)]
  | .sl l n, hb => by simp only [bdd] at hb; simp only [trT, h.bl l (blt_lt hb), h.cp l (blt_lt hb)]
  | .clo fn fs, hb => by simp only [trT]; rw [trTs_ext h fs (by simpa only [bdd] using hb)]
theorem trTs_ext {nl nx : Nat} {N N' : NM} (h : Ext nl nx N N') : ∀ xs : List (T U), bdds nl nx xs = true → trTs C N' xs = trTs C N xs
  | [], _ => rfl
  | x :: xs, hb => by
    simp only [bdds, Bool.and_eq_true] at hb
    simp only [trTs]
    rw [trT_ext h x hb.1, trTs_ext h xs hb.2]
end

theorem blt_mono {a b c : Nat} (h : Nat.blt a b = true) (hb : b ≤ c) : Nat.blt a c = true := by
  have := blt_lt h
  simp [Nat.blt_eq]; omega

mutual
theorem bdd_mono {nl nx nl' nx' : Nat} (h1 : nl ≤ nl') (h2 : nx ≤ nx') : ∀ x : T U, bdd nl nx x = true → bdd nl' nx' x = true
  | .any, _ => rfl
  | .int _ _, _ => rfl
  | .bool _, _ => rfl
  | .str _, _ => rfl
  | .con _, _ => rfl
  | .nil, _ => rfl
  | .agg fs, hb => by simp only [bdd] at hb ⊢; exact bdds_mono h1 h2 fs hb
  | .tup fs, hb => by simp only [bdd] at hb ⊢; exact bdds_mono h1 h2 fs hb
  | .lst m i xs, hb => by
    cases m with
    | b n => rfl
    | dl => rfl
    | ow t nb => simp only [bdd] at hb ⊢; exact blt_mono hb h2
  | .rptr x, hb => by simp only [bdd] at hb ⊢; exact bdd_mono h1 h2 x hb
  | .ptr l o, hb => by simp only [bdd] at hb ⊢; exact blt_mono hb h1
  | .ptrE l k o, hb => by simp only [bdd] at hb ⊢; exact blt_mono hb h1
  | .sl l n, hb => by simp only [bdd] at hb ⊢; exact blt_mono hb h1
  | .clo fn fs, hb => by simp only [bdd] at hb ⊢; exact bdds_mono h1 h2 fs hb
theorem bdds_mono {nl nx nl' nx' : Nat} (h1 : nl ≤ nl') (h2 : nx ≤ nx') : ∀ xs : List (T U), bdds nl nx xs = true → bdds nl' nx' xs = true
  | [], _ => rfl
  | x :: xs, hb => by
    simp only [bdds, Bool.and_eq_true] at hb ⊢
    exact ⟨bdd_mono h1 h2 x hb.1, bdds_mono h1 h2 xs hb.2⟩
end

/-- What holds of how elements are values. -/
structure CodOk : Prop where
  enc : ∀ N i x, trT C N (C.enc i x) = C.encV i x
  bd : ∀ i x, bdd 0 0 (C.enc i x) = true
  dec : ∀ i {R : Type} v (k : U.den i → Option R) r, C.dec i v k = some r → ∃ x, k x = some r ∧ ∀ N, (trT C N v).untag = C.encV i x
  decP : ∀ i {R : Type} v (k : U.den i → Option R) r, C.plain i = true → C.dec i v k = some r → ∃ x, k x = some r ∧ ∀ N, trT C N v = C.encV i x
  size : ∀ i x, (C.encV i x).size = C.cells i
  isAgg : ∀ i x, (C.encV i x).isAgg = C.agg i
  ones : ∀ i x, allOne (C.encV i x).flat
  untag : ∀ i x, (C.encV i x).untag = C.encV i x
  one : ∀ i, C.agg i = false → C.cells i = 1
  pos : ∀ i, 0 < C.cells i

def T.flat : T U → List (T U)
  | .agg fs => fs
  | x => [x]
def T.isOne : T U → Bool
  | .any | .agg _ | .tup _ => false
  | _ => true
def oneAll (l : List (T U)) : Bool := l.all T.isOne

theorem flat_tr (N : NM) (x : T U) : (trT C N x).flat = x.flat.map (trT C N) := by
  cases x <;> simp [T.flat, trT, V.flat, trTs_map]
theorem isOne_tr (N : NM) (x : T U) : (trT C N x).isOne = x.isOne := by
  cases x <;> rfl
theorem allOne_tr (N : NM) (l : List (T U)) : allOne (l.map (trT C N)) ↔ oneAll l = true := by
  unfold allOne oneAll
  rw [List.all_map]
  have : (V.isOne ∘ trT C N) = T.isOne := funext fun x => isOne_tr C N x
  rw [this]
theorem isAgg_tr (N : NM) (x : T U) : (trT C N x).isAgg = (match x with | .agg _ => true | _ => false) := by
  cases x <;> rfl

/-- A constant. -/
def cT1 : Value → T U
  | .slice none 0 0 => .nil
  | .agg _ => .any
  | .tuple _ => .any
  | .int k n => .int k n
  | .bool b => .bool b
  | .string s => .str s.data.toList
  | v => .con v
def cT : Value → T U
  | .agg cs => if cs.toList.all one then .agg (cs.toList.map cT1) else .any
  | v => cT1 v

theorem cT1_tr (N : NM) (v : Value) : trT C N (cT1 v) = cV1 v := by
  unfold cT1
  split <;> simp [trT, cV1]
theorem cT_tr (N : NM) (v : Value) : trT C N (cT v) = cV v := by
  unfold cT cV
  cases v <;> simp only [cT1_tr]
  split
  · simp only [trT, trTs_map, List.map_map]
    congr 1
    exact List.map_congr_left fun v _ => cT1_tr C N v
  · rfl

end
end Go.Den
