/-
  The types of the elements, their codecs, the table of types.
-/
import Derived.Test.YtegibhjgldpndaaDoorD12
import Derived.Test.YtegibhjgldpndaaDoorData
import Derived.Test.YtegibhjgldpndaaDoorFacts
set_option linter.unusedVariables false
set_option linter.unusedSimpArgs false
namespace Go.Proofs.YtegibhjgldpndaaDoor
open Go.Al Go.Den

def Nd.kind : Nd → Int
  | .mk k _ _ => k
def Nd.tok : Nd → Int
  | .mk _ a _ => a
def Nd.kids : Nd → List Nd
  | .mk _ _ l => l

structure PieceT where
  fdo : Int
  n : Int

inductive TI where
  | int
  | bool
  | piece
  | node

def TI.no : TI → Nat
  | .int => 0
  | .bool => 1
  | .piece => 2
  | .node => 3

theorem TI.no_inj : ∀ a b : TI, a.no = b.no → a = b := by intro a b h; cases a <;> cases b <;> first | rfl | (simp [TI.no] at h)

instance : DecidableEq TI := fun a b => if h : a.no = b.no then isTrue (TI.no_inj a b h) else isFalse (fun e => h (by rw [e]))

def denI : TI → Type
  | .int => Int
  | .bool => Bool
  | .piece => PieceT
  | .node => Nd

abbrev UU : TyU := { I := TI, den := denI }

def dec_piece {R : Type} (v : T UU) (K : PieceT → Option R) : Option R :=
  match v with
  | .agg fs => (match fs with
    | [v0, v1] => pInt .i64 v0 fun x0 => pInt .i64 v1 fun x1 => K (PieceT.mk x0 x1)
    | _ => none)
  | _ => none

def pieceD : PieceT := PieceT.mk 0 0

def dec_node {R : Type} (v : T UU) (K : Nd → Option R) : Option R :=
  match v with
  | .agg fs => (match fs with
    | [v0, v1, v2] => pInt .i64 v0 fun x0 => pInt .i64 v1 fun x1 => pDl (U := UU) TI.node v2 fun x2 => K (Nd.mk x0 x1 x2)
    | _ => none)
  | _ => none

def nodeD : Nd := Nd.mk 0 0 []

def eV_int (x : Int) : V := .at (.int .i64 x)

def eV_bool (x : Bool) : V := .at (.bool x)

def eV_piece (x : PieceT) : V := .agg [.at (.int .i64 (PieceT.fdo x)), .at (.int .i64 (PieceT.n x))]

def eV_node (x : Nd) : V := encNd x

def encVI : (i : TI) → denI i → V
  | .int, x => eV_int x
  | .bool, x => eV_bool x
  | .piece, x => eV_piece x
  | .node, x => eV_node x

def encI : (i : TI) → denI i → T UU
  | .int, x => .int .i64 x
  | .bool, x => .bool x
  | .piece, x => .agg [(.int .i64 (PieceT.fdo x)), (.int .i64 (PieceT.n x))]
  | .node, x => .agg [(.int .i64 (Nd.kind x)), (.int .i64 (Nd.tok x)), (.lst .dl TI.node (Nd.kids x))]

def decI : (i : TI) → {R : Type} → T UU → (denI i → Option R) → Option R
  | .int, _, v, K => pInt .i64 v K
  | .bool, _, v, K => pBool v K
  | .piece, _, v, K => dec_piece v K
  | .node, _, v, K => dec_node v K

def dfltI : (i : TI) → denI i
  | .int => (0 : Int)
  | .bool => false
  | .piece => pieceD
  | .node => nodeD

def cellsI : TI → Nat
  | .int => 1
  | .bool => 1
  | .piece => 2
  | .node => 3

def aggI : TI → Bool
  | .int => false
  | .bool => false
  | .piece => true
  | .node => true

def plainI : TI → Bool
  | .int => true
  | .bool => true
  | .piece => true
  | .node => false

def CC : Cod UU := ⟨encI, encVI, decI, dfltI, cellsI, aggI, plainI⟩

theorem dec_piece_ok {R : Type} {v : T UU} {K : PieceT → Option R} {r : R} (h : dec_piece v K = some r) : ∃ x, K x = some r ∧ ∀ N, (trT CC N v).untag = eV_piece x := by
  unfold dec_piece at h
  split at h
  · split at h
    · obtain ⟨x0, h, _, e0⟩ := pInt_ok (C := CC) h
      obtain ⟨x1, h, _, e1⟩ := pInt_ok (C := CC) h
      refine ⟨_, h, fun N => ?_⟩
      simp only [trT, trTs, V.untag, List.map_cons, List.map_nil, e0 N, e1 N]
      rfl
    · cases h
  · cases h

theorem dec_piece_okP {R : Type} {v : T UU} {K : PieceT → Option R} {r : R} (h : dec_piece v K = some r) : ∃ x, K x = some r ∧ ∀ N, trT CC N v = eV_piece x := by
  unfold dec_piece at h
  split at h
  · split at h
    · obtain ⟨x0, h, e0, _⟩ := pInt_ok (C := CC) h
      obtain ⟨x1, h, e1, _⟩ := pInt_ok (C := CC) h
      refine ⟨_, h, fun N => ?_⟩
      simp only [trT, trTs, e0 N, e1 N]
      rfl
    · cases h
  · cases h

theorem eV_piece_eq (x : PieceT) : eV_piece x = .agg [.at (.int .i64 (PieceT.fdo x)), .at (.int .i64 (PieceT.n x))] := by
  rfl

theorem dec_node_ok {R : Type} {v : T UU} {K : Nd → Option R} {r : R} (h : dec_node v K = some r) : ∃ x, K x = some r ∧ ∀ N, (trT CC N v).untag = eV_node x := by
  unfold dec_node at h
  split at h
  · split at h
    · obtain ⟨x0, h, _, e0⟩ := pInt_ok (C := CC) h
      obtain ⟨x1, h, _, e1⟩ := pInt_ok (C := CC) h
      obtain ⟨x2, h, e2⟩ := pDl_ok (C := CC) h
      refine ⟨_, h, fun N => ?_⟩
      simp only [trT, trTs, V.untag, List.map_cons, List.map_nil, e0 N, e1 N, e2 N]
      exact (encNd_mk x0 x1 x2).symm
    · cases h
  · cases h

theorem eV_node_eq (x : Nd) : eV_node x = .agg [.at (.int .i64 (Nd.kind x)), .at (.int .i64 (Nd.tok x)), .lst (tagOf ((Nd.kids x).map (encVI TI.node))) ((Nd.kids x).map (encVI TI.node))] := by
  cases x; exact encNd_mk _ _ _

theorem sz_piece (x : PieceT) : (eV_piece x).size = 2 := by rw [eV_piece_eq]; rfl

theorem ag_piece (x : PieceT) : (eV_piece x).isAgg = true := by rw [eV_piece_eq]; rfl

theorem on_piece (x : PieceT) : allOne (eV_piece x).flat := by rw [eV_piece_eq]; rfl

theorem un_piece (x : PieceT) : (eV_piece x).untag = eV_piece x := by rw [eV_piece_eq]; simp only [V.untag, List.map_cons, List.map_nil, untag_at', untag_dl]

theorem sz_node (x : Nd) : (eV_node x).size = 3 := by rw [eV_node_eq]; rfl

theorem ag_node (x : Nd) : (eV_node x).isAgg = true := by rw [eV_node_eq]; rfl

theorem on_node (x : Nd) : allOne (eV_node x).flat := by rw [eV_node_eq]; rfl

theorem un_node (x : Nd) : (eV_node x).untag = eV_node x := by rw [eV_node_eq]; simp only [V.untag, List.map_cons, List.map_nil, untag_at', untag_dl]

theorem CCok : CodOk CC := by
  refine ⟨?_, ?_, ?_, ?_, ?_, ?_, ?_, ?_, ?_, ?_⟩
  · intro N i x
    cases i with
    | int => rfl
    | bool => rfl
    | piece => exact (eV_piece_eq x).symm
    | node => exact (eV_node_eq x).symm
  · intro i x
    cases i <;> rfl
  · intro i R v k r h
    cases i with
    | int => obtain ⟨x, h1, _, h2⟩ := pInt_ok (C := CC) h; exact ⟨x, h1, fun N => by have := h2 N; exact untag_of1 this⟩
    | bool => obtain ⟨x, h1, _, h2⟩ := pBool_ok (C := CC) h; exact ⟨x, h1, fun N => by have := h2 N; exact untag_of1 this⟩
    | piece => exact dec_piece_ok h
    | node => exact dec_node_ok h
  · intro i R v k r hp h
    cases i with
    | int => obtain ⟨x, h1, h2, _⟩ := pInt_ok (C := CC) h; exact ⟨x, h1, h2⟩
    | bool => obtain ⟨x, h1, h2, _⟩ := pBool_ok (C := CC) h; exact ⟨x, h1, h2⟩
    | piece => exact dec_piece_okP h
    | node => cases hp
  · intro i x
    cases i with
    | int => rfl
    | bool => rfl
    | piece => exact sz_piece x
    | node => exact sz_node x
  · intro i x
    cases i with
    | int => rfl
    | bool => rfl
    | piece => exact ag_piece x
    | node => exact ag_node x
  · intro i x
    cases i with
    | int => rfl
    | bool => rfl
    | piece => exact on_piece x
    | node => exact on_node x
  · intro i x
    cases i with
    | int => rfl
    | bool => rfl
    | piece => exact un_piece x
    | node => exact un_node x
  · intro i h
    cases i <;> first | rfl | cases h
  · intro i
    cases i <;> decide


def td3 : TD UU := { has := true, agg := false, cells := 1, bytes := 8, code := some TI.int, ik := some .i64, zero := some [.int .i64 0] }
theorem td3_ok : Facts CC Tryd.prog 3 td3 := ⟨by kernel_rfl, by kernel_rfl, by kernel_rfl, by kernel_rfl, by kernel_rfl, by kernel_rfl, by kernel_rfl, by kernel_rfl, by kernel_rfl, by kernel_rfl, by kernel_rfl, fun N => by kernel_rfl, fun i h => by first | (injection h with h; subst h; exact ⟨rfl, rfl⟩) | cases h⟩
def td4 : TD UU := { has := true, agg := false, cells := 1, bytes := 1, code := some TI.bool, isBool := true, zero := some [.bool false] }
theorem td4_ok : Facts CC Tryd.prog 4 td4 := ⟨by kernel_rfl, by kernel_rfl, by kernel_rfl, by kernel_rfl, by kernel_rfl, by kernel_rfl, by kernel_rfl, by kernel_rfl, by kernel_rfl, by kernel_rfl, by kernel_rfl, fun N => by kernel_rfl, fun i h => by first | (injection h with h; subst h; exact ⟨rfl, rfl⟩) | cases h⟩
def td5 : TD UU := { has := true, agg := false, cells := 1, bytes := 1, ik := some .u8, zero := some [.int .u8 0] }
theorem td5_ok : Facts CC Tryd.prog 5 td5 := ⟨by kernel_rfl, by kernel_rfl, by kernel_rfl, by kernel_rfl, by kernel_rfl, by kernel_rfl, by kernel_rfl, by kernel_rfl, by kernel_rfl, by kernel_rfl, by kernel_rfl, fun N => by kernel_rfl, fun i h => by first | (injection h with h; subst h; exact ⟨rfl, rfl⟩) | cases h⟩
def td9 : TD UU := { has := true, agg := false, cells := 1, bytes := 16, isStr := true, zero := some [.str []] }
theorem td9_ok : Facts CC Tryd.prog 9 td9 := ⟨by kernel_rfl, by kernel_rfl, by kernel_rfl, by kernel_rfl, by kernel_rfl, by kernel_rfl, by kernel_rfl, by kernel_rfl, by kernel_rfl, by kernel_rfl, by kernel_rfl, fun N => by kernel_rfl, fun i h => by first | (injection h with h; subst h; exact ⟨rfl, rfl⟩) | cases h⟩
def td23 : TD UU := { has := true, agg := false, cells := 1, bytes := 24, el := some 25, zero := some [.nil] }
theorem td23_ok : Facts CC Tryd.prog 23 td23 := ⟨by kernel_rfl, by kernel_rfl, by kernel_rfl, by kernel_rfl, by kernel_rfl, by kernel_rfl, by kernel_rfl, by kernel_rfl, by kernel_rfl, by kernel_rfl, by kernel_rfl, fun N => by kernel_rfl, fun i h => by first | (injection h with h; subst h; exact ⟨rfl, rfl⟩) | cases h⟩
def td25 : TD UU := { has := true, agg := true, cells := 3, bytes := 40, code := some TI.node, flds := [(0, 3), (1, 3), (2, 23)], isStruct := true, zero := some [.int .i64 0, .int .i64 0, .nil] }
theorem td25_ok : Facts CC Tryd.prog 25 td25 := ⟨by kernel_rfl, by kernel_rfl, by kernel_rfl, by kernel_rfl, by kernel_rfl, by kernel_rfl, by kernel_rfl, by kernel_rfl, by kernel_rfl, by kernel_rfl, by kernel_rfl, fun N => by kernel_rfl, fun i h => by first | (injection h with h; subst h; exact ⟨rfl, rfl⟩) | cases h⟩
def td26 : TD UU := { has := true, agg := false, cells := 1, bytes := 8, code := some TI.int, ik := some .i64, zero := some [.int .i64 0] }
theorem td26_ok : Facts CC Tryd.prog 26 td26 := ⟨by kernel_rfl, by kernel_rfl, by kernel_rfl, by kernel_rfl, by kernel_rfl, by kernel_rfl, by kernel_rfl, by kernel_rfl, by kernel_rfl, by kernel_rfl, by kernel_rfl, fun N => by kernel_rfl, fun i h => by first | (injection h with h; subst h; exact ⟨rfl, rfl⟩) | cases h⟩
def td32 : TD UU := { has := true, agg := false, cells := 1, bytes := 24, el := some 3, zero := some [.nil] }
theorem td32_ok : Facts CC Tryd.prog 32 td32 := ⟨by kernel_rfl, by kernel_rfl, by kernel_rfl, by kernel_rfl, by kernel_rfl, by kernel_rfl, by kernel_rfl, by kernel_rfl, by kernel_rfl, by kernel_rfl, by kernel_rfl, fun N => by kernel_rfl, fun i h => by first | (injection h with h; subst h; exact ⟨rfl, rfl⟩) | cases h⟩
def td51 : TD UU := { has := true, agg := false, cells := 1, bytes := 24, el := some 60, zero := some [.nil] }
theorem td51_ok : Facts CC Tryd.prog 51 td51 := ⟨by kernel_rfl, by kernel_rfl, by kernel_rfl, by kernel_rfl, by kernel_rfl, by kernel_rfl, by kernel_rfl, by kernel_rfl, by kernel_rfl, by kernel_rfl, by kernel_rfl, fun N => by kernel_rfl, fun i h => by first | (injection h with h; subst h; exact ⟨rfl, rfl⟩) | cases h⟩
def td60 : TD UU := { has := true, agg := true, cells := 2, bytes := 16, code := some TI.piece, flds := [(0, 3), (1, 3)], isStruct := true, zero := some [.int .i64 0, .int .i64 0] }
theorem td60_ok : Facts CC Tryd.prog 60 td60 := ⟨by kernel_rfl, by kernel_rfl, by kernel_rfl, by kernel_rfl, by kernel_rfl, by kernel_rfl, by kernel_rfl, by kernel_rfl, by kernel_rfl, by kernel_rfl, by kernel_rfl, fun N => by kernel_rfl, fun i h => by first | (injection h with h; subst h; exact ⟨rfl, rfl⟩) | cases h⟩
def td68 : TD UU := { has := true, agg := false, cells := 1, bytes := 16, isIfc := true, zero := some [.con .nilIface] }
theorem td68_ok : Facts CC Tryd.prog 68 td68 := ⟨by kernel_rfl, by kernel_rfl, by kernel_rfl, by kernel_rfl, by kernel_rfl, by kernel_rfl, by kernel_rfl, by kernel_rfl, by kernel_rfl, by kernel_rfl, by kernel_rfl, fun N => by kernel_rfl, fun i h => by first | (injection h with h; subst h; exact ⟨rfl, rfl⟩) | cases h⟩
def tdL : List (Nat × TD UU) := [(3, td3), (4, td4), (5, td5), (9, td9), (23, td23), (25, td25), (26, td26), (32, td32), (51, td51), (60, td60), (68, td68)]
def Tb : Nat → TD UU := findD tdL
theorem Tb_ok : TbOk CC Tryd.prog Tb := findD_ok (by
  intro p hp
  simp only [tdL, List.mem_cons, List.not_mem_nil, or_false] at hp
  rcases hp with rfl | rfl | rfl | rfl | rfl | rfl | rfl | rfl | rfl | rfl | rfl
  · exact td3_ok
  · exact td4_ok
  · exact td5_ok
  · exact td9_ok
  · exact td23_ok
  · exact td25_ok
  · exact td26_ok
  · exact td32_ok
  · exact td51_ok
  · exact td60_ok
  · exact td68_ok)
end Go.Proofs.YtegibhjgldpndaaDoor
