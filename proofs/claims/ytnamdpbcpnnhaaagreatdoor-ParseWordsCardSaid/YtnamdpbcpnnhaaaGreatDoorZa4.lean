/-
  Part 4 of what the last text needs: library, runs, contracts, plain laws. No condition of its own.
-/
import Derived.Test.YtnamdpbcpnnhaaaGreatDoorZa3
import Derived.Test.YtnamdpbcpnnhaaaGreatDoorRows
section
set_option linter.unusedVariables false
set_option linter.unusedSimpArgs false
namespace Go.Proofs.YtnamdpbcpnnhaaaGreatDoor
open Go.Al
theorem hasT3 : hasT Tryz.prog 3 = true := by kernel_rfl
theorem aggT3 : isAggT Tryz.prog 3 = false := by kernel_rfl
theorem cells3 : Tryz.prog.cellsOf 3 = 1 := by kernel_rfl
theorem hasT4 : hasT Tryz.prog 4 = true := by kernel_rfl
theorem aggT4 : isAggT Tryz.prog 4 = false := by kernel_rfl
theorem cells4 : Tryz.prog.cellsOf 4 = 1 := by kernel_rfl
theorem hasT9 : hasT Tryz.prog 9 = true := by kernel_rfl
theorem aggT9 : isAggT Tryz.prog 9 = false := by kernel_rfl
theorem cells9 : Tryz.prog.cellsOf 9 = 1 := by kernel_rfl
theorem strT9 : isStrT Tryz.prog 9 = true := by kernel_rfl
theorem hasT24 : hasT Tryz.prog 24 = true := by kernel_rfl
theorem aggT24 : isAggT Tryz.prog 24 = false := by kernel_rfl
theorem cells24 : Tryz.prog.cellsOf 24 = 1 := by kernel_rfl
theorem elT24 : elT Tryz.prog 24 = some 26 := by kernel_rfl
theorem hasT26 : hasT Tryz.prog 26 = true := by kernel_rfl
theorem cells26 : Tryz.prog.cellsOf 26 = 6 := by kernel_rfl
theorem fld26_1 : fieldAt Tryz.prog 26 1 = some (1, 9) := by kernel_rfl
theorem hasT27 : hasT Tryz.prog 27 = true := by kernel_rfl
theorem aggT27 : isAggT Tryz.prog 27 = false := by kernel_rfl
theorem cells27 : Tryz.prog.cellsOf 27 = 1 := by kernel_rfl
theorem elT27 : elT Tryz.prog 27 = some 29 := by kernel_rfl
theorem hasT29 : hasT Tryz.prog 29 = true := by kernel_rfl
theorem aggT29 : isAggT Tryz.prog 29 = true := by kernel_rfl
theorem cells29 : Tryz.prog.cellsOf 29 = 3 := by kernel_rfl
theorem bytes29 : Tryz.prog.bytesOf 29 = 40 := by kernel_rfl
theorem fld29_0 : fieldAt Tryz.prog 29 0 = some (0, 3) := by kernel_rfl
theorem zero29 : zeroC Tryz.prog 29 = some [.at (.int .i64 0), .at (.int .i64 0), .lst .nil []] := by kernel_rfl
theorem hasT30 : hasT Tryz.prog 30 = true := by kernel_rfl
theorem aggT30 : isAggT Tryz.prog 30 = false := by kernel_rfl
theorem cells30 : Tryz.prog.cellsOf 30 = 1 := by kernel_rfl
theorem structT61 : isStructT Tryz.prog 61 = true := by kernel_rfl
theorem zero61 : zeroC Tryz.prog 61 = some [] := by kernel_rfl
theorem hasT62 : hasT Tryz.prog 62 = true := by kernel_rfl
theorem aggT62 : isAggT Tryz.prog 62 = false := by kernel_rfl
theorem cells62 : Tryz.prog.cellsOf 62 = 1 := by kernel_rfl
theorem hasT63 : hasT Tryz.prog 63 = true := by kernel_rfl
theorem aggT63 : isAggT Tryz.prog 63 = false := by kernel_rfl
theorem cells63 : Tryz.prog.cellsOf 63 = 1 := by kernel_rfl
theorem bytes63 : Tryz.prog.bytesOf 63 = 8 := by kernel_rfl
theorem zero63 : zeroC Tryz.prog 63 = some [.at (.map none)] := by kernel_rfl
theorem hasT64 : hasT Tryz.prog 64 = true := by kernel_rfl
theorem aggT64 : isAggT Tryz.prog 64 = false := by kernel_rfl
theorem cells64 : Tryz.prog.cellsOf 64 = 1 := by kernel_rfl
theorem elT64 : elT Tryz.prog 64 = some 63 := by kernel_rfl
theorem fld66_0 : fieldAt Tryz.prog 66 0 = some (0, 24) := by kernel_rfl
theorem fld66_1 : fieldAt Tryz.prog 66 1 = some (1, 3) := by kernel_rfl
theorem fld66_2 : fieldAt Tryz.prog 66 2 = some (2, 64) := by kernel_rfl
theorem fld68_0 : fieldAt Tryz.prog 68 0 = some (0, 27) := by kernel_rfl
theorem fld104_0 : fieldAt Tryz.prog 104 0 = some (0, 9) := by kernel_rfl
theorem fld104_1 : fieldAt Tryz.prog 104 1 = some (1, 3) := by kernel_rfl
theorem code14 : isCode Tryz.prog 14 = true := by kernel_rfl
theorem code15 : isCode Tryz.prog 15 = true := by kernel_rfl
theorem code16 : isCode Tryz.prog 16 = true := by kernel_rfl
theorem code17 : isCode Tryz.prog 17 = true := by kernel_rfl
theorem code18 : isCode Tryz.prog 18 = true := by kernel_rfl
theorem code31 : isCode Tryz.prog 31 = true := by kernel_rfl
theorem code32 : isCode Tryz.prog 32 = true := by kernel_rfl
theorem code33 : isCode Tryz.prog 33 = true := by kernel_rfl
theorem code34 : isCode Tryz.prog 34 = true := by kernel_rfl
theorem code37 : isCode Tryz.prog 37 = true := by kernel_rfl
theorem code38 : isCode Tryz.prog 38 = true := by kernel_rfl
theorem code39 : isCode Tryz.prog 39 = true := by kernel_rfl
theorem code41 : isCode Tryz.prog 41 = true := by kernel_rfl
theorem code50 : isCode Tryz.prog 50 = true := by kernel_rfl
theorem code53 : isCode Tryz.prog 53 = true := by kernel_rfl
theorem code54 : isCode Tryz.prog 54 = true := by kernel_rfl
theorem code55 : isCode Tryz.prog 55 = true := by kernel_rfl
theorem code56 : isCode Tryz.prog 56 = true := by kernel_rfl
theorem code57 : isCode Tryz.prog 57 = true := by kernel_rfl
theorem code58 : isCode Tryz.prog 58 = true := by kernel_rfl
theorem code59 : isCode Tryz.prog 59 = true := by kernel_rfl
theorem code60 : isCode Tryz.prog 60 = true := by kernel_rfl
theorem code61 : isCode Tryz.prog 61 = true := by kernel_rfl
theorem code62 : isCode Tryz.prog 62 = true := by kernel_rfl
theorem code63 : isCode Tryz.prog 63 = true := by kernel_rfl
theorem code64 : isCode Tryz.prog 64 = true := by kernel_rfl
theorem code65 : isCode Tryz.prog 65 = true := by kernel_rfl
theorem code72 : isCode Tryz.prog 72 = true := by kernel_rfl
theorem code73 : isCode Tryz.prog 73 = true := by kernel_rfl
theorem code74 : isCode Tryz.prog 74 = true := by kernel_rfl
theorem code75 : isCode Tryz.prog 75 = true := by kernel_rfl
theorem code76 : isCode Tryz.prog 76 = true := by kernel_rfl
theorem code77 : isCode Tryz.prog 77 = true := by kernel_rfl
theorem code78 : isCode Tryz.prog 78 = true := by kernel_rfl
theorem code79 : isCode Tryz.prog 79 = true := by kernel_rfl
theorem code80 : isCode Tryz.prog 80 = true := by kernel_rfl
theorem code81 : isCode Tryz.prog 81 = true := by kernel_rfl
theorem code82 : isCode Tryz.prog 82 = true := by kernel_rfl
theorem code83 : isCode Tryz.prog 83 = true := by kernel_rfl
theorem code84 : isCode Tryz.prog 84 = true := by kernel_rfl
theorem code85 : isCode Tryz.prog 85 = true := by kernel_rfl
theorem code86 : isCode Tryz.prog 86 = true := by kernel_rfl
theorem code88 : isCode Tryz.prog 88 = true := by kernel_rfl
theorem code89 : isCode Tryz.prog 89 = true := by kernel_rfl
theorem code90 : isCode Tryz.prog 90 = true := by kernel_rfl
theorem code92 : isCode Tryz.prog 92 = true := by kernel_rfl
theorem code93 : isCode Tryz.prog 93 = true := by kernel_rfl
theorem code94 : isCode Tryz.prog 94 = true := by kernel_rfl
theorem code95 : isCode Tryz.prog 95 = true := by kernel_rfl
theorem code107 : isCode Tryz.prog 107 = true := by kernel_rfl
theorem code108 : isCode Tryz.prog 108 = true := by kernel_rfl
theorem code110 : isCode Tryz.prog 110 = true := by kernel_rfl
theorem code111 : isCode Tryz.prog 111 = true := by kernel_rfl
theorem code112 : isCode Tryz.prog 112 = true := by kernel_rfl
theorem code113 : isCode Tryz.prog 113 = true := by kernel_rfl
theorem code114 : isCode Tryz.prog 114 = true := by kernel_rfl
theorem code115 : isCode Tryz.prog 115 = true := by kernel_rfl
theorem code116 : isCode Tryz.prog 116 = true := by kernel_rfl
theorem code117 : isCode Tryz.prog 117 = true := by kernel_rfl
theorem code130 : isCode Tryz.prog 130 = true := by kernel_rfl
theorem code131 : isCode Tryz.prog 131 = true := by kernel_rfl
theorem code142 : isCode Tryz.prog 142 = true := by kernel_rfl
theorem code143 : isCode Tryz.prog 143 = true := by kernel_rfl
theorem code150 : isCode Tryz.prog 150 = true := by kernel_rfl
theorem code151 : isCode Tryz.prog 151 = true := by kernel_rfl
theorem code154 : isCode Tryz.prog 154 = true := by kernel_rfl
theorem code155 : isCode Tryz.prog 155 = true := by kernel_rfl
def ks38 : Nat → List Nat
  | 0 => [0, 1, 4]
  | 1 => [4]
  | _ => []
def ks58 : Nat → List Nat
  | 0 => [0, 1, 2, 8]
  | 1 => [0, 1, 2, 6]
  | 2 => [0, 1, 6, 9]
  | 3 => [0, 1, 6]
  | 4 => []
  | _ => []
def ks59 : Nat → List Nat
  | 0 => []
  | _ => []
def ks61 : Nat → List Nat
  | 0 => [0]
  | 1 => [0, 3]
  | 2 => [3]
  | 3 => [2]
  | _ => []
def ks77 : Nat → List Nat
  | 0 => [3]
  | 1 => []
  | _ => []
def ks88 : Nat → List Nat
  | 0 => [0, 1]
  | 1 => [0, 1, 16]
  | 2 => [4]
  | 3 => [4]
  | _ => []
theorem mixed : Tryz.prog.follows .mixedOrders = true := by kernel_rfl
end Go.Proofs.YtnamdpbcpnnhaaaGreatDoor
end
section
set_option linter.unusedVariables false
set_option linter.unusedSimpArgs false
namespace Go.Proofs.YtnamdpbcpnnhaaaGreatDoor
open Go.Al Go.Den
def Nd.kind : Nd → Int
  | .mk k _ _ => k
def Nd.tok : Nd → Int
  | .mk _ a _ => a
def Nd.kids : Nd → List Nd
  | .mk _ _ l => l
structure TokT where
  kind : Int
  text : List UInt8
  file : Int
  ffrom : Int
  fto : Int
  blank : Bool
structure CharT where
  b : Int
  fat : Int
structure BindT where
  space : Int
  fto : Int
inductive TI where
  | int
  | bool
  | u8
  | str
  | tok
  | char
  | bind
  | node
def TI.no : TI → Nat
  | .int => 0
  | .bool => 1
  | .u8 => 2
  | .str => 3
  | .tok => 4
  | .char => 5
  | .bind => 6
  | .node => 7
theorem TI.no_inj : ∀ a b : TI, a.no = b.no → a = b := by intro a b h; cases a <;> cases b <;> first | rfl | (simp [TI.no] at h)
instance : DecidableEq TI := fun a b => if h : a.no = b.no then isTrue (TI.no_inj a b h) else isFalse (fun e => h (by rw [e]))
def denI : TI → Type
  | .int => Int
  | .bool => Bool
  | .u8 => Int
  | .str => (List UInt8)
  | .tok => TokT
  | .char => CharT
  | .bind => BindT
  | .node => Nd
abbrev UU : TyU := { I := TI, den := denI }
def dec_tok {R : Type} (v : T UU) (K : TokT → Option R) : Option R :=
  match v with
  | .agg fs => (match fs with
    | [v0, v1, v2, v3, v4, v5] => pInt .i64 v0 fun x0 => pStr v1 fun x1 => pInt .i64 v2 fun x2 => pInt .i64 v3 fun x3 => pInt .i64 v4 fun x4 => pBool v5 fun x5 => K (TokT.mk x0 x1 x2 x3 x4 x5)
    | _ => none)
  | _ => none
def tokD : TokT := TokT.mk 0 [] 0 0 0 false
def dec_char {R : Type} (v : T UU) (K : CharT → Option R) : Option R :=
  match v with
  | .agg fs => (match fs with
    | [v0, v1] => pInt .u8 v0 fun x0 => pInt .i64 v1 fun x1 => K (CharT.mk x0 x1)
    | _ => none)
  | _ => none
def charD : CharT := CharT.mk 0 0
def dec_bind {R : Type} (v : T UU) (K : BindT → Option R) : Option R :=
  match v with
  | .agg fs => (match fs with
    | [v0, v1] => pInt .i64 v0 fun x0 => pInt .i64 v1 fun x1 => K (BindT.mk x0 x1)
    | _ => none)
  | _ => none
def bindD : BindT := BindT.mk 0 0
def dec_node {R : Type} (v : T UU) (K : Nd → Option R) : Option R :=
  match v with
  | .agg fs => (match fs with
    | [v0, v1, v2] => pInt .i64 v0 fun x0 => pInt .i64 v1 fun x1 => pDl (U := UU) TI.node v2 fun x2 => K (Nd.mk x0 x1 x2)
    | _ => none)
  | _ => none
def nodeD : Nd := Nd.mk 0 0 []
def eV_int (x : Int) : V := .at (.int .i64 x)
def eV_bool (x : Bool) : V := .at (.bool x)
def eV_u8 (x : Int) : V := .at (.int .u8 x)
def eV_str (x : (List UInt8)) : V := .at (.string ⟨List.toArray x⟩)
def eV_tok (x : TokT) : V := .agg [.at (.int .i64 (TokT.kind x)), .at (.string ⟨List.toArray (TokT.text x)⟩), .at (.int .i64 (TokT.file x)), .at (.int .i64 (TokT.ffrom x)), .at (.int .i64 (TokT.fto x)), .at (.bool (TokT.blank x))]
def eV_char (x : CharT) : V := .agg [.at (.int .u8 (CharT.b x)), .at (.int .i64 (CharT.fat x))]
def eV_bind (x : BindT) : V := .agg [.at (.int .i64 (BindT.space x)), .at (.int .i64 (BindT.fto x))]
def eV_node (x : Nd) : V := encNd x
def encVI : (i : TI) → denI i → V
  | .int, x => eV_int x
  | .bool, x => eV_bool x
  | .u8, x => eV_u8 x
  | .str, x => eV_str x
  | .tok, x => eV_tok x
  | .char, x => eV_char x
  | .bind, x => eV_bind x
  | .node, x => eV_node x
def encI : (i : TI) → denI i → T UU
  | .int, x => .int .i64 x
  | .bool, x => .bool x
  | .u8, x => .int .u8 x
  | .str, x => .str x
  | .tok, x => .agg [(.int .i64 (TokT.kind x)), (.str (TokT.text x)), (.int .i64 (TokT.file x)), (.int .i64 (TokT.ffrom x)), (.int .i64 (TokT.fto x)), (.bool (TokT.blank x))]
  | .char, x => .agg [(.int .u8 (CharT.b x)), (.int .i64 (CharT.fat x))]
  | .bind, x => .agg [(.int .i64 (BindT.space x)), (.int .i64 (BindT.fto x))]
  | .node, x => .agg [(.int .i64 (Nd.kind x)), (.int .i64 (Nd.tok x)), (.lst .dl TI.node (Nd.kids x))]
def decI : (i : TI) → {R : Type} → T UU → (denI i → Option R) → Option R
  | .int, _, v, K => pInt .i64 v K
  | .bool, _, v, K => pBool v K
  | .u8, _, v, K => pInt .u8 v K
  | .str, _, v, K => pStr v K
  | .tok, _, v, K => dec_tok v K
  | .char, _, v, K => dec_char v K
  | .bind, _, v, K => dec_bind v K
  | .node, _, v, K => dec_node v K
def dfltI : (i : TI) → denI i
  | .int => (0 : Int)
  | .bool => false
  | .u8 => (0 : Int)
  | .str => ([] : List UInt8)
  | .tok => tokD
  | .char => charD
  | .bind => bindD
  | .node => nodeD
def cellsI : TI → Nat
  | .int => 1
  | .bool => 1
  | .u8 => 1
  | .str => 1
  | .tok => 6
  | .char => 2
  | .bind => 2
  | .node => 3
def aggI : TI → Bool
  | .int => false
  | .bool => false
  | .u8 => false
  | .str => false
  | .tok => true
  | .char => true
  | .bind => true
  | .node => true
def plainI : TI → Bool
  | .int => true
  | .bool => true
  | .u8 => true
  | .str => true
  | .tok => true
  | .char => true
  | .bind => true
  | .node => false
def CC : Cod UU := ⟨encI, encVI, decI, dfltI, cellsI, aggI, plainI⟩
theorem dec_tok_ok {R : Type} {v : T UU} {K : TokT → Option R} {r : R} (h : dec_tok v K = some r) : ∃ x, K x = some r ∧ ∀ N, (trT CC N v).untag = eV_tok x := by
  unfold dec_tok at h
  split at h
  · split at h
    · obtain ⟨x0, h, _, e0⟩ := pInt_ok (C := CC) h
      obtain ⟨x1, h, _, e1⟩ := pStr_ok (C := CC) h
      obtain ⟨x2, h, _, e2⟩ := pInt_ok (C := CC) h
      obtain ⟨x3, h, _, e3⟩ := pInt_ok (C := CC) h
      obtain ⟨x4, h, _, e4⟩ := pInt_ok (C := CC) h
      obtain ⟨x5, h, _, e5⟩ := pBool_ok (C := CC) h
      refine ⟨_, h, fun N => ?_⟩
      simp only [trT, trTs, V.untag, List.map_cons, List.map_nil, e0 N, e1 N, e2 N, e3 N, e4 N, e5 N]
      rfl
    · cases h
  · cases h
theorem dec_tok_okP {R : Type} {v : T UU} {K : TokT → Option R} {r : R} (h : dec_tok v K = some r) : ∃ x, K x = some r ∧ ∀ N, trT CC N v = eV_tok x := by
  unfold dec_tok at h
  split at h
  · split at h
    · obtain ⟨x0, h, e0, _⟩ := pInt_ok (C := CC) h
      obtain ⟨x1, h, e1, _⟩ := pStr_ok (C := CC) h
      obtain ⟨x2, h, e2, _⟩ := pInt_ok (C := CC) h
      obtain ⟨x3, h, e3, _⟩ := pInt_ok (C := CC) h
      obtain ⟨x4, h, e4, _⟩ := pInt_ok (C := CC) h
      obtain ⟨x5, h, e5, _⟩ := pBool_ok (C := CC) h
      refine ⟨_, h, fun N => ?_⟩
      simp only [trT, trTs, e0 N, e1 N, e2 N, e3 N, e4 N, e5 N]
      rfl
    · cases h
  · cases h
theorem eV_tok_eq (x : TokT) : eV_tok x = .agg [.at (.int .i64 (TokT.kind x)), .at (.string ⟨List.toArray (TokT.text x)⟩), .at (.int .i64 (TokT.file x)), .at (.int .i64 (TokT.ffrom x)), .at (.int .i64 (TokT.fto x)), .at (.bool (TokT.blank x))] := by
  rfl
theorem dec_char_ok {R : Type} {v : T UU} {K : CharT → Option R} {r : R} (h : dec_char v K = some r) : ∃ x, K x = some r ∧ ∀ N, (trT CC N v).untag = eV_char x := by
  unfold dec_char at h
  split at h
  · split at h
    · obtain ⟨x0, h, _, e0⟩ := pInt_ok (C := CC) h
      obtain ⟨x1, h, _, e1⟩ := pInt_ok (C := CC) h
      refine ⟨_, h, fun N => ?_⟩
      simp only [trT, trTs, V.untag, List.map_cons, List.map_nil, e0 N, e1 N]
      rfl
    · cases h
  · cases h
theorem dec_char_okP {R : Type} {v : T UU} {K : CharT → Option R} {r : R} (h : dec_char v K = some r) : ∃ x, K x = some r ∧ ∀ N, trT CC N v = eV_char x := by
  unfold dec_char at h
  split at h
  · split at h
    · obtain ⟨x0, h, e0, _⟩ := pInt_ok (C := CC) h
      obtain ⟨x1, h, e1, _⟩ := pInt_ok (C := CC) h
      refine ⟨_, h, fun N => ?_⟩
      simp only [trT, trTs, e0 N, e1 N]
      rfl
    · cases h
  · cases h
theorem eV_char_eq (x : CharT) : eV_char x = .agg [.at (.int .u8 (CharT.b x)), .at (.int .i64 (CharT.fat x))] := by
  rfl
theorem dec_bind_ok {R : Type} {v : T UU} {K : BindT → Option R} {r : R} (h : dec_bind v K = some r) : ∃ x, K x = some r ∧ ∀ N, (trT CC N v).untag = eV_bind x := by
  unfold dec_bind at h
  split at h
  · split at h
    · obtain ⟨x0, h, _, e0⟩ := pInt_ok (C := CC) h
      obtain ⟨x1, h, _, e1⟩ := pInt_ok (C := CC) h
      refine ⟨_, h, fun N => ?_⟩
      simp only [trT, trTs, V.untag, List.map_cons, List.map_nil, e0 N, e1 N]
      rfl
    · cases h
  · cases h
theorem dec_bind_okP {R : Type} {v : T UU} {K : BindT → Option R} {r : R} (h : dec_bind v K = some r) : ∃ x, K x = some r ∧ ∀ N, trT CC N v = eV_bind x := by
  unfold dec_bind at h
  split at h
  · split at h
    · obtain ⟨x0, h, e0, _⟩ := pInt_ok (C := CC) h
      obtain ⟨x1, h, e1, _⟩ := pInt_ok (C := CC) h
      refine ⟨_, h, fun N => ?_⟩
      simp only [trT, trTs, e0 N, e1 N]
      rfl
    · cases h
  · cases h
theorem eV_bind_eq (x : BindT) : eV_bind x = .agg [.at (.int .i64 (BindT.space x)), .at (.int .i64 (BindT.fto x))] := by
  rfl
theorem dec_node_ok {R : Type} {v : T UU} {K : Nd → Option R} {r : R} (h : dec_node v K = some r) : ∃ x, K x = some r ∧ ∀ N, (trT CC N v).untag = eV_node x := by
  unfold dec_node at h
  split at h
  · split at h
    · obtain ⟨x0, h, _, e0⟩ := pInt_ok (C := CC) h
      obtain ⟨x1, h, _, e1⟩ := pInt_ok (C := CC) h
      obtain ⟨x2, h, e2⟩ := pDl_ok (C := CC) h
      refine ⟨_, h, fun N => ?_⟩
      simp only [trT, trTs, V.untag, List.map_cons, List.map_nil, e0 N, e1 N, e2 N]
      exact (encNd_mk x0 x1 x2).symm
    · cases h
  · cases h
theorem eV_node_eq (x : Nd) : eV_node x = .agg [.at (.int .i64 (Nd.kind x)), .at (.int .i64 (Nd.tok x)), .lst (tagOf ((Nd.kids x).map (encVI TI.node))) ((Nd.kids x).map (encVI TI.node))] := by
  cases x; exact encNd_mk _ _ _
theorem sz_tok (x : TokT) : (eV_tok x).size = 6 := by rw [eV_tok_eq]; rfl
theorem ag_tok (x : TokT) : (eV_tok x).isAgg = true := by rw [eV_tok_eq]; rfl
theorem on_tok (x : TokT) : allOne (eV_tok x).flat := by rw [eV_tok_eq]; rfl
theorem un_tok (x : TokT) : (eV_tok x).untag = eV_tok x := by rw [eV_tok_eq]; simp only [V.untag, List.map_cons, List.map_nil, untag_at', untag_dl]
theorem sz_char (x : CharT) : (eV_char x).size = 2 := by rw [eV_char_eq]; rfl
theorem ag_char (x : CharT) : (eV_char x).isAgg = true := by rw [eV_char_eq]; rfl
theorem on_char (x : CharT) : allOne (eV_char x).flat := by rw [eV_char_eq]; rfl
theorem un_char (x : CharT) : (eV_char x).untag = eV_char x := by rw [eV_char_eq]; simp only [V.untag, List.map_cons, List.map_nil, untag_at', untag_dl]
theorem sz_bind (x : BindT) : (eV_bind x).size = 2 := by rw [eV_bind_eq]; rfl
theorem ag_bind (x : BindT) : (eV_bind x).isAgg = true := by rw [eV_bind_eq]; rfl
theorem on_bind (x : BindT) : allOne (eV_bind x).flat := by rw [eV_bind_eq]; rfl
theorem un_bind (x : BindT) : (eV_bind x).untag = eV_bind x := by rw [eV_bind_eq]; simp only [V.untag, List.map_cons, List.map_nil, untag_at', untag_dl]
theorem sz_node (x : Nd) : (eV_node x).size = 3 := by rw [eV_node_eq]; rfl
theorem ag_node (x : Nd) : (eV_node x).isAgg = true := by rw [eV_node_eq]; rfl
theorem on_node (x : Nd) : allOne (eV_node x).flat := by rw [eV_node_eq]; rfl
theorem un_node (x : Nd) : (eV_node x).untag = eV_node x := by rw [eV_node_eq]; simp only [V.untag, List.map_cons, List.map_nil, untag_at', untag_dl]
theorem CCok : CodOk CC := by
  refine ⟨?_, ?_, ?_, ?_, ?_, ?_, ?_, ?_, ?_, ?_⟩
  · intro N i x
    cases i with
    | int => rfl
    | bool => rfl
    | u8 => rfl
    | str => rfl
    | tok => exact (eV_tok_eq x).symm
    | char => exact (eV_char_eq x).symm
    | bind => exact (eV_bind_eq x).symm
    | node => exact (eV_node_eq x).symm
  · intro i x
    cases i <;> rfl
  · intro i R v k r h
    cases i with
    | int => obtain ⟨x, h1, _, h2⟩ := pInt_ok (C := CC) h; exact ⟨x, h1, fun N => by have := h2 N; exact untag_of1 this⟩
    | bool => obtain ⟨x, h1, _, h2⟩ := pBool_ok (C := CC) h; exact ⟨x, h1, fun N => by have := h2 N; exact untag_of1 this⟩
    | u8 => obtain ⟨x, h1, _, h2⟩ := pInt_ok (C := CC) h; exact ⟨x, h1, fun N => by have := h2 N; exact untag_of1 this⟩
    | str => obtain ⟨x, h1, _, h2⟩ := pStr_ok (C := CC) h; exact ⟨x, h1, fun N => by have := h2 N; exact untag_of1 this⟩
    | tok => exact dec_tok_ok h
    | char => exact dec_char_ok h
    | bind => exact dec_bind_ok h
    | node => exact dec_node_ok h
  · intro i R v k r hp h
    cases i with
    | int => obtain ⟨x, h1, h2, _⟩ := pInt_ok (C := CC) h; exact ⟨x, h1, h2⟩
    | bool => obtain ⟨x, h1, h2, _⟩ := pBool_ok (C := CC) h; exact ⟨x, h1, h2⟩
    | u8 => obtain ⟨x, h1, h2, _⟩ := pInt_ok (C := CC) h; exact ⟨x, h1, h2⟩
    | str => obtain ⟨x, h1, h2, _⟩ := pStr_ok (C := CC) h; exact ⟨x, h1, h2⟩
    | tok => exact dec_tok_okP h
    | char => exact dec_char_okP h
    | bind => exact dec_bind_okP h
    | node => cases hp
  · intro i x
    cases i with
    | int => rfl
    | bool => rfl
    | u8 => rfl
    | str => rfl
    | tok => exact sz_tok x
    | char => exact sz_char x
    | bind => exact sz_bind x
    | node => exact sz_node x
  · intro i x
    cases i with
    | int => rfl
    | bool => rfl
    | u8 => rfl
    | str => rfl
    | tok => exact ag_tok x
    | char => exact ag_char x
    | bind => exact ag_bind x
    | node => exact ag_node x
  · intro i x
    cases i with
    | int => rfl
    | bool => rfl
    | u8 => rfl
    | str => rfl
    | tok => exact on_tok x
    | char => exact on_char x
    | bind => exact on_bind x
    | node => exact on_node x
  · intro i x
    cases i with
    | int => rfl
    | bool => rfl
    | u8 => rfl
    | str => rfl
    | tok => exact un_tok x
    | char => exact un_char x
    | bind => exact un_bind x
    | node => exact un_node x
  · intro i h
    cases i <;> first | rfl | cases h
  · intro i
    cases i <;> decide
def td3 : TD UU := { has := true, agg := false, cells := 1, bytes := 8, code := some TI.int, ik := some .i64, zero := some [.int .i64 0] }
theorem td3_ok : Facts CC Tryz.prog 3 td3 := ⟨by kernel_rfl, by kernel_rfl, by kernel_rfl, by kernel_rfl, by kernel_rfl, by kernel_rfl, by kernel_rfl, by kernel_rfl, by kernel_rfl, by kernel_rfl, by kernel_rfl, fun N => by kernel_rfl, fun i h => (by first | (injection h with h; subst h; exact ⟨rfl, rfl⟩) | cases h), fun n i h => (by cases h)⟩
def td4 : TD UU := { has := true, agg := false, cells := 1, bytes := 1, code := some TI.bool, isBool := true, zero := some [.bool false] }
theorem td4_ok : Facts CC Tryz.prog 4 td4 := ⟨by kernel_rfl, by kernel_rfl, by kernel_rfl, by kernel_rfl, by kernel_rfl, by kernel_rfl, by kernel_rfl, by kernel_rfl, by kernel_rfl, by kernel_rfl, by kernel_rfl, fun N => by kernel_rfl, fun i h => (by first | (injection h with h; subst h; exact ⟨rfl, rfl⟩) | cases h), fun n i h => (by cases h)⟩
def td5 : TD UU := { has := true, agg := false, cells := 1, bytes := 1, code := some TI.u8, ik := some .u8, zero := some [.int .u8 0] }
theorem td5_ok : Facts CC Tryz.prog 5 td5 := ⟨by kernel_rfl, by kernel_rfl, by kernel_rfl, by kernel_rfl, by kernel_rfl, by kernel_rfl, by kernel_rfl, by kernel_rfl, by kernel_rfl, by kernel_rfl, by kernel_rfl, fun N => by kernel_rfl, fun i h => (by first | (injection h with h; subst h; exact ⟨rfl, rfl⟩) | cases h), fun n i h => (by cases h)⟩
def td9 : TD UU := { has := true, agg := false, cells := 1, bytes := 16, code := some TI.str, isStr := true, zero := some [.str []] }
theorem td9_ok : Facts CC Tryz.prog 9 td9 := ⟨by kernel_rfl, by kernel_rfl, by kernel_rfl, by kernel_rfl, by kernel_rfl, by kernel_rfl, by kernel_rfl, by kernel_rfl, by kernel_rfl, by kernel_rfl, by kernel_rfl, fun N => by kernel_rfl, fun i h => (by first | (injection h with h; subst h; exact ⟨rfl, rfl⟩) | cases h), fun n i h => (by cases h)⟩
def td20 : TD UU := { has := true, agg := false, cells := 1, bytes := 16, isIfc := true, zero := some [.con .nilIface] }
theorem td20_ok : Facts CC Tryz.prog 20 td20 := ⟨by kernel_rfl, by kernel_rfl, by kernel_rfl, by kernel_rfl, by kernel_rfl, by kernel_rfl, by kernel_rfl, by kernel_rfl, by kernel_rfl, by kernel_rfl, by kernel_rfl, fun N => by kernel_rfl, fun i h => (by first | (injection h with h; subst h; exact ⟨rfl, rfl⟩) | cases h), fun n i h => (by cases h)⟩
def td24 : TD UU := { has := true, agg := false, cells := 1, bytes := 24, el := some 26, zero := some [.nil] }
theorem td24_ok : Facts CC Tryz.prog 24 td24 := ⟨by kernel_rfl, by kernel_rfl, by kernel_rfl, by kernel_rfl, by kernel_rfl, by kernel_rfl, by kernel_rfl, by kernel_rfl, by kernel_rfl, by kernel_rfl, by kernel_rfl, fun N => by kernel_rfl, fun i h => (by first | (injection h with h; subst h; exact ⟨rfl, rfl⟩) | cases h), fun n i h => (by cases h)⟩
def td26 : TD UU := { has := true, agg := true, cells := 6, bytes := 56, code := some TI.tok, flds := [(0, 3), (1, 9), (2, 3), (3, 3), (4, 3), (5, 4)], isStruct := true, zero := some [.int .i64 0, .str [], .int .i64 0, .int .i64 0, .int .i64 0, .bool false] }
theorem td26_ok : Facts CC Tryz.prog 26 td26 := ⟨by kernel_rfl, by kernel_rfl, by kernel_rfl, by kernel_rfl, by kernel_rfl, by kernel_rfl, by kernel_rfl, by kernel_rfl, by kernel_rfl, by kernel_rfl, by kernel_rfl, fun N => by kernel_rfl, fun i h => (by first | (injection h with h; subst h; exact ⟨rfl, rfl⟩) | cases h), fun n i h => (by cases h)⟩
def td27 : TD UU := { has := true, agg := false, cells := 1, bytes := 24, el := some 29, zero := some [.nil] }
theorem td27_ok : Facts CC Tryz.prog 27 td27 := ⟨by kernel_rfl, by kernel_rfl, by kernel_rfl, by kernel_rfl, by kernel_rfl, by kernel_rfl, by kernel_rfl, by kernel_rfl, by kernel_rfl, by kernel_rfl, by kernel_rfl, fun N => by kernel_rfl, fun i h => (by first | (injection h with h; subst h; exact ⟨rfl, rfl⟩) | cases h), fun n i h => (by cases h)⟩
def td29 : TD UU := { has := true, agg := true, cells := 3, bytes := 40, code := some TI.node, flds := [(0, 3), (1, 3), (2, 27)], isStruct := true, zero := some [.int .i64 0, .int .i64 0, .nil] }
theorem td29_ok : Facts CC Tryz.prog 29 td29 := ⟨by kernel_rfl, by kernel_rfl, by kernel_rfl, by kernel_rfl, by kernel_rfl, by kernel_rfl, by kernel_rfl, by kernel_rfl, by kernel_rfl, by kernel_rfl, by kernel_rfl, fun N => by kernel_rfl, fun i h => (by first | (injection h with h; subst h; exact ⟨rfl, rfl⟩) | cases h), fun n i h => (by cases h)⟩
def td30 : TD UU := { has := true, agg := false, cells := 1, bytes := 8, code := some TI.int, ik := some .i64, zero := some [.int .i64 0] }
theorem td30_ok : Facts CC Tryz.prog 30 td30 := ⟨by kernel_rfl, by kernel_rfl, by kernel_rfl, by kernel_rfl, by kernel_rfl, by kernel_rfl, by kernel_rfl, by kernel_rfl, by kernel_rfl, by kernel_rfl, by kernel_rfl, fun N => by kernel_rfl, fun i h => (by first | (injection h with h; subst h; exact ⟨rfl, rfl⟩) | cases h), fun n i h => (by cases h)⟩
def td44 : TD UU := { has := true, agg := false, cells := 1, bytes := 24, el := some 47, zero := some [.nil] }
theorem td44_ok : Facts CC Tryz.prog 44 td44 := ⟨by kernel_rfl, by kernel_rfl, by kernel_rfl, by kernel_rfl, by kernel_rfl, by kernel_rfl, by kernel_rfl, by kernel_rfl, by kernel_rfl, by kernel_rfl, by kernel_rfl, fun N => by kernel_rfl, fun i h => (by first | (injection h with h; subst h; exact ⟨rfl, rfl⟩) | cases h), fun n i h => (by cases h)⟩
def td47 : TD UU := { has := true, agg := true, cells := 2, bytes := 16, code := some TI.bind, flds := [(0, 3), (1, 3)], isStruct := true, zero := some [.int .i64 0, .int .i64 0] }
theorem td47_ok : Facts CC Tryz.prog 47 td47 := ⟨by kernel_rfl, by kernel_rfl, by kernel_rfl, by kernel_rfl, by kernel_rfl, by kernel_rfl, by kernel_rfl, by kernel_rfl, by kernel_rfl, by kernel_rfl, by kernel_rfl, fun N => by kernel_rfl, fun i h => (by first | (injection h with h; subst h; exact ⟨rfl, rfl⟩) | cases h), fun n i h => (by cases h)⟩
def td49 : TD UU := { has := true, agg := false, cells := 1, bytes := 24, el := some 3, zero := some [.nil] }
theorem td49_ok : Facts CC Tryz.prog 49 td49 := ⟨by kernel_rfl, by kernel_rfl, by kernel_rfl, by kernel_rfl, by kernel_rfl, by kernel_rfl, by kernel_rfl, by kernel_rfl, by kernel_rfl, by kernel_rfl, by kernel_rfl, fun N => by kernel_rfl, fun i h => (by first | (injection h with h; subst h; exact ⟨rfl, rfl⟩) | cases h), fun n i h => (by cases h)⟩
def td57 : TD UU := { has := true, agg := false, cells := 1, bytes := 24, el := some 9, zero := some [.nil] }
theorem td57_ok : Facts CC Tryz.prog 57 td57 := ⟨by kernel_rfl, by kernel_rfl, by kernel_rfl, by kernel_rfl, by kernel_rfl, by kernel_rfl, by kernel_rfl, by kernel_rfl, by kernel_rfl, by kernel_rfl, by kernel_rfl, fun N => by kernel_rfl, fun i h => (by first | (injection h with h; subst h; exact ⟨rfl, rfl⟩) | cases h), fun n i h => (by cases h)⟩
def td58 : TD UU := { has := true, agg := true, cells := 33, bytes := 528, zero := some [.str [], .str [], .str [], .str [], .str [], .str [], .str [], .str [], .str [], .str [], .str [], .str [], .str [], .str [], .str [], .str [], .str [], .str [], .str [], .str [], .str [], .str [], .str [], .str [], .str [], .str [], .str [], .str [], .str [], .str [], .str [], .str [], .str []], arr := some (33, TI.str) }
set_option maxRecDepth 100000 in
theorem td58_ok : Facts CC Tryz.prog 58 td58 := ⟨by kernel_rfl, by kernel_rfl, by kernel_rfl, by kernel_rfl, by kernel_rfl, by kernel_rfl, by kernel_rfl, by kernel_rfl, by kernel_rfl, by kernel_rfl, by kernel_rfl, fun N => by kernel_rfl, fun i h => (by first | (injection h with h; subst h; exact ⟨rfl, rfl⟩) | cases h), fun n i h => (by injection h with h; injection h with h _; subst h; kernel_rfl)⟩
def td61 : TD UU := { has := true, agg := true, cells := 0, bytes := 0, flds := [], isStruct := true, zero := some [] }
theorem td61_ok : Facts CC Tryz.prog 61 td61 := ⟨by kernel_rfl, by kernel_rfl, by kernel_rfl, by kernel_rfl, by kernel_rfl, by kernel_rfl, by kernel_rfl, by kernel_rfl, by kernel_rfl, by kernel_rfl, by kernel_rfl, fun N => by kernel_rfl, fun i h => (by first | (injection h with h; subst h; exact ⟨rfl, rfl⟩) | cases h), fun n i h => (by cases h)⟩
def td62 : TD UU := { has := true, agg := false, cells := 1, bytes := 8, zero := some [.con (.pointer none)] }
theorem td62_ok : Facts CC Tryz.prog 62 td62 := ⟨by kernel_rfl, by kernel_rfl, by kernel_rfl, by kernel_rfl, by kernel_rfl, by kernel_rfl, by kernel_rfl, by kernel_rfl, by kernel_rfl, by kernel_rfl, by kernel_rfl, fun N => by kernel_rfl, fun i h => (by first | (injection h with h; subst h; exact ⟨rfl, rfl⟩) | cases h), fun n i h => (by cases h)⟩
def td63 : TD UU := { has := true, agg := false, cells := 1, bytes := 8, zero := some [.con (.map none)] }
theorem td63_ok : Facts CC Tryz.prog 63 td63 := ⟨by kernel_rfl, by kernel_rfl, by kernel_rfl, by kernel_rfl, by kernel_rfl, by kernel_rfl, by kernel_rfl, by kernel_rfl, by kernel_rfl, by kernel_rfl, by kernel_rfl, fun N => by kernel_rfl, fun i h => (by first | (injection h with h; subst h; exact ⟨rfl, rfl⟩) | cases h), fun n i h => (by cases h)⟩
def td64 : TD UU := { has := true, agg := false, cells := 1, bytes := 24, el := some 63, zero := some [.nil] }
theorem td64_ok : Facts CC Tryz.prog 64 td64 := ⟨by kernel_rfl, by kernel_rfl, by kernel_rfl, by kernel_rfl, by kernel_rfl, by kernel_rfl, by kernel_rfl, by kernel_rfl, by kernel_rfl, by kernel_rfl, by kernel_rfl, fun N => by kernel_rfl, fun i h => (by first | (injection h with h; subst h; exact ⟨rfl, rfl⟩) | cases h), fun n i h => (by cases h)⟩
def td66 : TD UU := { has := true, agg := true, cells := 4, bytes := 64, flds := [(0, 24), (1, 3), (2, 64), (3, 63)], isStruct := true, zero := some [.nil, .int .i64 0, .nil, .con (.map none)] }
theorem td66_ok : Facts CC Tryz.prog 66 td66 := ⟨by kernel_rfl, by kernel_rfl, by kernel_rfl, by kernel_rfl, by kernel_rfl, by kernel_rfl, by kernel_rfl, by kernel_rfl, by kernel_rfl, by kernel_rfl, by kernel_rfl, fun N => by kernel_rfl, fun i h => (by first | (injection h with h; subst h; exact ⟨rfl, rfl⟩) | cases h), fun n i h => (by cases h)⟩
def td68 : TD UU := { has := true, agg := true, cells := 1, bytes := 24, flds := [(0, 27)], isStruct := true, zero := some [.nil] }
theorem td68_ok : Facts CC Tryz.prog 68 td68 := ⟨by kernel_rfl, by kernel_rfl, by kernel_rfl, by kernel_rfl, by kernel_rfl, by kernel_rfl, by kernel_rfl, by kernel_rfl, by kernel_rfl, by kernel_rfl, by kernel_rfl, fun N => by kernel_rfl, fun i h => (by first | (injection h with h; subst h; exact ⟨rfl, rfl⟩) | cases h), fun n i h => (by cases h)⟩
def td76 : TD UU := { has := true, agg := false, cells := 1, bytes := 8, zero := some [.con (.pointer none)] }
theorem td76_ok : Facts CC Tryz.prog 76 td76 := ⟨by kernel_rfl, by kernel_rfl, by kernel_rfl, by kernel_rfl, by kernel_rfl, by kernel_rfl, by kernel_rfl, by kernel_rfl, by kernel_rfl, by kernel_rfl, by kernel_rfl, fun N => by kernel_rfl, fun i h => (by first | (injection h with h; subst h; exact ⟨rfl, rfl⟩) | cases h), fun n i h => (by cases h)⟩
def td77 : TD UU := { has := true, agg := false, cells := 1, bytes := 8, zero := some [.con (.pointer none)] }
theorem td77_ok : Facts CC Tryz.prog 77 td77 := ⟨by kernel_rfl, by kernel_rfl, by kernel_rfl, by kernel_rfl, by kernel_rfl, by kernel_rfl, by kernel_rfl, by kernel_rfl, by kernel_rfl, by kernel_rfl, by kernel_rfl, fun N => by kernel_rfl, fun i h => (by first | (injection h with h; subst h; exact ⟨rfl, rfl⟩) | cases h), fun n i h => (by cases h)⟩
def td79 : TD UU := { has := true, agg := true, cells := 6, bytes := 80, flds := [(0, 24), (1, 44), (2, 77), (3, 63), (4, 63), (5, 77)], isStruct := true, zero := some [.nil, .nil, .con (.pointer none), .con (.map none), .con (.map none), .con (.pointer none)] }
theorem td79_ok : Facts CC Tryz.prog 79 td79 := ⟨by kernel_rfl, by kernel_rfl, by kernel_rfl, by kernel_rfl, by kernel_rfl, by kernel_rfl, by kernel_rfl, by kernel_rfl, by kernel_rfl, by kernel_rfl, by kernel_rfl, fun N => by kernel_rfl, fun i h => (by first | (injection h with h; subst h; exact ⟨rfl, rfl⟩) | cases h), fun n i h => (by cases h)⟩
def td88 : TD UU := { has := true, agg := false, cells := 1, bytes := 8, zero := some [.con (.pointer none)] }
theorem td88_ok : Facts CC Tryz.prog 88 td88 := ⟨by kernel_rfl, by kernel_rfl, by kernel_rfl, by kernel_rfl, by kernel_rfl, by kernel_rfl, by kernel_rfl, by kernel_rfl, by kernel_rfl, by kernel_rfl, by kernel_rfl, fun N => by kernel_rfl, fun i h => (by first | (injection h with h; subst h; exact ⟨rfl, rfl⟩) | cases h), fun n i h => (by cases h)⟩
def td99 : TD UU := { has := true, agg := false, cells := 1, bytes := 24, el := some 108, zero := some [.nil] }
theorem td99_ok : Facts CC Tryz.prog 99 td99 := ⟨by kernel_rfl, by kernel_rfl, by kernel_rfl, by kernel_rfl, by kernel_rfl, by kernel_rfl, by kernel_rfl, by kernel_rfl, by kernel_rfl, by kernel_rfl, by kernel_rfl, fun N => by kernel_rfl, fun i h => (by first | (injection h with h; subst h; exact ⟨rfl, rfl⟩) | cases h), fun n i h => (by cases h)⟩
def td101 : TD UU := { has := true, agg := false, cells := 1, bytes := 8, zero := some [.con (.pointer none)] }
theorem td101_ok : Facts CC Tryz.prog 101 td101 := ⟨by kernel_rfl, by kernel_rfl, by kernel_rfl, by kernel_rfl, by kernel_rfl, by kernel_rfl, by kernel_rfl, by kernel_rfl, by kernel_rfl, by kernel_rfl, by kernel_rfl, fun N => by kernel_rfl, fun i h => (by first | (injection h with h; subst h; exact ⟨rfl, rfl⟩) | cases h), fun n i h => (by cases h)⟩
def td104 : TD UU := { has := true, agg := true, cells := 2, bytes := 24, flds := [(0, 9), (1, 3)], isStruct := true, zero := some [.str [], .int .i64 0] }
theorem td104_ok : Facts CC Tryz.prog 104 td104 := ⟨by kernel_rfl, by kernel_rfl, by kernel_rfl, by kernel_rfl, by kernel_rfl, by kernel_rfl, by kernel_rfl, by kernel_rfl, by kernel_rfl, by kernel_rfl, by kernel_rfl, fun N => by kernel_rfl, fun i h => (by first | (injection h with h; subst h; exact ⟨rfl, rfl⟩) | cases h), fun n i h => (by cases h)⟩
def td108 : TD UU := { has := true, agg := true, cells := 2, bytes := 16, code := some TI.char, flds := [(0, 5), (1, 3)], isStruct := true, zero := some [.int .u8 0, .int .i64 0] }
theorem td108_ok : Facts CC Tryz.prog 108 td108 := ⟨by kernel_rfl, by kernel_rfl, by kernel_rfl, by kernel_rfl, by kernel_rfl, by kernel_rfl, by kernel_rfl, by kernel_rfl, by kernel_rfl, by kernel_rfl, by kernel_rfl, fun N => by kernel_rfl, fun i h => (by first | (injection h with h; subst h; exact ⟨rfl, rfl⟩) | cases h), fun n i h => (by cases h)⟩
def td109 : TD UU := { has := true, agg := false, cells := 1, bytes := 8, ik := some .u64, zero := some [.int .u64 0] }
theorem td109_ok : Facts CC Tryz.prog 109 td109 := ⟨by kernel_rfl, by kernel_rfl, by kernel_rfl, by kernel_rfl, by kernel_rfl, by kernel_rfl, by kernel_rfl, by kernel_rfl, by kernel_rfl, by kernel_rfl, by kernel_rfl, fun N => by kernel_rfl, fun i h => (by first | (injection h with h; subst h; exact ⟨rfl, rfl⟩) | cases h), fun n i h => (by cases h)⟩
def td114 : TD UU := { has := true, agg := true, cells := 2, bytes := 16, flds := [(0, 63), (1, 63)], isStruct := true, zero := some [.con (.map none), .con (.map none)] }
theorem td114_ok : Facts CC Tryz.prog 114 td114 := ⟨by kernel_rfl, by kernel_rfl, by kernel_rfl, by kernel_rfl, by kernel_rfl, by kernel_rfl, by kernel_rfl, by kernel_rfl, by kernel_rfl, by kernel_rfl, by kernel_rfl, fun N => by kernel_rfl, fun i h => (by first | (injection h with h; subst h; exact ⟨rfl, rfl⟩) | cases h), fun n i h => (by cases h)⟩
def td116 : TD UU := { has := true, agg := true, cells := 3, bytes := 24, flds := [(0, 114), (2, 77)], isStruct := true, zero := some [.con (.map none), .con (.map none), .con (.pointer none)] }
theorem td116_ok : Facts CC Tryz.prog 116 td116 := ⟨by kernel_rfl, by kernel_rfl, by kernel_rfl, by kernel_rfl, by kernel_rfl, by kernel_rfl, by kernel_rfl, by kernel_rfl, by kernel_rfl, by kernel_rfl, by kernel_rfl, fun N => by kernel_rfl, fun i h => (by first | (injection h with h; subst h; exact ⟨rfl, rfl⟩) | cases h), fun n i h => (by cases h)⟩
def td118 : TD UU := { has := true, agg := true, cells := 8, bytes := 128, zero := some [.str [], .str [], .str [], .str [], .str [], .str [], .str [], .str []], arr := some (8, TI.str) }
set_option maxRecDepth 100000 in
theorem td118_ok : Facts CC Tryz.prog 118 td118 := ⟨by kernel_rfl, by kernel_rfl, by kernel_rfl, by kernel_rfl, by kernel_rfl, by kernel_rfl, by kernel_rfl, by kernel_rfl, by kernel_rfl, by kernel_rfl, by kernel_rfl, fun N => by kernel_rfl, fun i h => (by first | (injection h with h; subst h; exact ⟨rfl, rfl⟩) | cases h), fun n i h => (by injection h with h; injection h with h _; subst h; kernel_rfl)⟩
def td119 : TD UU := { has := true, agg := true, cells := 9, bytes := 144, zero := some [.str [], .str [], .str [], .str [], .str [], .str [], .str [], .str [], .str []], arr := some (9, TI.str) }
set_option maxRecDepth 100000 in
theorem td119_ok : Facts CC Tryz.prog 119 td119 := ⟨by kernel_rfl, by kernel_rfl, by kernel_rfl, by kernel_rfl, by kernel_rfl, by kernel_rfl, by kernel_rfl, by kernel_rfl, by kernel_rfl, by kernel_rfl, by kernel_rfl, fun N => by kernel_rfl, fun i h => (by first | (injection h with h; subst h; exact ⟨rfl, rfl⟩) | cases h), fun n i h => (by injection h with h; injection h with h _; subst h; kernel_rfl)⟩
def td125 : TD UU := { has := true, agg := false, cells := 1, bytes := 24, el := some 5, zero := some [.nil] }
theorem td125_ok : Facts CC Tryz.prog 125 td125 := ⟨by kernel_rfl, by kernel_rfl, by kernel_rfl, by kernel_rfl, by kernel_rfl, by kernel_rfl, by kernel_rfl, by kernel_rfl, by kernel_rfl, by kernel_rfl, by kernel_rfl, fun N => by kernel_rfl, fun i h => (by first | (injection h with h; subst h; exact ⟨rfl, rfl⟩) | cases h), fun n i h => (by cases h)⟩
def td146 : TD UU := { has := true, agg := true, cells := 48, bytes := 768, zero := some [.str [], .str [], .str [], .str [], .str [], .str [], .str [], .str [], .str [], .str [], .str [], .str [], .str [], .str [], .str [], .str [], .str [], .str [], .str [], .str [], .str [], .str [], .str [], .str [], .str [], .str [], .str [], .str [], .str [], .str [], .str [], .str [], .str [], .str [], .str [], .str [], .str [], .str [], .str [], .str [], .str [], .str [], .str [], .str [], .str [], .str [], .str [], .str []], arr := some (48, TI.str) }
set_option maxRecDepth 100000 in
theorem td146_ok : Facts CC Tryz.prog 146 td146 := ⟨by kernel_rfl, by kernel_rfl, by kernel_rfl, by kernel_rfl, by kernel_rfl, by kernel_rfl, by kernel_rfl, by kernel_rfl, by kernel_rfl, by kernel_rfl, by kernel_rfl, fun N => by kernel_rfl, fun i h => (by first | (injection h with h; subst h; exact ⟨rfl, rfl⟩) | cases h), fun n i h => (by injection h with h; injection h with h _; subst h; kernel_rfl)⟩
def tdL : List (Nat × TD UU) := [(3, td3), (4, td4), (5, td5), (9, td9), (20, td20), (24, td24), (26, td26), (27, td27), (29, td29), (30, td30), (44, td44), (47, td47), (49, td49), (57, td57), (58, td58), (61, td61), (62, td62), (63, td63), (64, td64), (66, td66), (68, td68), (76, td76), (77, td77), (79, td79), (88, td88), (99, td99), (101, td101), (104, td104), (108, td108), (109, td109), (114, td114), (116, td116), (118, td118), (119, td119), (125, td125), (146, td146)]
def Tb : Nat → TD UU := findD tdL
theorem Tb_ok : TbOk CC Tryz.prog Tb := findD_ok (by
  intro p hp
  simp only [tdL, List.mem_cons, List.not_mem_nil, or_false] at hp
  rcases hp with rfl | rfl | rfl | rfl | rfl | rfl | rfl | rfl | rfl | rfl | rfl | rfl | rfl | rfl | rfl | rfl | rfl | rfl | rfl | rfl | rfl | rfl | rfl | rfl | rfl | rfl | rfl | rfl | rfl | rfl | rfl | rfl | rfl | rfl | rfl | rfl
  · exact td3_ok
  · exact td4_ok
  · exact td5_ok
  · exact td9_ok
  · exact td20_ok
  · exact td24_ok
  · exact td26_ok
  · exact td27_ok
  · exact td29_ok
  · exact td30_ok
  · exact td44_ok
  · exact td47_ok
  · exact td49_ok
  · exact td57_ok
  · exact td58_ok
  · exact td61_ok
  · exact td62_ok
  · exact td63_ok
  · exact td64_ok
  · exact td66_ok
  · exact td68_ok
  · exact td76_ok
  · exact td77_ok
  · exact td79_ok
  · exact td88_ok
  · exact td99_ok
  · exact td101_ok
  · exact td104_ok
  · exact td108_ok
  · exact td109_ok
  · exact td114_ok
  · exact td116_ok
  · exact td118_ok
  · exact td119_ok
  · exact td125_ok
  · exact td146_ok)
end Go.Proofs.YtnamdpbcpnnhaaaGreatDoor
end
section
set_option linter.unusedVariables false
set_option linter.unusedSimpArgs false
namespace Go.Den
def findL (l : List (Nat × List (Nat × Nat × Nat))) (n : Nat) : List (Nat × Nat × Nat) := (findF l n).getD []
end Go.Den
namespace Go.Proofs.YtnamdpbcpnnhaaaGreatDoor
open Go.Al Go.Den
abbrev PSt := Int × List MT
abbrev MM (α : Type) := List TokT → PSt → Option (Option (α × PSt))
abbrev LK := List (SK UU)
abbrev k0 : LK := []
abbrev kN : LK := [.st TI.node]
abbrev kB : LK := [.bool]
abbrev kS : LK := [.str]
abbrev kI : LK := [.int .i64]
abbrev kL : LK := [.dl TI.str]
abbrev kM : LK := [.mpo]
abbrev bo {α ρ : Type} (x : Option (Option α)) (f : α → Option (Option ρ)) : Option (Option ρ) := Option.bind x fun o => oCase o (some none) f
abbrev Str := List UInt8
abbrev NdsT := List Nd × Unit
def ndE (x : Nd) : Nd := Nd.mk (Nd.kind x) (Nd.tok x) (Nd.kids x)
abbrev parK : SK UU := .box [.dl TI.tok, .int .i64, .scs, .jm]
abbrev parL : SK UU := .box [.dl TI.tok, .int .i64, .scs, .mpo]
abbrev ptsK : SK UU := .box [.ow true TI.node]
def syn : List PanicEntry := [{ v := .iface 61 (.agg #[]), recovered := false }]
abbrev ParT := List TokT × Int × List MT × Unit × Unit
abbrev ParLT := List TokT × Int × List MT × Option MT × Unit
def fM {aa rs : List (SK UU)} (m : denKs aa → MM (denKs rs)) {R : Type} (x : ParT × Unit) (a : denKs aa) (pan : Option R) (K : ParT × Unit → denKs rs → Option R) : Option R :=
  Option.bind (m a x.1.1 (x.1.2.1, x.1.2.2.1)) fun o => oCase o pan fun y => K ((x.1.1, y.2.1, y.2.2, (), ()), ()) y.1
abbrev cM (aa rs : List (SK UU)) (m : denKs aa → MM (denKs rs)) : CP UU := ⟨[parK], [parK], aa, rs, fun x a pan K => fM m x a pan K⟩
def fX {aa rs : List (SK UU)} (m : denKs aa → List Nd → MM (denKs rs × List Nd)) {R : Type} (x : ParT × (List Nd × Unit) × Unit) (a : denKs aa) (pan : Option R) (K : ParT × (List Nd × Unit) × Unit → denKs rs → Option R) : Option R :=
  Option.bind (m a x.2.1.1 x.1.1 (x.1.2.1, x.1.2.2.1)) fun o => oCase o pan fun y => K ((x.1.1, y.2.1, y.2.2, (), ()), (y.1.2, ()), ()) y.1.1
abbrev cX (aa rs : List (SK UU)) (m : denKs aa → List Nd → MM (denKs rs × List Nd)) : CP UU := ⟨[parK, ptsK], [parK, ptsK], aa, rs, fun x a pan K => fX m x a pan K⟩
def fL {aa rs : List (SK UU)} (m : denKs aa → MM (denKs rs × Option MT)) {R : Type} (x : ParT × Unit) (a : denKs aa) (pan : Option R) (K : ParLT × Unit → denKs rs → Option R) : Option R :=
  Option.bind (m a x.1.1 (x.1.2.1, x.1.2.2.1)) fun o => oCase o pan fun y => K ((x.1.1, y.2.1, y.2.2, y.1.2, ()), ()) y.1.1
abbrev cL (aa rs : List (SK UU)) (m : denKs aa → MM (denKs rs × Option MT)) : CP UU := ⟨[parK], [parL], aa, rs, fun x a pan K => fL m x a pan K⟩
def fLj {aa rs : List (SK UU)} (m : denKs aa → MM (denKs rs × Option MT)) {R : Type} (x : ParT × Unit) (a : denKs aa) (pan : Option R) (K : ParT × Unit → denKs rs → Option R) : Option R :=
  Option.bind (m a x.1.1 (x.1.2.1, x.1.2.2.1)) fun o => oCase o pan fun y => K ((x.1.1, y.2.1, y.2.2, (), ()), ()) y.1.1
abbrev cLj (aa rs : List (SK UU)) (m : denKs aa → MM (denKs rs × Option MT)) : CP UU := ⟨[parK], [parK], aa, rs, fun x a pan K => fLj m x a pan K⟩
abbrev parJ : SK UU := .box [.dl TI.tok, .int .i64, .scs, .mpj]
abbrev ParJT := List TokT × Int × List MT × Option (Option MT) × Unit
def fJ {aa rs : List (SK UU)} (m : denKs aa → MM (denKs rs)) {R : Type} (x : ParJT × Unit) (a : denKs aa) (pan : Option R) (K : ParJT × Unit → denKs rs → Option R) : Option R :=
  Option.bind (m a x.1.1 (x.1.2.1, x.1.2.2.1)) fun o => oCase o pan fun y => K ((x.1.1, y.2.1, y.2.2, x.1.2.2.2.1, ()), ()) y.1
abbrev cJ (aa rs : List (SK UU)) (m : denKs aa → MM (denKs rs)) : CP UU := ⟨[parJ], [parJ], aa, rs, fun x a pan K => fJ m x a pan K⟩
def fN {aa rs : List (SK UU)} (m : denKs aa → MM (denKs rs × Option (Option MT))) {R : Type} (x : ParT × Unit) (a : denKs aa) (pan : Option R) (K : ParJT × Unit → denKs rs → Option R) : Option R :=
  Option.bind (m a x.1.1 (x.1.2.1, x.1.2.2.1)) fun o => oCase o pan fun y => K ((x.1.1, y.2.1, y.2.2, y.1.2, ()), ()) y.1.1
abbrev cN (aa rs : List (SK UU)) (m : denKs aa → MM (denKs rs × Option (Option MT))) : CP UU := ⟨[parK], [parJ], aa, rs, fun x a pan K => fN m x a pan K⟩
def fNj {aa rs : List (SK UU)} (m : denKs aa → MM (denKs rs × Option (Option MT))) {R : Type} (x : ParT × Unit) (a : denKs aa) (pan : Option R) (K : ParT × Unit → denKs rs → Option R) : Option R :=
  Option.bind (m a x.1.1 (x.1.2.1, x.1.2.2.1)) fun o => oCase o pan fun y => K ((x.1.1, y.2.1, y.2.2, (), ()), ()) y.1.1
abbrev cNj (aa rs : List (SK UU)) (m : denKs aa → MM (denKs rs × Option (Option MT))) : CP UU := ⟨[parK], [parK], aa, rs, fun x a pan K => fNj m x a pan K⟩
abbrev cNeed : CP UU := ⟨[], [], [.bool], [], fun x a pan K => cond (show Bool × Unit from a).1 (K () ()) pan⟩
abbrev crNode : CR UU := ⟨[ptsK, .int .i64], [.st TI.node], fun x K => K (Nd.mk (show (List Nd × Unit) × Int × Unit from x).2.1 0 (show (List Nd × Unit) × Int × Unit from x).1.1, ())⟩
abbrev rdK : SK UU := .box [.str, .int .i64]
abbrev RdT := Str × Int × Unit
abbrev DD (α : Type) := Str → Int → Option (α × Int)
def fD {aa rs : List (SK UU)} (m : denKs aa → DD (denKs rs)) {R : Type} (x : RdT × Unit) (a : denKs aa) (K : RdT × Unit → denKs rs → Option R) : Option R :=
  Option.bind (m a x.1.1 x.1.2.1) fun y => K ((x.1.1, y.2, ()), ()) y.1
abbrev cD (aa rs : List (SK UU)) (m : denKs aa → DD (denKs rs)) : CP UU := ⟨[rdK], [rdK], aa, rs, fun x a _ K => fD m x a K⟩
def fRD {aa rs : List (SK UU)} (m : denKs aa → Str → Int → Option (denKs rs)) {R : Type} (x : RdT × denKs aa) (K : denKs rs → Option R) : Option R :=
  Option.bind (m x.2 x.1.1 x.1.2.1) fun y => K y
abbrev cRD (aa rs : List (SK UU)) (m : denKs aa → Str → Int → Option (denKs rs)) : CR UU := ⟨rdK :: aa, rs, fun x K => fRD m x K⟩
end Go.Proofs.YtnamdpbcpnnhaaaGreatDoor
end
section
set_option linter.unusedVariables false
set_option linter.unusedSimpArgs false
namespace Go.Proofs.YtnamdpbcpnnhaaaGreatDoor
open Go.Al Go.Den
abbrev as90 : List (AK UU) := [.str, .int .u8]
abbrev rs90 : List (AK UU) := [.int .i64]
abbrev as91 : List (AK UU) := [.str, .str]
abbrev rs91 : List (AK UU) := [.int .i64]
def kf64 : Nat → List Nat
  | 0 => [0]
  | 1 => [0, 6]
  | 2 => [0, 6, 7]
  | 3 => [0, 6, 7]
  | 4 => [0, 6, 7]
  | 5 => [0, 6, 7]
  | 6 => [0, 7]
  | 7 => [0]
  | 8 => [0, 2]
  | 9 => [0, 21]
  | 10 => [0, 3]
  | 11 => [0, 3, 33]
  | 12 => [0, 3]
  | 13 => [0]
  | 14 => [0, 2]
  | 15 => [0, 54]
  | 16 => [0, 2]
  | 17 => [0, 4]
  | 18 => [0, 4, 67]
  | 19 => [0, 2]
  | 20 => [0]
  | 21 => [0, 2]
  | _ => []
def hd64 : List (Nat × Head UU) := []
def jn64 : List (Nat × Head UU) := [(7, ⟨[0], [(7, .bool)], [(0, rdK)]⟩), (13, ⟨[0], [(3, .int .i64)], [(0, rdK)]⟩), (9, ⟨[0], [], [(0, rdK)]⟩)]
noncomputable def fd64 : FD UU := ⟨⟨fun d => hasN [] d, fun d => hasN [] d, kf64, findF hd64, findF jn64, findL []⟩, bodyOf Tryz.f64, 77, [.tmp 2]⟩
def kf65 : Nat → List Nat
  | 0 => [0]
  | 1 => [0, 10]
  | 2 => [0, 2, 3]
  | 3 => [0, 4]
  | 4 => [0, 4, 14]
  | 5 => [0, 2, 3]
  | 6 => [0, 5]
  | 7 => [0, 5, 19]
  | 8 => [0, 2, 3]
  | 9 => [0, 6]
  | 10 => [0, 6, 24]
  | 11 => [0, 2, 3]
  | 12 => [0, 7]
  | 13 => [0, 7, 29]
  | 14 => [0, 2, 3]
  | 15 => [0, 8]
  | 16 => [0, 8, 34]
  | 17 => [0, 2, 3]
  | 18 => [0, 2, 3]
  | _ => []
def hd65 : List (Nat × Head UU) := []
def jn65 : List (Nat × Head UU) := []
noncomputable def fd65 : FD UU := ⟨⟨fun d => hasN [] d, fun d => hasN [] d, kf65, findF hd65, findF jn65, findL []⟩, bodyOf Tryz.f65, 36, [.tmp 2, .tmp 3]⟩
def kf89 : Nat → List Nat
  | 0 => [0, 1]
  | 1 => [0, 4]
  | _ => []
def hd89 : List (Nat × Head UU) := []
def jn89 : List (Nat × Head UU) := []
noncomputable def fd89 : FD UU := ⟨⟨fun d => hasN [] d, fun d => hasN [] d, kf89, findF hd89, findF jn89, findL []⟩, bodyOf Tryz.f89, 16, [.tmp 4]⟩
def kf92 : Nat → List Nat
  | 0 => [0]
  | 1 => [0, 3]
  | 2 => [0, 3, 17]
  | 3 => [0, 3]
  | 4 => [0, 2]
  | _ => []
def hd92 : List (Nat × Head UU) := [(2, ⟨[0], [(3, .int .i64)], [(0, rdK)]⟩)]
def jn92 : List (Nat × Head UU) := []
noncomputable def fd92 : FD UU := ⟨⟨fun d => hasN [] d, fun d => hasN [] d, kf92, findF hd92, findF jn92, findL []⟩, bodyOf Tryz.f92, 21, [.tmp 2]⟩
def kf93 : Nat → List Nat
  | 0 => [0]
  | 1 => [0, 20]
  | 2 => [0, 2]
  | 3 => [0, 3]
  | 4 => [0, 3, 4, 5]
  | 5 => [0, 2]
  | 6 => [0, 3, 4, 29]
  | 7 => [0, 3]
  | 8 => [0, 3, 43]
  | 9 => [0, 3]
  | _ => []
def hd93 : List (Nat × Head UU) := [(4, ⟨[0], [(3, .int .i64)], [(0, rdK)]⟩)]
def jn93 : List (Nat × Head UU) := []
noncomputable def fd93 : FD UU := ⟨⟨fun d => hasN [] d, fun d => hasN [] d, kf93, findF hd93, findF jn93, findL []⟩, bodyOf Tryz.f93, 56, [.tmp 2]⟩
def kf94 : Nat → List Nat
  | 0 => [0, 1]
  | 1 => [0, 1, 21]
  | 2 => [0, 4]
  | 3 => [0, 1, 5]
  | 4 => [0, 1, 5, 33]
  | 5 => [0, 1, 5]
  | 6 => [0, 1, 5, 38]
  | 7 => [0, 1, 5, 38, 39]
  | 8 => [0, 5, 47]
  | 9 => [0, 4]
  | 10 => [0, 4]
  | 11 => [0, 1, 5, 38, 50]
  | 12 => [0, 4]
  | 13 => [0, 1, 5, 52]
  | 14 => [0, 1, 5]
  | 15 => [0, 1, 5, 73]
  | 16 => [0, 4]
  | 17 => [0, 4]
  | _ => []
def hd94 : List (Nat × Head UU) := [(4, ⟨[0, 1], [(5, .int .i64)], [(0, rdK)]⟩)]
def jn94 : List (Nat × Head UU) := []
noncomputable def fd94 : FD UU := ⟨⟨fun d => hasN [] d, fun d => hasN [] d, kf94, findF hd94, findF jn94, findL []⟩, bodyOf Tryz.f94, 74, [.tmp 4]⟩
def kf95 : Nat → List Nat
  | 0 => [0]
  | 1 => [0, 3]
  | 2 => [0, 3, 6, 7]
  | 3 => [0, 3, 6, 7, 8]
  | 4 => [0, 3, 5, 6, 7]
  | 5 => [0, 3, 5, 6, 7, 19]
  | 6 => [0, 3, 6, 7]
  | 7 => [0, 3, 6, 7]
  | 8 => [0, 2]
  | _ => []
def hd95 : List (Nat × Head UU) := [(3, ⟨[0, 6], [(3, .int .i64), (7, .int .i64)], [(0, rdK)]⟩)]
def jn95 : List (Nat × Head UU) := []
noncomputable def fd95 : FD UU := ⟨⟨fun d => hasN [] d, fun d => hasN [] d, kf95, findF hd95, findF jn95, findL []⟩, bodyOf Tryz.f95, 24, [.tmp 2]⟩
def kf119 : Nat → List Nat
  | 0 => [0, 1]
  | 1 => [4]
  | _ => []
def hd119 : List (Nat × Head UU) := []
def jn119 : List (Nat × Head UU) := []
noncomputable def fd119 : FD UU := ⟨⟨fun d => hasN [] d, fun d => hasN [] d, kf119, findF hd119, findF jn119, findL []⟩, bodyOf Tryz.f119, 8, [.tmp 4]⟩
def kf122 : Nat → List Nat
  | 0 => [0]
  | 1 => [2]
  | _ => []
def hd122 : List (Nat × Head UU) := []
def jn122 : List (Nat × Head UU) := []
noncomputable def fd122 : FD UU := ⟨⟨fun d => hasN [] d, fun d => hasN [] d, kf122, findF hd122, findF jn122, findL []⟩, bodyOf Tryz.f122, 21, [.tmp 2]⟩
def kf123 : Nat → List Nat
  | 0 => [0]
  | 1 => [2]
  | _ => []
def hd123 : List (Nat × Head UU) := []
def jn123 : List (Nat × Head UU) := []
noncomputable def fd123 : FD UU := ⟨⟨fun d => hasN [] d, fun d => hasN [] d, kf123, findF hd123, findF jn123, findL []⟩, bodyOf Tryz.f123, 9, [.tmp 2]⟩
def kf132 : Nat → List Nat
  | 0 => [0, 1]
  | 1 => [4]
  | _ => []
def hd132 : List (Nat × Head UU) := []
def jn132 : List (Nat × Head UU) := []
noncomputable def fd132 : FD UU := ⟨⟨fun d => hasN [] d, fun d => hasN [] d, kf132, findF hd132, findF jn132, findL []⟩, bodyOf Tryz.f132, 18, [.tmp 4]⟩
noncomputable def run89 (fu : Nat) (x : denKs [rdK]) (a : denKs ([.str] : LK)) : Option (Option (denKs [rdK] × denKs ([.bool] : LK))) :=
  runP CC Tb fu 4 (findF [(119, fd119), (132, fd132)]) (findF []) (findF []) (findF []) fd89 [rdK] [rdK] ([.str] : LK) ([.bool] : LK) x a
theorem fdok89 : FDOk Tryz.prog (hasN []) (hasN []) 89 fd89 := ⟨⟨Tryz.f89, Tryz.func89, by kernel_rfl, Tryz.ntmps89, Tryz.results89⟩, by kernel_rfl, by kernel_rfl, by kernel_rfl⟩
theorem fdok89_119 : FDOk Tryz.prog (hasN []) (hasN []) 119 fd119 := ⟨⟨Tryz.f119, Tryz.func119, by kernel_rfl, Tryz.ntmps119, Tryz.results119⟩, by kernel_rfl, by kernel_rfl, by kernel_rfl⟩
theorem fdok89_132 : FDOk Tryz.prog (hasN []) (hasN []) 132 fd132 := ⟨⟨Tryz.f132, Tryz.func132, by kernel_rfl, Tryz.ntmps132, Tryz.results132⟩, by kernel_rfl, by kernel_rfl, by kernel_rfl⟩
noncomputable def run92 (fu : Nat) (c88 : denKs ([.int .i64] : LK) → Str → Int → Option (denKs ([.int .u8] : LK))) (x : denKs [rdK]) (a : denKs ([] : LK)) : Option (Option (denKs [rdK] × denKs ([.int .i64] : LK))) :=
  runP CC Tb fu 4 (findF [(122, fd122), (123, fd123)]) (findF []) (findF [(88, cRD ([.int .i64] : LK) ([.int .u8] : LK) c88)]) (findF []) fd92 [rdK] [rdK] ([] : LK) ([.int .i64] : LK) x a
theorem fdok92 : FDOk Tryz.prog (hasN []) (hasN [88]) 92 fd92 := ⟨⟨Tryz.f92, Tryz.func92, by kernel_rfl, Tryz.ntmps92, Tryz.results92⟩, by kernel_rfl, by kernel_rfl, by kernel_rfl⟩
theorem fdok92_122 : FDOk Tryz.prog (hasN []) (hasN [88]) 122 fd122 := ⟨⟨Tryz.f122, Tryz.func122, by kernel_rfl, Tryz.ntmps122, Tryz.results122⟩, by kernel_rfl, by kernel_rfl, by kernel_rfl⟩
theorem fdok92_123 : FDOk Tryz.prog (hasN []) (hasN [88]) 123 fd123 := ⟨⟨Tryz.f123, Tryz.func123, by kernel_rfl, Tryz.ntmps123, Tryz.results123⟩, by kernel_rfl, by kernel_rfl, by kernel_rfl⟩
noncomputable def run93 (fu : Nat) (c90 : List UInt8 × Int × Unit → Option (Int × Unit)) (c88 : denKs ([.int .i64] : LK) → Str → Int → Option (denKs ([.int .u8] : LK))) (x : denKs [rdK]) (a : denKs ([] : LK)) : Option (Option (denKs [rdK] × denKs ([.int .i64] : LK))) :=
  runP CC Tb fu 4 (findF [(122, fd122), (123, fd123)]) (findF [(90, (⟨as90, rs90, c90⟩ : Con UU))]) (findF [(88, cRD ([.int .i64] : LK) ([.int .u8] : LK) c88)]) (findF []) fd93 [rdK] [rdK] ([] : LK) ([.int .i64] : LK) x a
theorem fdok93 : FDOk Tryz.prog (hasN [90]) (hasN [88]) 93 fd93 := ⟨⟨Tryz.f93, Tryz.func93, by kernel_rfl, Tryz.ntmps93, Tryz.results93⟩, by kernel_rfl, by kernel_rfl, by kernel_rfl⟩
theorem fdok93_122 : FDOk Tryz.prog (hasN [90]) (hasN [88]) 122 fd122 := ⟨⟨Tryz.f122, Tryz.func122, by kernel_rfl, Tryz.ntmps122, Tryz.results122⟩, by kernel_rfl, by kernel_rfl, by kernel_rfl⟩
theorem fdok93_123 : FDOk Tryz.prog (hasN [90]) (hasN [88]) 123 fd123 := ⟨⟨Tryz.f123, Tryz.func123, by kernel_rfl, Tryz.ntmps123, Tryz.results123⟩, by kernel_rfl, by kernel_rfl, by kernel_rfl⟩
noncomputable def run94 (fu : Nat) (c88 : denKs ([.int .i64] : LK) → Str → Int → Option (denKs ([.int .u8] : LK))) (x : denKs [rdK]) (a : denKs ([.int .u8] : LK)) : Option (Option (denKs [rdK] × denKs ([.int .i64] : LK))) :=
  runP CC Tb fu 2 (findF []) (findF []) (findF [(88, cRD ([.int .i64] : LK) ([.int .u8] : LK) c88)]) (findF []) fd94 [rdK] [rdK] ([.int .u8] : LK) ([.int .i64] : LK) x a
theorem fdok94 : FDOk Tryz.prog (hasN []) (hasN [88]) 94 fd94 := ⟨⟨Tryz.f94, Tryz.func94, by kernel_rfl, Tryz.ntmps94, Tryz.results94⟩, by kernel_rfl, by kernel_rfl, by kernel_rfl⟩
noncomputable def run95 (fu : Nat) (c89 : denKs ([.str] : LK) → DD (denKs ([.bool] : LK))) (x : denKs [rdK]) (a : denKs ([] : LK)) : Option (Option (denKs [rdK] × denKs ([.int .i64] : LK))) :=
  runP CC Tb fu 2 (findF []) (findF []) (findF []) (findF [(89, cD ([.str] : LK) ([.bool] : LK) c89)]) fd95 [rdK] [rdK] ([] : LK) ([.int .i64] : LK) x a
theorem fdok95 : FDOk Tryz.prog (hasN []) (hasN []) 95 fd95 := ⟨⟨Tryz.f95, Tryz.func95, by kernel_rfl, Tryz.ntmps95, Tryz.results95⟩, by kernel_rfl, by kernel_rfl, by kernel_rfl⟩
noncomputable def run65 (fu : Nat) (c89 : denKs ([.str] : LK) → DD (denKs ([.bool] : LK))) (c92 : denKs ([] : LK) → DD (denKs ([.int .i64] : LK))) (c93 : denKs ([] : LK) → DD (denKs ([.int .i64] : LK))) (c94 : denKs ([.int .u8] : LK) → DD (denKs ([.int .i64] : LK))) (c95 : denKs ([] : LK) → DD (denKs ([.int .i64] : LK))) (x : denKs [rdK]) (a : denKs ([] : LK)) : Option (Option (denKs [rdK] × denKs ([.int .i64, .int .i64] : LK))) :=
  runP CC Tb fu 2 (findF []) (findF []) (findF []) (findF [(89, cD ([.str] : LK) ([.bool] : LK) c89), (92, cD ([] : LK) ([.int .i64] : LK) c92), (93, cD ([] : LK) ([.int .i64] : LK) c93), (94, cD ([.int .u8] : LK) ([.int .i64] : LK) c94), (95, cD ([] : LK) ([.int .i64] : LK) c95)]) fd65 [rdK] [rdK] ([] : LK) ([.int .i64, .int .i64] : LK) x a
theorem fdok65 : FDOk Tryz.prog (hasN []) (hasN []) 65 fd65 := ⟨⟨Tryz.f65, Tryz.func65, by kernel_rfl, Tryz.ntmps65, Tryz.results65⟩, by kernel_rfl, by kernel_rfl, by kernel_rfl⟩
noncomputable def run64 (fu : Nat) (c90 : List UInt8 × Int × Unit → Option (Int × Unit)) (c91 : List UInt8 × List UInt8 × Unit → Option (Int × Unit)) (c88 : denKs ([.int .i64] : LK) → Str → Int → Option (denKs ([.int .u8] : LK))) (c89 : denKs ([.str] : LK) → DD (denKs ([.bool] : LK))) (x : denKs [rdK]) (a : denKs ([] : LK)) : Option (Option (denKs [rdK] × denKs ([.bool] : LK))) :=
  runP CC Tb fu 2 (findF []) (findF [(90, (⟨as90, rs90, c90⟩ : Con UU)), (91, (⟨as91, rs91, c91⟩ : Con UU))]) (findF [(88, cRD ([.int .i64] : LK) ([.int .u8] : LK) c88)]) (findF [(89, cD ([.str] : LK) ([.bool] : LK) c89)]) fd64 [rdK] [rdK] ([] : LK) ([.bool] : LK) x a
theorem fdok64 : FDOk Tryz.prog (hasN [90, 91]) (hasN [88]) 64 fd64 := ⟨⟨Tryz.f64, Tryz.func64, by kernel_rfl, Tryz.ntmps64, Tryz.results64⟩, by kernel_rfl, by kernel_rfl, by kernel_rfl⟩
end Go.Proofs.YtnamdpbcpnnhaaaGreatDoor
end
section
set_option linter.unusedVariables false
set_option linter.unusedSimpArgs false
namespace Go.Proofs.YtnamdpbcpnnhaaaGreatDoor
open Go.Al Go.Den
instance : DecidableEq TokT := fun a b =>
  if h : a.kind = b.kind ∧ a.text = b.text ∧ a.file = b.file ∧ a.ffrom = b.ffrom ∧ a.fto = b.fto ∧ a.blank = b.blank then
    isTrue (by obtain ⟨_, _, _, _, _, _⟩ := a; obtain ⟨_, _, _, _, _, _⟩ := b; simp only at h; obtain ⟨rfl, rfl, rfl, rfl, rfl, rfl⟩ := h; rfl)
  else isFalse fun e => h (by subst e; exact ⟨rfl, rfl, rfl, rfl, rfl, rfl⟩)
theorem fnP_ok {P : Program} {f : Nat} {io oo aa rs : List (SK UU)} {sh : denKs io → denKs aa → Option (Option (denKs oo × denKs rs))} (h : CPOk CC P syn f ⟨io, oo, aa, rs, fnP sh⟩) (x : denKs io) (a : denKs aa) (oc : Option (denKs oo × denKs rs)) (hx : sh x a = some oc) :
    ∀ s vx va r1 r2, VKs CC s io x vx r1 → VKs CC s aa a va r2 → (r1 ++ r2).Nodup → FnC P f (vx ++ va) (subS s (r1 ++ r2)) (CPost CC syn oo rs vx oc) := by
  cases oc with
  | none =>
    obtain ⟨oc, h1, h2⟩ := h x a (R := Unit) (some ()) (fun _ _ => none) () (by simp only [fnP, hx]; rfl)
    cases oc with
    | none => exact h2
    | some y => cases h1
  | some y =>
    obtain ⟨oc, h1, h2⟩ := h x a (R := denKs oo × denKs rs) none (fun u v => some (u, v)) y (by simp only [fnP, hx]; rfl)
    cases oc with
    | none => cases h1
    | some y' =>
      injection h1 with h1
      have : y' = y := h1
      subst this
      exact h2
def outM {β : Type} (l : List TokT) : Option (Option ((ParT × Unit) × β)) → Option (Option (β × PSt))
  | none => none
  | some none => some none
  | some (some y) => if y.1.1.1 = l then some (some (y.2, y.1.1.2.1, y.1.1.2.2.1)) else none
def outX {β : Type} (l : List TokT) : Option (Option ((ParT × NdsT × Unit) × β)) → Option (Option ((β × List Nd) × PSt))
  | none => none
  | some none => some none
  | some (some y) => if y.1.1.1 = l then some (some ((y.2, y.1.2.1.1), y.1.1.2.1, y.1.1.2.2.1)) else none
def outL {β : Type} (l : List TokT) : Option (Option ((ParLT × Unit) × β)) → Option (Option ((β × Option MT) × PSt))
  | none => none
  | some none => some none
  | some (some y) => if y.1.1.1 = l then some (some ((y.2, y.1.1.2.2.2.1), y.1.1.2.1, y.1.1.2.2.1)) else none
noncomputable def mM {aa rs : LK} (sh : ParT × Unit → denKs aa → Option (Option ((ParT × Unit) × denKs rs))) : denKs aa → MM (denKs rs) := fun a l s => outM l (sh ((l, s.1, s.2, (), ()), ()) a)
noncomputable def mX {aa rs : LK} (sh : ParT × NdsT × Unit → denKs aa → Option (Option ((ParT × NdsT × Unit) × denKs rs))) : denKs aa → List Nd → MM (denKs rs × List Nd) := fun a pts l s => outX l (sh ((l, s.1, s.2, (), ()), (pts, ()), ()) a)
noncomputable def mL {aa rs : LK} (sh : ParT × Unit → denKs aa → Option (Option ((ParLT × Unit) × denKs rs))) : denKs aa → MM (denKs rs × Option MT) := fun a l s => outL l (sh ((l, s.1, s.2, (), ()), ()) a)
theorem cpM_ok {P : Program} {f : Nat} {aa rs : List (SK UU)} {m : denKs aa → MM (denKs rs)} (h : ∀ l i xs a o, m a l (i, xs) = some o → ∀ (st : S) vx va r1 r2, VKs CC st [parK] ((l, i, xs, (), ()), ()) vx r1 → VKs CC st aa a va r2 → (r1 ++ r2).Nodup →
    FnC P f (vx ++ va) (subS st (r1 ++ r2)) (CPost CC syn [parK] rs vx (o.map fun y => (((l, y.2.1, y.2.2, (), ()), ()), y.1)))) : CPOk CC P syn f (cM aa rs m) := by
  intro x a R pan K r hr
  obtain ⟨⟨l, i, xs, u, u'⟩, u''⟩ := x
  replace hr : fM m ((l, i, xs, u, u'), u'') a pan K = some r := hr
  simp only [fM] at hr
  cases hm : m a l (i, xs) with
  | none => rw [hm] at hr; cases hr
  | some o =>
    rw [hm] at hr
    refine ⟨_, ?_, fun s vx va r1 r2 h1 h2 h3 => h l i xs a o hm s vx va r1 r2 h1 h2 h3⟩
    cases o <;> exact hr
theorem cM_of {P : Program} {f : Nat} {aa rs : LK} {sh : denKs ([parK] : LK) → denKs aa → Option (Option (denKs ([parK] : LK) × denKs rs))} (h : CPOk CC P syn f ⟨[parK], [parK], aa, rs, fnP sh⟩) : CPOk CC P syn f (cM aa rs (mM sh)) := by
  refine cpM_ok fun l i xs a o ho st vx va r1 r2 h1 h2 hn => ?_
  have key : ∀ oo : Option (Option ((ParT × Unit) × denKs rs)), sh ((l, i, xs, (), ()), ()) a = oo → outM l oo = some o → FnC P f (vx ++ va) (subS st (r1 ++ r2)) (CPost CC syn [parK] rs vx (o.map fun y => (((l, y.2.1, y.2.2, (), ()), ()), y.1))) := by
    intro oo hs ho
    cases oo with
    | none => cases ho
    | some oc =>
      have hh := fnP_ok h ((l, i, xs, (), ()), ()) a oc hs st vx va r1 r2 h1 h2 hn
      cases oc with
      | none => injection ho with ho; subst ho; exact hh
      | some y =>
        obtain ⟨⟨⟨l', i', xs', u, u'⟩, u''⟩, z⟩ := y
        unfold outM at ho
        simp only at ho
        split at ho
        · rename_i hy
          injection ho with ho
          subst ho
          subst hy
          exact hh
        · cases ho
  exact key _ rfl ho
theorem cX_of {P : Program} {f : Nat} {aa rs : LK} {sh : denKs ([parK, ptsK] : LK) → denKs aa → Option (Option (denKs ([parK, ptsK] : LK) × denKs rs))} (h : CPOk CC P syn f ⟨[parK, ptsK], [parK, ptsK], aa, rs, fnP sh⟩) : CPOk CC P syn f (cX aa rs (mX sh)) := by
  intro x a R pan K r hr
  obtain ⟨⟨l, i, xs, u, u'⟩, ⟨pts, v⟩, v'⟩ := x
  have key : ∀ oo : Option (Option ((ParT × NdsT × Unit) × denKs rs)), sh ((l, i, xs, (), ()), (pts, ()), ()) a = oo → (Option.bind (outX l oo) fun o => oCase o pan fun y => K ((l, y.2.1, y.2.2, (), ()), (y.1.2, ()), ()) y.1.1) = some r →
      ∃ oc : Option (denKs ([parK, ptsK] : LK) × denKs rs), (match oc with | none => pan = some r | some y => K y.1 y.2 = some r) ∧ ∀ s vx va r1 r2, VKs CC s [parK, ptsK] ((l, i, xs, u, u'), (pts, v), v') vx r1 → VKs CC s aa a va r2 → (r1 ++ r2).Nodup → FnC P f (vx ++ va) (subS s (r1 ++ r2)) (CPost CC syn [parK, ptsK] rs vx oc) := by
    intro oo hs hr
    cases oo with
    | none => cases hr
    | some oc =>
      have hh := fnP_ok h ((l, i, xs, (), ()), (pts, ()), ()) a oc hs
      cases oc with
      | none => exact ⟨none, hr, hh⟩
      | some y =>
        obtain ⟨⟨⟨l', i', xs', w, w'⟩, ⟨pts', v1⟩, v2⟩, z⟩ := y
        unfold outX at hr
        simp only at hr
        split at hr
        · rename_i hy
          subst hy
          exact ⟨some (((l', i', xs', (), ()), (pts', ()), ()), z), hr, hh⟩
        · cases hr
  obtain ⟨oc, h1, h2⟩ := key _ rfl hr
  exact ⟨oc, by cases oc <;> exact h1, h2⟩
theorem cL_of {P : Program} {f : Nat} {aa rs : LK} {sh : denKs ([parK] : LK) → denKs aa → Option (Option (denKs ([parL] : LK) × denKs rs))} (h : CPOk CC P syn f ⟨[parK], [parL], aa, rs, fnP sh⟩) : CPOk CC P syn f (cL aa rs (mL sh)) := by
  intro x a R pan K r hr
  obtain ⟨⟨l, i, xs, u, u'⟩, u''⟩ := x
  have key : ∀ oo : Option (Option ((ParLT × Unit) × denKs rs)), sh ((l, i, xs, (), ()), ()) a = oo → (Option.bind (outL l oo) fun o => oCase o pan fun y => K ((l, y.2.1, y.2.2, y.1.2, ()), ()) y.1.1) = some r →
      ∃ oc : Option (denKs ([parL] : LK) × denKs rs), (match oc with | none => pan = some r | some y => K y.1 y.2 = some r) ∧ ∀ s vx va r1 r2, VKs CC s [parK] ((l, i, xs, u, u'), u'') vx r1 → VKs CC s aa a va r2 → (r1 ++ r2).Nodup → FnC P f (vx ++ va) (subS s (r1 ++ r2)) (CPost CC syn [parL] rs vx oc) := by
    intro oo hs hr
    cases oo with
    | none => cases hr
    | some oc =>
      have hh := fnP_ok h ((l, i, xs, (), ()), ()) a oc hs
      cases oc with
      | none => exact ⟨none, hr, hh⟩
      | some y =>
        obtain ⟨⟨⟨l', i', xs', m, w'⟩, v2⟩, z⟩ := y
        unfold outL at hr
        simp only at hr
        split at hr
        · rename_i hy
          subst hy
          exact ⟨some (((l', i', xs', m, ()), ()), z), hr, hh⟩
        · cases hr
  obtain ⟨oc, h1, h2⟩ := key _ rfl hr
  exact ⟨oc, by cases oc <;> exact h1, h2⟩
theorem cLj_of {P : Program} {f : Nat} {aa rs : LK} {m : denKs aa → MM (denKs rs × Option MT)} (h : CPOk CC P syn f (cL aa rs m)) : CPOk CC P syn f (cLj aa rs m) := by
  intro x a R pan K r hr
  obtain ⟨oc, h1, h2⟩ := h x a (R := R) pan (fun y z => K ((y.1.1, y.1.2.1, y.1.2.2.1, (), ()), ()) z) r hr
  cases oc with
  | none => exact ⟨none, h1, h2⟩
  | some y =>
    obtain ⟨⟨⟨l', i', xs', mm, w'⟩, v2⟩, z⟩ := y
    refine ⟨some (((l', i', xs', (), ()), ()), z), h1, fun s vx va r1 r2 k1 k2 k3 => ?_⟩
    have hh := h2 s vx va r1 r2 k1 k2 k3
    intro B g w vs hi hgl hv
    refine (hh B g w vs hi hgl hv).mono ?_
    rintro e w' ⟨g', s1, q1, q2, q3⟩
    cases e with
    | outgrown => exact q3.elim
    | panicked c => exact ⟨g', s1, q1, q2, q3⟩
    | returned v =>
      obtain ⟨ru, q4, q5⟩ := q3
      refine ⟨g', s1, q1, q2, ru, q4, ?_⟩
      obtain ⟨ws, p1, p2, p3, p4, p5, p6⟩ := q5
      simp only [VKs, VK] at p3
      obtain ⟨v0, vs0, t1, t2, rfl, rfl, ⟨b0, cs, t3, rfl, e1, e2, rfl⟩, rfl, rfl⟩ := p3
      obtain ⟨v1, w1, a1, a2, rfl, rfl, ⟨rfl, rfl⟩, v2, w2, a3, a4, rfl, rfl, ⟨rfl, rfl⟩, v3, w3, a5, a6, rfl, rfl, ⟨b, cap, fp, rfl, e3, rfl⟩, v4, w4, a7, a8, rfl, rfl, e4, rfl, rfl⟩ := e2
      have hv4 : ∃ m, v4 = .at (.map m) := by
        cases mm with
        | none => exact ⟨none, e4.1⟩
        | some c => obtain ⟨bm, _, rfl, _⟩ := e4; exact ⟨some bm, rfl⟩
      refine ⟨ws, [.inr b0, .ob b], p2, ?_, p4, ?_, p6⟩
      · simp only [VKs, VK]
        exact ⟨_, [], _, [], rfl, rfl, ⟨b0, _, [.ob b], rfl, e1, ⟨_, _, [], [.ob b], rfl, rfl, ⟨rfl, rfl⟩, _, _, [], [.ob b], rfl, rfl, ⟨rfl, rfl⟩, _, _, [.ob b], [], rfl, rfl, ⟨b, cap, fp, rfl, e3, rfl⟩, _, _, [], [], rfl, rfl, ⟨hv4, rfl⟩, rfl, rfl⟩, rfl⟩, rfl, rfl⟩
      · simp only [List.nil_append, List.append_nil, List.cons_append] at p5 ⊢
        refine p5.sublist ?_
        refine List.Sublist.cons_cons _ (List.Sublist.cons_cons _ ?_)
        exact List.sublist_append_right a7 p2
def outN {β : Type} (l : List TokT) : Option (Option ((ParJT × Unit) × β)) → Option (Option ((β × Option (Option MT)) × PSt))
  | none => none
  | some none => some none
  | some (some y) => if y.1.1.1 = l then some (some ((y.2, y.1.1.2.2.2.1), y.1.1.2.1, y.1.1.2.2.1)) else none
noncomputable def mN {aa rs : LK} (sh : ParT × Unit → denKs aa → Option (Option ((ParJT × Unit) × denKs rs))) : denKs aa → MM (denKs rs × Option (Option MT)) := fun a l s => outN l (sh ((l, s.1, s.2, (), ()), ()) a)
theorem cN_of {P : Program} {f : Nat} {aa rs : LK} {sh : denKs ([parK] : LK) → denKs aa → Option (Option (denKs ([parJ] : LK) × denKs rs))} (h : CPOk CC P syn f ⟨[parK], [parJ], aa, rs, fnP sh⟩) : CPOk CC P syn f (cN aa rs (mN sh)) := by
  intro x a R pan K r hr
  obtain ⟨⟨l, i, xs, u, u'⟩, u''⟩ := x
  have key : ∀ oo : Option (Option ((ParJT × Unit) × denKs rs)), sh ((l, i, xs, (), ()), ()) a = oo → (Option.bind (outN l oo) fun o => oCase o pan fun y => K ((l, y.2.1, y.2.2, y.1.2, ()), ()) y.1.1) = some r →
      ∃ oc : Option (denKs ([parJ] : LK) × denKs rs), (match oc with | none => pan = some r | some y => K y.1 y.2 = some r) ∧ ∀ s vx va r1 r2, VKs CC s [parK] ((l, i, xs, u, u'), u'') vx r1 → VKs CC s aa a va r2 → (r1 ++ r2).Nodup → FnC P f (vx ++ va) (subS s (r1 ++ r2)) (CPost CC syn [parJ] rs vx oc) := by
    intro oo hs hr
    cases oo with
    | none => cases hr
    | some oc =>
      have hh := fnP_ok h ((l, i, xs, (), ()), ()) a oc hs
      cases oc with
      | none => exact ⟨none, hr, hh⟩
      | some y =>
        obtain ⟨⟨⟨l', i', xs', m, w'⟩, v2⟩, z⟩ := y
        unfold outN at hr
        simp only at hr
        split at hr
        · rename_i hy
          subst hy
          exact ⟨some (((l', i', xs', m, ()), ()), z), hr, hh⟩
        · cases hr
  obtain ⟨oc, h1, h2⟩ := key _ rfl hr
  exact ⟨oc, by cases oc <;> exact h1, h2⟩
theorem cNj_of {P : Program} {f : Nat} {aa rs : LK} {m : denKs aa → MM (denKs rs × Option (Option MT))} (h : CPOk CC P syn f (cN aa rs m)) : CPOk CC P syn f (cNj aa rs m) := by
  intro x a R pan K r hr
  obtain ⟨oc, h1, h2⟩ := h x a (R := R) pan (fun y z => K ((y.1.1, y.1.2.1, y.1.2.2.1, (), ()), ()) z) r hr
  cases oc with
  | none => exact ⟨none, h1, h2⟩
  | some y =>
    obtain ⟨⟨⟨l', i', xs', mm, w'⟩, v2⟩, z⟩ := y
    refine ⟨some (((l', i', xs', (), ()), ()), z), h1, fun s vx va r1 r2 k1 k2 k3 => ?_⟩
    have hh := h2 s vx va r1 r2 k1 k2 k3
    intro B g w vs hi hgl hv
    refine (hh B g w vs hi hgl hv).mono ?_
    rintro e w' ⟨g', s1, q1, q2, q3⟩
    cases e with
    | outgrown => exact q3.elim
    | panicked c => exact ⟨g', s1, q1, q2, q3⟩
    | returned v =>
      obtain ⟨ru, q4, q5⟩ := q3
      refine ⟨g', s1, q1, q2, ru, q4, ?_⟩
      obtain ⟨ws, p1, p2, p3, p4, p5, p6⟩ := q5
      simp only [VKs, VK] at p3
      obtain ⟨v0, vs0, t1, t2, rfl, rfl, ⟨b0, cs, t3, rfl, e1, e2, rfl⟩, rfl, rfl⟩ := p3
      obtain ⟨v1, w1, a1, a2, rfl, rfl, ⟨rfl, rfl⟩, v2, w2, a3, a4, rfl, rfl, ⟨rfl, rfl⟩, v3, w3, a5, a6, rfl, rfl, ⟨b, cap, fp, rfl, e3, rfl⟩, v4, w4, a7, a8, rfl, rfl, e4, rfl, rfl⟩ := e2
      have hv4 : ∃ m, v4 = .at (.map m) := by
        cases mm with
        | none => exact e4.1
        | some mm =>
          cases mm with
          | none => exact ⟨none, e4.1⟩
          | some c => obtain ⟨bm, _, rfl, _⟩ := e4; exact ⟨some bm, rfl⟩
      refine ⟨ws, [.inr b0, .ob b], p2, ?_, p4, ?_, p6⟩
      · simp only [VKs, VK]
        exact ⟨_, [], _, [], rfl, rfl, ⟨b0, _, [.ob b], rfl, e1, ⟨_, _, [], [.ob b], rfl, rfl, ⟨rfl, rfl⟩, _, _, [], [.ob b], rfl, rfl, ⟨rfl, rfl⟩, _, _, [.ob b], [], rfl, rfl, ⟨b, cap, fp, rfl, e3, rfl⟩, _, _, [], [], rfl, rfl, ⟨hv4, rfl⟩, rfl, rfl⟩, rfl⟩, rfl, rfl⟩
      · simp only [List.nil_append, List.append_nil, List.cons_append] at p5 ⊢
        refine p5.sublist ?_
        refine List.Sublist.cons_cons _ (List.Sublist.cons_cons _ ?_)
        exact List.sublist_append_right a7 p2
def outJ {β : Type} (l : List TokT) : Option (Option ((ParJT × Unit) × β)) → Option (Option (β × PSt))
  | none => none
  | some none => some none
  | some (some y) => if y.1.1.1 = l then some (some (y.2, y.1.1.2.1, y.1.1.2.2.1)) else none
noncomputable def mJ {aa rs : LK} (sh : ParJT × Unit → denKs aa → Option (Option ((ParJT × Unit) × denKs rs))) : denKs aa → MM (denKs rs) := fun a l s => outJ l (sh ((l, s.1, s.2, none, ()), ()) a)
def putJ {β : Type} (m : Option (Option MT)) (o : Option (Option ((ParJT × Unit) × β))) : Option (Option ((ParJT × Unit) × β)) := o.map fun o => o.map fun y => (((y.1.1.1, y.1.1.2.1, y.1.1.2.2.1, m, ()), ()), y.2)
section
variable {β γ : Type} (m : Option (Option MT))
theorem putJ_none : putJ m (none : Option (Option ((ParJT × Unit) × β))) = none := rfl
theorem putJ_pan : putJ m (some none : Option (Option ((ParJT × Unit) × β))) = some none := rfl
theorem putJ_some (l : List TokT) (i : Int) (xs : List MT) (m' : Option (Option MT)) (u u' : Unit) (z : β) : putJ m (some (some (((l, i, xs, m', u), u'), z))) = some (some (((l, i, xs, m, ()), ()), z)) := rfl
theorem putJ_cond (b : Bool) (x y : Option (Option ((ParJT × Unit) × β))) : putJ m (cond b x y) = cond b (putJ m x) (putJ m y) := by cases b <;> rfl
theorem putJ_bind (o : Option γ) (f : γ → Option (Option ((ParJT × Unit) × β))) : putJ m (Option.bind o f) = Option.bind o fun y => putJ m (f y) := by cases o <;> rfl
theorem putJ_oCase (o : Option γ) (p : Option (Option ((ParJT × Unit) × β))) (f : γ → Option (Option ((ParJT × Unit) × β))) : putJ m (oCase o p f) = oCase o (putJ m p) fun y => putJ m (f y) := by cases o <;> rfl
theorem oCase_none {R : Type} (p : R) (f : γ → R) : oCase none p f = p := rfl
theorem oCase_some {R : Type} (x : γ) (p : R) (f : γ → R) : oCase (some x) p f = f x := rfl
end
theorem cJ_of {P : Program} {f : Nat} {aa rs : LK} {sh : denKs ([parJ] : LK) → denKs aa → Option (Option (denKs ([parJ] : LK) × denKs rs))} (h : CPOk CC P syn f ⟨[parJ], [parJ], aa, rs, fnP sh⟩)
    (hsh : ∀ l i xs m a, sh ((l, i, xs, m, ()), ()) a = putJ m (sh ((l, i, xs, none, ()), ()) a)) : CPOk CC P syn f (cJ aa rs (mJ sh)) := by
  intro x a R pan K r hr
  obtain ⟨⟨l, i, xs, m, u'⟩, u''⟩ := x
  have key : ∀ oo : Option (Option ((ParJT × Unit) × denKs rs)), sh ((l, i, xs, none, ()), ()) a = oo → (Option.bind (outJ l oo) fun o => oCase o pan fun y => K ((l, y.2.1, y.2.2, m, ()), ()) y.1) = some r →
      ∃ oc : Option (denKs ([parJ] : LK) × denKs rs), (match oc with | none => pan = some r | some y => K y.1 y.2 = some r) ∧ ∀ s vx va r1 r2, VKs CC s [parJ] ((l, i, xs, m, u'), u'') vx r1 → VKs CC s aa a va r2 → (r1 ++ r2).Nodup → FnC P f (vx ++ va) (subS s (r1 ++ r2)) (CPost CC syn [parJ] rs vx oc) := by
    intro oo hs hr
    have hm := hsh l i xs m a
    rw [hs] at hm
    cases oo with
    | none => cases hr
    | some oc =>
      cases oc with
      | none => exact ⟨none, hr, fnP_ok h ((l, i, xs, m, ()), ()) a none hm⟩
      | some y =>
        obtain ⟨⟨⟨l', i', xs', m', w'⟩, v2⟩, z⟩ := y
        have hh := fnP_ok h ((l, i, xs, m, ()), ()) a (some (((l', i', xs', m, ()), ()), z)) hm
        unfold outJ at hr
        simp only at hr
        split at hr
        · rename_i hy
          subst hy
          exact ⟨some (((l', i', xs', m, ()), ()), z), hr, hh⟩
        · cases hr
  obtain ⟨oc, h1, h2⟩ := key _ rfl hr
  exact ⟨oc, by cases oc <;> exact h1, h2⟩
def outD {β : Type} (l : Str) : Option (Option ((RdT × Unit) × β)) → Option (β × Int)
  | some (some y) => if y.1.1.1 = l then some (y.2, y.1.1.2.1) else none
  | _ => none
noncomputable def mD {aa rs : LK} (sh : RdT × Unit → denKs aa → Option (Option ((RdT × Unit) × denKs rs))) : denKs aa → DD (denKs rs) := fun a l i => outD l (sh ((l, i, ()), ()) a)
theorem cD_of {P : Program} {f : Nat} {aa rs : LK} {sh : denKs ([rdK] : LK) → denKs aa → Option (Option (denKs ([rdK] : LK) × denKs rs))} (h : CPOk CC P syn f ⟨[rdK], [rdK], aa, rs, fnP sh⟩) : CPOk CC P syn f (cD aa rs (mD sh)) := by
  intro x a R pan K r hr
  obtain ⟨⟨l, i, u⟩, u'⟩ := x
  have key : ∀ oo : Option (Option ((RdT × Unit) × denKs rs)), sh ((l, i, ()), ()) a = oo → (Option.bind (outD l oo) fun y => K ((l, y.2, ()), ()) y.1) = some r →
      ∃ oc : Option (denKs ([rdK] : LK) × denKs rs), (match oc with | none => pan = some r | some y => K y.1 y.2 = some r) ∧ ∀ s vx va r1 r2, VKs CC s [rdK] ((l, i, u), u') vx r1 → VKs CC s aa a va r2 → (r1 ++ r2).Nodup → FnC P f (vx ++ va) (subS s (r1 ++ r2)) (CPost CC syn [rdK] rs vx oc) := by
    intro oo hs hr
    cases oo with
    | none => cases hr
    | some oc =>
      have hh := fnP_ok h ((l, i, ()), ()) a oc hs
      cases oc with
      | none => cases hr
      | some y =>
        obtain ⟨⟨⟨l', i', w⟩, v2⟩, z⟩ := y
        unfold outD at hr
        simp only at hr
        split at hr
        · rename_i hy
          subst hy
          exact ⟨some (((l', i', ()), ()), z), hr, hh⟩
        · cases hr
  obtain ⟨oc, h1, h2⟩ := key _ rfl hr
  exact ⟨oc, by cases oc <;> exact h1, h2⟩
end Go.Proofs.YtnamdpbcpnnhaaaGreatDoor
end
section
set_option linter.unusedVariables false
set_option linter.unusedSimpArgs false
namespace Go.Proofs.YtnamdpbcpnnhaaaGreatDoor
open Go.Al
theorem code69 : isCode Tryz.prog 69 = true := by kernel_rfl
theorem code91 : isCode Tryz.prog 91 = true := by kernel_rfl
end Go.Proofs.YtnamdpbcpnnhaaaGreatDoor
end
section
set_option linter.unusedVariables false
set_option linter.unusedSimpArgs false
namespace Go.Proofs.YtnamdpbcpnnhaaaGreatDoor
open Go.Al Go.Den
def sh89 (fu : Nat) (x : ((Str × (Int × Unit)) × Unit)) (a : (Str × Unit)) : (Option (Option (((Str × (Int × Unit)) × Unit) × (Bool × Unit)))) := cond (inS x.1.2.1 (lenI x.1.1) (List.length x.1.1)) (cond (ile (lenI a.1) (lenI (cutL x.1.1 x.1.2.1 (lenI x.1.1)))) (cond (inS 0 (lenI a.1) (List.length (cutL x.1.1 x.1.2.1 (lenI x.1.1)))) (some (Option.some (((x.1.1, (x.1.2.1, ())), ()), ((seq (cutL (cutL x.1.1 x.1.2.1 (lenI x.1.1)) 0 (lenI a.1)) a.1), ())))) (none)) (some (Option.some (((x.1.1, (x.1.2.1, ())), ()), (false, ()))))) (none)
theorem eq89 : @run89 = @sh89 := by kernel_rfl
def sh92 (fu : Nat) (c88 : (Int × Unit) → Str → Int → (Option (Int × Unit))) (x : ((Str × (Int × Unit)) × Unit)) (a : Unit) : (Option (Option (((Str × (Int × Unit)) × Unit) × (Int × Unit)))) := iter fu (fun (rec1 : ((Int × Unit) × ((Str × (Int × Unit)) × Unit)) → Option (Option (((Str × (Int × Unit)) × Unit) × (Int × Unit)))) (s1 : ((Int × Unit) × ((Str × (Int × Unit)) × Unit))) => Option.bind (c88 (s1.1.1, ()) s1.2.1.1 s1.2.1.2.1) fun y0 => cond (ieq y0.1 95) (rec1 (((iadd .i64 s1.1.1 1), ()), ((s1.2.1.1, (s1.2.1.2.1, ())), ()))) (cond (ile 97 y0.1) (cond (ile y0.1 122) (rec1 (((iadd .i64 s1.1.1 1), ()), ((s1.2.1.1, (s1.2.1.2.1, ())), ()))) (cond (ile 65 y0.1) (cond (ile y0.1 90) (rec1 (((iadd .i64 s1.1.1 1), ()), ((s1.2.1.1, (s1.2.1.2.1, ())), ()))) (cond (ilt 0 s1.1.1) (Option.bind (c88 (s1.1.1, ()) s1.2.1.1 s1.2.1.2.1) fun y1 => cond (ile 48 y1.1) (cond (ile y1.1 57) (rec1 (((iadd .i64 s1.1.1 1), ()), ((s1.2.1.1, (s1.2.1.2.1, ())), ()))) (some (Option.some (((s1.2.1.1, (s1.2.1.2.1, ())), ()), (s1.1.1, ()))))) (some (Option.some (((s1.2.1.1, (s1.2.1.2.1, ())), ()), (s1.1.1, ()))))) (some (Option.some (((s1.2.1.1, (s1.2.1.2.1, ())), ()), (s1.1.1, ())))))) (cond (ilt 0 s1.1.1) (Option.bind (c88 (s1.1.1, ()) s1.2.1.1 s1.2.1.2.1) fun y1 => cond (ile 48 y1.1) (cond (ile y1.1 57) (rec1 (((iadd .i64 s1.1.1 1), ()), ((s1.2.1.1, (s1.2.1.2.1, ())), ()))) (some (Option.some (((s1.2.1.1, (s1.2.1.2.1, ())), ()), (s1.1.1, ()))))) (some (Option.some (((s1.2.1.1, (s1.2.1.2.1, ())), ()), (s1.1.1, ()))))) (some (Option.some (((s1.2.1.1, (s1.2.1.2.1, ())), ()), (s1.1.1, ()))))))) (cond (ile 65 y0.1) (cond (ile y0.1 90) (rec1 (((iadd .i64 s1.1.1 1), ()), ((s1.2.1.1, (s1.2.1.2.1, ())), ()))) (cond (ilt 0 s1.1.1) (Option.bind (c88 (s1.1.1, ()) s1.2.1.1 s1.2.1.2.1) fun y1 => cond (ile 48 y1.1) (cond (ile y1.1 57) (rec1 (((iadd .i64 s1.1.1 1), ()), ((s1.2.1.1, (s1.2.1.2.1, ())), ()))) (some (Option.some (((s1.2.1.1, (s1.2.1.2.1, ())), ()), (s1.1.1, ()))))) (some (Option.some (((s1.2.1.1, (s1.2.1.2.1, ())), ()), (s1.1.1, ()))))) (some (Option.some (((s1.2.1.1, (s1.2.1.2.1, ())), ()), (s1.1.1, ())))))) (cond (ilt 0 s1.1.1) (Option.bind (c88 (s1.1.1, ()) s1.2.1.1 s1.2.1.2.1) fun y1 => cond (ile 48 y1.1) (cond (ile y1.1 57) (rec1 (((iadd .i64 s1.1.1 1), ()), ((s1.2.1.1, (s1.2.1.2.1, ())), ()))) (some (Option.some (((s1.2.1.1, (s1.2.1.2.1, ())), ()), (s1.1.1, ()))))) (some (Option.some (((s1.2.1.1, (s1.2.1.2.1, ())), ()), (s1.1.1, ()))))) (some (Option.some (((s1.2.1.1, (s1.2.1.2.1, ())), ()), (s1.1.1, ())))))))) ((0, ()), ((x.1.1, (x.1.2.1, ())), ()))
theorem eq92 : @run92 = @sh92 := by kernel_rfl
def sh93 (fu : Nat) (c90 : (Str × (Int × Unit)) → (Option (Int × Unit))) (c88 : (Int × Unit) → Str → Int → (Option (Int × Unit))) (x : ((Str × (Int × Unit)) × Unit)) (a : Unit) : (Option (Option (((Str × (Int × Unit)) × Unit) × (Int × Unit)))) := Option.bind (c88 (0, ()) x.1.1 x.1.2.1) fun y0 => cond (ile 48 y0.1) (cond (!(ile y0.1 57)) (Option.bind (c88 (0, ()) x.1.1 x.1.2.1) fun y1 => cond (ine y1.1 46) (some (Option.some (((x.1.1, (x.1.2.1, ())), ()), (0, ())))) (Option.bind (c88 (1, ()) x.1.1 x.1.2.1) fun y2 => cond (ile 48 y2.1) (cond (!(ile y2.1 57)) (some (Option.some (((x.1.1, (x.1.2.1, ())), ()), (0, ())))) (iter fu (fun (rec1 : ((Int × Unit) × ((Str × (Int × Unit)) × Unit)) → Option (Option (((Str × (Int × Unit)) × Unit) × (Int × Unit)))) (s1 : ((Int × Unit) × ((Str × (Int × Unit)) × Unit))) => Option.bind (c88 (s1.1.1, ()) s1.2.1.1 s1.2.1.2.1) fun y3 => Option.bind (c88 ((iadd .i64 s1.1.1 1), ()) s1.2.1.1 s1.2.1.2.1) fun y4 => Option.bind (c90 ([101, 69, 112, 80], (y3.1, ()))) fun y5 => cond (ile 0 y5.1) (cond (ieq y4.1 43) (rec1 (((iadd .i64 s1.1.1 2), ()), ((s1.2.1.1, (s1.2.1.2.1, ())), ()))) (cond (ieq y4.1 45) (rec1 (((iadd .i64 s1.1.1 2), ()), ((s1.2.1.1, (s1.2.1.2.1, ())), ()))) (cond (ieq y3.1 95) (rec1 (((iadd .i64 s1.1.1 1), ()), ((s1.2.1.1, (s1.2.1.2.1, ())), ()))) (cond (ile 97 y3.1) (cond (ile y3.1 122) (rec1 (((iadd .i64 s1.1.1 1), ()), ((s1.2.1.1, (s1.2.1.2.1, ())), ()))) (cond (ile 65 y3.1) (cond (ile y3.1 90) (rec1 (((iadd .i64 s1.1.1 1), ()), ((s1.2.1.1, (s1.2.1.2.1, ())), ()))) (cond (ile 48 y3.1) (cond (ile y3.1 57) (rec1 (((iadd .i64 s1.1.1 1), ()), ((s1.2.1.1, (s1.2.1.2.1, ())), ()))) (cond (ieq y3.1 46) (rec1 (((iadd .i64 s1.1.1 1), ()), ((s1.2.1.1, (s1.2.1.2.1, ())), ()))) (some (Option.some (((s1.2.1.1, (s1.2.1.2.1, ())), ()), (s1.1.1, ())))))) (cond (ieq y3.1 46) (rec1 (((iadd .i64 s1.1.1 1), ()), ((s1.2.1.1, (s1.2.1.2.1, ())), ()))) (some (Option.some (((s1.2.1.1, (s1.2.1.2.1, ())), ()), (s1.1.1, ()))))))) (cond (ile 48 y3.1) (cond (ile y3.1 57) (rec1 (((iadd .i64 s1.1.1 1), ()), ((s1.2.1.1, (s1.2.1.2.1, ())), ()))) (cond (ieq y3.1 46) (rec1 (((iadd .i64 s1.1.1 1), ()), ((s1.2.1.1, (s1.2.1.2.1, ())), ()))) (some (Option.some (((s1.2.1.1, (s1.2.1.2.1, ())), ()), (s1.1.1, ())))))) (cond (ieq y3.1 46) (rec1 (((iadd .i64 s1.1.1 1), ()), ((s1.2.1.1, (s1.2.1.2.1, ())), ()))) (some (Option.some (((s1.2.1.1, (s1.2.1.2.1, ())), ()), (s1.1.1, ())))))))) (cond (ile 65 y3.1) (cond (ile y3.1 90) (rec1 (((iadd .i64 s1.1.1 1), ()), ((s1.2.1.1, (s1.2.1.2.1, ())), ()))) (cond (ile 48 y3.1) (cond (ile y3.1 57) (rec1 (((iadd .i64 s1.1.1 1), ()), ((s1.2.1.1, (s1.2.1.2.1, ())), ()))) (cond (ieq y3.1 46) (rec1 (((iadd .i64 s1.1.1 1), ()), ((s1.2.1.1, (s1.2.1.2.1, ())), ()))) (some (Option.some (((s1.2.1.1, (s1.2.1.2.1, ())), ()), (s1.1.1, ())))))) (cond (ieq y3.1 46) (rec1 (((iadd .i64 s1.1.1 1), ()), ((s1.2.1.1, (s1.2.1.2.1, ())), ()))) (some (Option.some (((s1.2.1.1, (s1.2.1.2.1, ())), ()), (s1.1.1, ()))))))) (cond (ile 48 y3.1) (cond (ile y3.1 57) (rec1 (((iadd .i64 s1.1.1 1), ()), ((s1.2.1.1, (s1.2.1.2.1, ())), ()))) (cond (ieq y3.1 46) (rec1 (((iadd .i64 s1.1.1 1), ()), ((s1.2.1.1, (s1.2.1.2.1, ())), ()))) (some (Option.some (((s1.2.1.1, (s1.2.1.2.1, ())), ()), (s1.1.1, ())))))) (cond (ieq y3.1 46) (rec1 (((iadd .i64 s1.1.1 1), ()), ((s1.2.1.1, (s1.2.1.2.1, ())), ()))) (some (Option.some (((s1.2.1.1, (s1.2.1.2.1, ())), ()), (s1.1.1, ()))))))))))) (cond (ieq y3.1 95) (rec1 (((iadd .i64 s1.1.1 1), ()), ((s1.2.1.1, (s1.2.1.2.1, ())), ()))) (cond (ile 97 y3.1) (cond (ile y3.1 122) (rec1 (((iadd .i64 s1.1.1 1), ()), ((s1.2.1.1, (s1.2.1.2.1, ())), ()))) (cond (ile 65 y3.1) (cond (ile y3.1 90) (rec1 (((iadd .i64 s1.1.1 1), ()), ((s1.2.1.1, (s1.2.1.2.1, ())), ()))) (cond (ile 48 y3.1) (cond (ile y3.1 57) (rec1 (((iadd .i64 s1.1.1 1), ()), ((s1.2.1.1, (s1.2.1.2.1, ())), ()))) (cond (ieq y3.1 46) (rec1 (((iadd .i64 s1.1.1 1), ()), ((s1.2.1.1, (s1.2.1.2.1, ())), ()))) (some (Option.some (((s1.2.1.1, (s1.2.1.2.1, ())), ()), (s1.1.1, ())))))) (cond (ieq y3.1 46) (rec1 (((iadd .i64 s1.1.1 1), ()), ((s1.2.1.1, (s1.2.1.2.1, ())), ()))) (some (Option.some (((s1.2.1.1, (s1.2.1.2.1, ())), ()), (s1.1.1, ()))))))) (cond (ile 48 y3.1) (cond (ile y3.1 57) (rec1 (((iadd .i64 s1.1.1 1), ()), ((s1.2.1.1, (s1.2.1.2.1, ())), ()))) (cond (ieq y3.1 46) (rec1 (((iadd .i64 s1.1.1 1), ()), ((s1.2.1.1, (s1.2.1.2.1, ())), ()))) (some (Option.some (((s1.2.1.1, (s1.2.1.2.1, ())), ()), (s1.1.1, ())))))) (cond (ieq y3.1 46) (rec1 (((iadd .i64 s1.1.1 1), ()), ((s1.2.1.1, (s1.2.1.2.1, ())), ()))) (some (Option.some (((s1.2.1.1, (s1.2.1.2.1, ())), ()), (s1.1.1, ())))))))) (cond (ile 65 y3.1) (cond (ile y3.1 90) (rec1 (((iadd .i64 s1.1.1 1), ()), ((s1.2.1.1, (s1.2.1.2.1, ())), ()))) (cond (ile 48 y3.1) (cond (ile y3.1 57) (rec1 (((iadd .i64 s1.1.1 1), ()), ((s1.2.1.1, (s1.2.1.2.1, ())), ()))) (cond (ieq y3.1 46) (rec1 (((iadd .i64 s1.1.1 1), ()), ((s1.2.1.1, (s1.2.1.2.1, ())), ()))) (some (Option.some (((s1.2.1.1, (s1.2.1.2.1, ())), ()), (s1.1.1, ())))))) (cond (ieq y3.1 46) (rec1 (((iadd .i64 s1.1.1 1), ()), ((s1.2.1.1, (s1.2.1.2.1, ())), ()))) (some (Option.some (((s1.2.1.1, (s1.2.1.2.1, ())), ()), (s1.1.1, ()))))))) (cond (ile 48 y3.1) (cond (ile y3.1 57) (rec1 (((iadd .i64 s1.1.1 1), ()), ((s1.2.1.1, (s1.2.1.2.1, ())), ()))) (cond (ieq y3.1 46) (rec1 (((iadd .i64 s1.1.1 1), ()), ((s1.2.1.1, (s1.2.1.2.1, ())), ()))) (some (Option.some (((s1.2.1.1, (s1.2.1.2.1, ())), ()), (s1.1.1, ())))))) (cond (ieq y3.1 46) (rec1 (((iadd .i64 s1.1.1 1), ()), ((s1.2.1.1, (s1.2.1.2.1, ())), ()))) (some (Option.some (((s1.2.1.1, (s1.2.1.2.1, ())), ()), (s1.1.1, ())))))))))) ((1, ()), ((x.1.1, (x.1.2.1, ())), ())))) (some (Option.some (((x.1.1, (x.1.2.1, ())), ()), (0, ())))))) (iter fu (fun (rec1 : ((Int × Unit) × ((Str × (Int × Unit)) × Unit)) → Option (Option (((Str × (Int × Unit)) × Unit) × (Int × Unit)))) (s1 : ((Int × Unit) × ((Str × (Int × Unit)) × Unit))) => Option.bind (c88 (s1.1.1, ()) s1.2.1.1 s1.2.1.2.1) fun y1 => Option.bind (c88 ((iadd .i64 s1.1.1 1), ()) s1.2.1.1 s1.2.1.2.1) fun y2 => Option.bind (c90 ([101, 69, 112, 80], (y1.1, ()))) fun y3 => cond (ile 0 y3.1) (cond (ieq y2.1 43) (rec1 (((iadd .i64 s1.1.1 2), ()), ((s1.2.1.1, (s1.2.1.2.1, ())), ()))) (cond (ieq y2.1 45) (rec1 (((iadd .i64 s1.1.1 2), ()), ((s1.2.1.1, (s1.2.1.2.1, ())), ()))) (cond (ieq y1.1 95) (rec1 (((iadd .i64 s1.1.1 1), ()), ((s1.2.1.1, (s1.2.1.2.1, ())), ()))) (cond (ile 97 y1.1) (cond (ile y1.1 122) (rec1 (((iadd .i64 s1.1.1 1), ()), ((s1.2.1.1, (s1.2.1.2.1, ())), ()))) (cond (ile 65 y1.1) (cond (ile y1.1 90) (rec1 (((iadd .i64 s1.1.1 1), ()), ((s1.2.1.1, (s1.2.1.2.1, ())), ()))) (cond (ile 48 y1.1) (cond (ile y1.1 57) (rec1 (((iadd .i64 s1.1.1 1), ()), ((s1.2.1.1, (s1.2.1.2.1, ())), ()))) (cond (ieq y1.1 46) (rec1 (((iadd .i64 s1.1.1 1), ()), ((s1.2.1.1, (s1.2.1.2.1, ())), ()))) (some (Option.some (((s1.2.1.1, (s1.2.1.2.1, ())), ()), (s1.1.1, ())))))) (cond (ieq y1.1 46) (rec1 (((iadd .i64 s1.1.1 1), ()), ((s1.2.1.1, (s1.2.1.2.1, ())), ()))) (some (Option.some (((s1.2.1.1, (s1.2.1.2.1, ())), ()), (s1.1.1, ()))))))) (cond (ile 48 y1.1) (cond (ile y1.1 57) (rec1 (((iadd .i64 s1.1.1 1), ()), ((s1.2.1.1, (s1.2.1.2.1, ())), ()))) (cond (ieq y1.1 46) (rec1 (((iadd .i64 s1.1.1 1), ()), ((s1.2.1.1, (s1.2.1.2.1, ())), ()))) (some (Option.some (((s1.2.1.1, (s1.2.1.2.1, ())), ()), (s1.1.1, ())))))) (cond (ieq y1.1 46) (rec1 (((iadd .i64 s1.1.1 1), ()), ((s1.2.1.1, (s1.2.1.2.1, ())), ()))) (some (Option.some (((s1.2.1.1, (s1.2.1.2.1, ())), ()), (s1.1.1, ())))))))) (cond (ile 65 y1.1) (cond (ile y1.1 90) (rec1 (((iadd .i64 s1.1.1 1), ()), ((s1.2.1.1, (s1.2.1.2.1, ())), ()))) (cond (ile 48 y1.1) (cond (ile y1.1 57) (rec1 (((iadd .i64 s1.1.1 1), ()), ((s1.2.1.1, (s1.2.1.2.1, ())), ()))) (cond (ieq y1.1 46) (rec1 (((iadd .i64 s1.1.1 1), ()), ((s1.2.1.1, (s1.2.1.2.1, ())), ()))) (some (Option.some (((s1.2.1.1, (s1.2.1.2.1, ())), ()), (s1.1.1, ())))))) (cond (ieq y1.1 46) (rec1 (((iadd .i64 s1.1.1 1), ()), ((s1.2.1.1, (s1.2.1.2.1, ())), ()))) (some (Option.some (((s1.2.1.1, (s1.2.1.2.1, ())), ()), (s1.1.1, ()))))))) (cond (ile 48 y1.1) (cond (ile y1.1 57) (rec1 (((iadd .i64 s1.1.1 1), ()), ((s1.2.1.1, (s1.2.1.2.1, ())), ()))) (cond (ieq y1.1 46) (rec1 (((iadd .i64 s1.1.1 1), ()), ((s1.2.1.1, (s1.2.1.2.1, ())), ()))) (some (Option.some (((s1.2.1.1, (s1.2.1.2.1, ())), ()), (s1.1.1, ())))))) (cond (ieq y1.1 46) (rec1 (((iadd .i64 s1.1.1 1), ()), ((s1.2.1.1, (s1.2.1.2.1, ())), ()))) (some (Option.some (((s1.2.1.1, (s1.2.1.2.1, ())), ()), (s1.1.1, ()))))))))))) (cond (ieq y1.1 95) (rec1 (((iadd .i64 s1.1.1 1), ()), ((s1.2.1.1, (s1.2.1.2.1, ())), ()))) (cond (ile 97 y1.1) (cond (ile y1.1 122) (rec1 (((iadd .i64 s1.1.1 1), ()), ((s1.2.1.1, (s1.2.1.2.1, ())), ()))) (cond (ile 65 y1.1) (cond (ile y1.1 90) (rec1 (((iadd .i64 s1.1.1 1), ()), ((s1.2.1.1, (s1.2.1.2.1, ())), ()))) (cond (ile 48 y1.1) (cond (ile y1.1 57) (rec1 (((iadd .i64 s1.1.1 1), ()), ((s1.2.1.1, (s1.2.1.2.1, ())), ()))) (cond (ieq y1.1 46) (rec1 (((iadd .i64 s1.1.1 1), ()), ((s1.2.1.1, (s1.2.1.2.1, ())), ()))) (some (Option.some (((s1.2.1.1, (s1.2.1.2.1, ())), ()), (s1.1.1, ())))))) (cond (ieq y1.1 46) (rec1 (((iadd .i64 s1.1.1 1), ()), ((s1.2.1.1, (s1.2.1.2.1, ())), ()))) (some (Option.some (((s1.2.1.1, (s1.2.1.2.1, ())), ()), (s1.1.1, ()))))))) (cond (ile 48 y1.1) (cond (ile y1.1 57) (rec1 (((iadd .i64 s1.1.1 1), ()), ((s1.2.1.1, (s1.2.1.2.1, ())), ()))) (cond (ieq y1.1 46) (rec1 (((iadd .i64 s1.1.1 1), ()), ((s1.2.1.1, (s1.2.1.2.1, ())), ()))) (some (Option.some (((s1.2.1.1, (s1.2.1.2.1, ())), ()), (s1.1.1, ())))))) (cond (ieq y1.1 46) (rec1 (((iadd .i64 s1.1.1 1), ()), ((s1.2.1.1, (s1.2.1.2.1, ())), ()))) (some (Option.some (((s1.2.1.1, (s1.2.1.2.1, ())), ()), (s1.1.1, ())))))))) (cond (ile 65 y1.1) (cond (ile y1.1 90) (rec1 (((iadd .i64 s1.1.1 1), ()), ((s1.2.1.1, (s1.2.1.2.1, ())), ()))) (cond (ile 48 y1.1) (cond (ile y1.1 57) (rec1 (((iadd .i64 s1.1.1 1), ()), ((s1.2.1.1, (s1.2.1.2.1, ())), ()))) (cond (ieq y1.1 46) (rec1 (((iadd .i64 s1.1.1 1), ()), ((s1.2.1.1, (s1.2.1.2.1, ())), ()))) (some (Option.some (((s1.2.1.1, (s1.2.1.2.1, ())), ()), (s1.1.1, ())))))) (cond (ieq y1.1 46) (rec1 (((iadd .i64 s1.1.1 1), ()), ((s1.2.1.1, (s1.2.1.2.1, ())), ()))) (some (Option.some (((s1.2.1.1, (s1.2.1.2.1, ())), ()), (s1.1.1, ()))))))) (cond (ile 48 y1.1) (cond (ile y1.1 57) (rec1 (((iadd .i64 s1.1.1 1), ()), ((s1.2.1.1, (s1.2.1.2.1, ())), ()))) (cond (ieq y1.1 46) (rec1 (((iadd .i64 s1.1.1 1), ()), ((s1.2.1.1, (s1.2.1.2.1, ())), ()))) (some (Option.some (((s1.2.1.1, (s1.2.1.2.1, ())), ()), (s1.1.1, ())))))) (cond (ieq y1.1 46) (rec1 (((iadd .i64 s1.1.1 1), ()), ((s1.2.1.1, (s1.2.1.2.1, ())), ()))) (some (Option.some (((s1.2.1.1, (s1.2.1.2.1, ())), ()), (s1.1.1, ())))))))))) ((1, ()), ((x.1.1, (x.1.2.1, ())), ())))) (Option.bind (c88 (0, ()) x.1.1 x.1.2.1) fun y1 => cond (ine y1.1 46) (some (Option.some (((x.1.1, (x.1.2.1, ())), ()), (0, ())))) (Option.bind (c88 (1, ()) x.1.1 x.1.2.1) fun y2 => cond (ile 48 y2.1) (cond (!(ile y2.1 57)) (some (Option.some (((x.1.1, (x.1.2.1, ())), ()), (0, ())))) (iter fu (fun (rec1 : ((Int × Unit) × ((Str × (Int × Unit)) × Unit)) → Option (Option (((Str × (Int × Unit)) × Unit) × (Int × Unit)))) (s1 : ((Int × Unit) × ((Str × (Int × Unit)) × Unit))) => Option.bind (c88 (s1.1.1, ()) s1.2.1.1 s1.2.1.2.1) fun y3 => Option.bind (c88 ((iadd .i64 s1.1.1 1), ()) s1.2.1.1 s1.2.1.2.1) fun y4 => Option.bind (c90 ([101, 69, 112, 80], (y3.1, ()))) fun y5 => cond (ile 0 y5.1) (cond (ieq y4.1 43) (rec1 (((iadd .i64 s1.1.1 2), ()), ((s1.2.1.1, (s1.2.1.2.1, ())), ()))) (cond (ieq y4.1 45) (rec1 (((iadd .i64 s1.1.1 2), ()), ((s1.2.1.1, (s1.2.1.2.1, ())), ()))) (cond (ieq y3.1 95) (rec1 (((iadd .i64 s1.1.1 1), ()), ((s1.2.1.1, (s1.2.1.2.1, ())), ()))) (cond (ile 97 y3.1) (cond (ile y3.1 122) (rec1 (((iadd .i64 s1.1.1 1), ()), ((s1.2.1.1, (s1.2.1.2.1, ())), ()))) (cond (ile 65 y3.1) (cond (ile y3.1 90) (rec1 (((iadd .i64 s1.1.1 1), ()), ((s1.2.1.1, (s1.2.1.2.1, ())), ()))) (cond (ile 48 y3.1) (cond (ile y3.1 57) (rec1 (((iadd .i64 s1.1.1 1), ()), ((s1.2.1.1, (s1.2.1.2.1, ())), ()))) (cond (ieq y3.1 46) (rec1 (((iadd .i64 s1.1.1 1), ()), ((s1.2.1.1, (s1.2.1.2.1, ())), ()))) (some (Option.some (((s1.2.1.1, (s1.2.1.2.1, ())), ()), (s1.1.1, ())))))) (cond (ieq y3.1 46) (rec1 (((iadd .i64 s1.1.1 1), ()), ((s1.2.1.1, (s1.2.1.2.1, ())), ()))) (some (Option.some (((s1.2.1.1, (s1.2.1.2.1, ())), ()), (s1.1.1, ()))))))) (cond (ile 48 y3.1) (cond (ile y3.1 57) (rec1 (((iadd .i64 s1.1.1 1), ()), ((s1.2.1.1, (s1.2.1.2.1, ())), ()))) (cond (ieq y3.1 46) (rec1 (((iadd .i64 s1.1.1 1), ()), ((s1.2.1.1, (s1.2.1.2.1, ())), ()))) (some (Option.some (((s1.2.1.1, (s1.2.1.2.1, ())), ()), (s1.1.1, ())))))) (cond (ieq y3.1 46) (rec1 (((iadd .i64 s1.1.1 1), ()), ((s1.2.1.1, (s1.2.1.2.1, ())), ()))) (some (Option.some (((s1.2.1.1, (s1.2.1.2.1, ())), ()), (s1.1.1, ())))))))) (cond (ile 65 y3.1) (cond (ile y3.1 90) (rec1 (((iadd .i64 s1.1.1 1), ()), ((s1.2.1.1, (s1.2.1.2.1, ())), ()))) (cond (ile 48 y3.1) (cond (ile y3.1 57) (rec1 (((iadd .i64 s1.1.1 1), ()), ((s1.2.1.1, (s1.2.1.2.1, ())), ()))) (cond (ieq y3.1 46) (rec1 (((iadd .i64 s1.1.1 1), ()), ((s1.2.1.1, (s1.2.1.2.1, ())), ()))) (some (Option.some (((s1.2.1.1, (s1.2.1.2.1, ())), ()), (s1.1.1, ())))))) (cond (ieq y3.1 46) (rec1 (((iadd .i64 s1.1.1 1), ()), ((s1.2.1.1, (s1.2.1.2.1, ())), ()))) (some (Option.some (((s1.2.1.1, (s1.2.1.2.1, ())), ()), (s1.1.1, ()))))))) (cond (ile 48 y3.1) (cond (ile y3.1 57) (rec1 (((iadd .i64 s1.1.1 1), ()), ((s1.2.1.1, (s1.2.1.2.1, ())), ()))) (cond (ieq y3.1 46) (rec1 (((iadd .i64 s1.1.1 1), ()), ((s1.2.1.1, (s1.2.1.2.1, ())), ()))) (some (Option.some (((s1.2.1.1, (s1.2.1.2.1, ())), ()), (s1.1.1, ())))))) (cond (ieq y3.1 46) (rec1 (((iadd .i64 s1.1.1 1), ()), ((s1.2.1.1, (s1.2.1.2.1, ())), ()))) (some (Option.some (((s1.2.1.1, (s1.2.1.2.1, ())), ()), (s1.1.1, ()))))))))))) (cond (ieq y3.1 95) (rec1 (((iadd .i64 s1.1.1 1), ()), ((s1.2.1.1, (s1.2.1.2.1, ())), ()))) (cond (ile 97 y3.1) (cond (ile y3.1 122) (rec1 (((iadd .i64 s1.1.1 1), ()), ((s1.2.1.1, (s1.2.1.2.1, ())), ()))) (cond (ile 65 y3.1) (cond (ile y3.1 90) (rec1 (((iadd .i64 s1.1.1 1), ()), ((s1.2.1.1, (s1.2.1.2.1, ())), ()))) (cond (ile 48 y3.1) (cond (ile y3.1 57) (rec1 (((iadd .i64 s1.1.1 1), ()), ((s1.2.1.1, (s1.2.1.2.1, ())), ()))) (cond (ieq y3.1 46) (rec1 (((iadd .i64 s1.1.1 1), ()), ((s1.2.1.1, (s1.2.1.2.1, ())), ()))) (some (Option.some (((s1.2.1.1, (s1.2.1.2.1, ())), ()), (s1.1.1, ())))))) (cond (ieq y3.1 46) (rec1 (((iadd .i64 s1.1.1 1), ()), ((s1.2.1.1, (s1.2.1.2.1, ())), ()))) (some (Option.some (((s1.2.1.1, (s1.2.1.2.1, ())), ()), (s1.1.1, ()))))))) (cond (ile 48 y3.1) (cond (ile y3.1 57) (rec1 (((iadd .i64 s1.1.1 1), ()), ((s1.2.1.1, (s1.2.1.2.1, ())), ()))) (cond (ieq y3.1 46) (rec1 (((iadd .i64 s1.1.1 1), ()), ((s1.2.1.1, (s1.2.1.2.1, ())), ()))) (some (Option.some (((s1.2.1.1, (s1.2.1.2.1, ())), ()), (s1.1.1, ())))))) (cond (ieq y3.1 46) (rec1 (((iadd .i64 s1.1.1 1), ()), ((s1.2.1.1, (s1.2.1.2.1, ())), ()))) (some (Option.some (((s1.2.1.1, (s1.2.1.2.1, ())), ()), (s1.1.1, ())))))))) (cond (ile 65 y3.1) (cond (ile y3.1 90) (rec1 (((iadd .i64 s1.1.1 1), ()), ((s1.2.1.1, (s1.2.1.2.1, ())), ()))) (cond (ile 48 y3.1) (cond (ile y3.1 57) (rec1 (((iadd .i64 s1.1.1 1), ()), ((s1.2.1.1, (s1.2.1.2.1, ())), ()))) (cond (ieq y3.1 46) (rec1 (((iadd .i64 s1.1.1 1), ()), ((s1.2.1.1, (s1.2.1.2.1, ())), ()))) (some (Option.some (((s1.2.1.1, (s1.2.1.2.1, ())), ()), (s1.1.1, ())))))) (cond (ieq y3.1 46) (rec1 (((iadd .i64 s1.1.1 1), ()), ((s1.2.1.1, (s1.2.1.2.1, ())), ()))) (some (Option.some (((s1.2.1.1, (s1.2.1.2.1, ())), ()), (s1.1.1, ()))))))) (cond (ile 48 y3.1) (cond (ile y3.1 57) (rec1 (((iadd .i64 s1.1.1 1), ()), ((s1.2.1.1, (s1.2.1.2.1, ())), ()))) (cond (ieq y3.1 46) (rec1 (((iadd .i64 s1.1.1 1), ()), ((s1.2.1.1, (s1.2.1.2.1, ())), ()))) (some (Option.some (((s1.2.1.1, (s1.2.1.2.1, ())), ()), (s1.1.1, ())))))) (cond (ieq y3.1 46) (rec1 (((iadd .i64 s1.1.1 1), ()), ((s1.2.1.1, (s1.2.1.2.1, ())), ()))) (some (Option.some (((s1.2.1.1, (s1.2.1.2.1, ())), ()), (s1.1.1, ())))))))))) ((1, ()), ((x.1.1, (x.1.2.1, ())), ())))) (some (Option.some (((x.1.1, (x.1.2.1, ())), ()), (0, ()))))))
theorem eq93 : @run93 = @sh93 := by kernel_rfl
def sh94 (fu : Nat) (c88 : (Int × Unit) → Str → Int → (Option (Int × Unit))) (x : ((Str × (Int × Unit)) × Unit)) (a : (Int × Unit)) : (Option (Option (((Str × (Int × Unit)) × Unit) × (Int × Unit)))) := cond (ieq x.1.2.1 (lenI x.1.1)) (some (Option.some (((x.1.1, (x.1.2.1, ())), ()), (0, ())))) (Option.bind (c88 (0, ()) x.1.1 x.1.2.1) fun y0 => cond (ine y0.1 a.1) (some (Option.some (((x.1.1, (x.1.2.1, ())), ()), (0, ())))) (iter fu (fun (rec1 : ((Int × Unit) × ((Str × (Int × Unit)) × Unit)) → Option (Option (((Str × (Int × Unit)) × Unit) × (Int × Unit)))) (s1 : ((Int × Unit) × ((Str × (Int × Unit)) × Unit))) => cond (ilt (iadd .i64 s1.2.1.2.1 s1.1.1) (lenI s1.2.1.1)) (Option.bind (c88 (s1.1.1, ()) s1.2.1.1 s1.2.1.2.1) fun y1 => cond (ieq y1.1 a.1) (cond (ieq a.1 39) (cond (ieq s1.1.1 1) (some (Option.some (((s1.2.1.1, (s1.2.1.2.1, ())), ()), (0, ())))) (some (Option.some (((s1.2.1.1, (s1.2.1.2.1, ())), ()), ((iadd .i64 s1.1.1 1), ()))))) (some (Option.some (((s1.2.1.1, (s1.2.1.2.1, ())), ()), ((iadd .i64 s1.1.1 1), ()))))) (cond (ieq y1.1 10) (some (Option.some (((s1.2.1.1, (s1.2.1.2.1, ())), ()), (0, ())))) (cond (ieq y1.1 92) (Option.bind (c88 ((iadd .i64 s1.1.1 1), ()) s1.2.1.1 s1.2.1.2.1) fun y2 => cond (ieq y2.1 10) (cond (ilt (iadd .i64 s1.2.1.2.1 (iadd .i64 s1.1.1 1)) (lenI s1.2.1.1)) (some (Option.some (((s1.2.1.1, (s1.2.1.2.1, ())), ()), (0, ())))) (rec1 (((iadd .i64 (iadd .i64 s1.1.1 1) 1), ()), ((s1.2.1.1, (s1.2.1.2.1, ())), ())))) (rec1 (((iadd .i64 (iadd .i64 s1.1.1 1) 1), ()), ((s1.2.1.1, (s1.2.1.2.1, ())), ())))) (rec1 (((iadd .i64 s1.1.1 1), ()), ((s1.2.1.1, (s1.2.1.2.1, ())), ())))))) (some (Option.some (((s1.2.1.1, (s1.2.1.2.1, ())), ()), (0, ()))))) ((1, ()), ((x.1.1, (x.1.2.1, ())), ()))))
theorem eq94 : @run94 = @sh94 := by kernel_rfl
def sh95 (fu : Nat) (c89 : (Str × Unit) → Str → Int → (Option ((Bool × Unit) × Int))) (x : ((Str × (Int × Unit)) × Unit)) (a : Unit) : (Option (Option (((Str × (Int × Unit)) × Unit) × (Int × Unit)))) := iter fu (fun (rec1 : ((Int × (Int × Unit)) × ((Str × (Int × Unit)) × Unit)) → Option (Option (((Str × (Int × Unit)) × Unit) × (Int × Unit)))) (s1 : ((Int × (Int × Unit)) × ((Str × (Int × Unit)) × Unit))) => cond (ilt s1.1.2.1 48) (cond (inB s1.1.2.1 48) (cond (ile (lenI (α := UInt8) (List.getD [[46, 46, 46], [60, 60, 61], [62, 62, 61], [45, 62], [43, 43], [45, 45], [60, 60], [62, 62], [60, 61], [62, 61], [61, 61], [33, 61], [38, 38], [124, 124], [42, 61], [47, 61], [37, 61], [43, 61], [45, 61], [38, 61], [94, 61], [124, 61], [35, 35], [91], [93], [40], [41], [123], [125], [46], [38], [42], [43], [45], [126], [33], [47], [37], [60], [62], [94], [124], [63], [58], [59], [61], [44], [35]] (Int.toNat s1.1.2.1) [])) s1.1.1) (rec1 ((s1.1.1, ((iadd .i64 s1.1.2.1 1), ())), ((s1.2.1.1, (s1.2.1.2.1, ())), ()))) (Option.bind (c89 ((List.getD [[46, 46, 46], [60, 60, 61], [62, 62, 61], [45, 62], [43, 43], [45, 45], [60, 60], [62, 62], [60, 61], [62, 61], [61, 61], [33, 61], [38, 38], [124, 124], [42, 61], [47, 61], [37, 61], [43, 61], [45, 61], [38, 61], [94, 61], [124, 61], [35, 35], [91], [93], [40], [41], [123], [125], [46], [38], [42], [43], [45], [126], [33], [47], [37], [60], [62], [94], [124], [63], [58], [59], [61], [44], [35]] (Int.toNat s1.1.2.1) []), ()) s1.2.1.1 s1.2.1.2.1) fun y0 => cond (!y0.1.1) (rec1 ((s1.1.1, ((iadd .i64 s1.1.2.1 1), ())), ((s1.2.1.1, (y0.2, ())), ()))) (rec1 (((lenI (α := UInt8) (List.getD [[46, 46, 46], [60, 60, 61], [62, 62, 61], [45, 62], [43, 43], [45, 45], [60, 60], [62, 62], [60, 61], [62, 61], [61, 61], [33, 61], [38, 38], [124, 124], [42, 61], [47, 61], [37, 61], [43, 61], [45, 61], [38, 61], [94, 61], [124, 61], [35, 35], [91], [93], [40], [41], [123], [125], [46], [38], [42], [43], [45], [126], [33], [47], [37], [60], [62], [94], [124], [63], [58], [59], [61], [44], [35]] (Int.toNat s1.1.2.1) [])), ((iadd .i64 s1.1.2.1 1), ())), ((s1.2.1.1, (y0.2, ())), ()))))) (none)) (some (Option.some (((s1.2.1.1, (s1.2.1.2.1, ())), ()), (s1.1.1, ()))))) ((0, (0, ())), ((x.1.1, (x.1.2.1, ())), ()))
theorem eq95 : @run95 = @sh95 := by kernel_rfl
def sh65 (fu : Nat) (c89 : (Str × Unit) → Str → Int → (Option ((Bool × Unit) × Int))) (c92 : Unit → Str → Int → (Option ((Int × Unit) × Int))) (c93 : Unit → Str → Int → (Option ((Int × Unit) × Int))) (c94 : (Int × Unit) → Str → Int → (Option ((Int × Unit) × Int))) (c95 : Unit → Str → Int → (Option ((Int × Unit) × Int))) (x : ((Str × (Int × Unit)) × Unit)) (a : Unit) : (Option (Option (((Str × (Int × Unit)) × Unit) × (Int × (Int × Unit))))) := Option.bind (c89 ([10], ()) x.1.1 x.1.2.1) fun y0 => cond y0.1.1 (some (Option.some (((x.1.1, (y0.2, ())), ()), (7, (1, ()))))) (Option.bind (c92 () x.1.1 y0.2) fun y1 => cond (ilt 0 y1.1.1) (some (Option.some (((x.1.1, (y1.2, ())), ()), (1, (y1.1.1, ()))))) (Option.bind (c93 () x.1.1 y1.2) fun y2 => cond (ilt 0 y2.1.1) (some (Option.some (((x.1.1, (y2.2, ())), ()), (2, (y2.1.1, ()))))) (Option.bind (c94 (34, ()) x.1.1 y2.2) fun y3 => cond (ilt 0 y3.1.1) (some (Option.some (((x.1.1, (y3.2, ())), ()), (4, (y3.1.1, ()))))) (Option.bind (c94 (39, ()) x.1.1 y3.2) fun y4 => cond (ilt 0 y4.1.1) (some (Option.some (((x.1.1, (y4.2, ())), ()), (3, (y4.1.1, ()))))) (Option.bind (c95 () x.1.1 y4.2) fun y5 => cond (ilt 0 y5.1.1) (some (Option.some (((x.1.1, (y5.2, ())), ()), (5, (y5.1.1, ()))))) (some (Option.some (((x.1.1, (y5.2, ())), ()), (6, (1, ()))))))))))
theorem eq65 : @run65 = @sh65 := by kernel_rfl
def sh64 (fu : Nat) (c90 : (Str × (Int × Unit)) → (Option (Int × Unit))) (c91 : (Str × (Str × Unit)) → (Option (Int × Unit))) (c88 : (Int × Unit) → Str → Int → (Option (Int × Unit))) (c89 : (Str × Unit) → Str → Int → (Option ((Bool × Unit) × Int))) (x : ((Str × (Int × Unit)) × Unit)) (a : Unit) : (Option (Option (((Str × (Int × Unit)) × Unit) × (Bool × Unit)))) := joinC (fun (join0 : (Unit × ((Str × (Int × Unit)) × Unit)) → Option (Option (((Str × (Int × Unit)) × Unit) × (Bool × Unit)))) => Option.bind (c88 (0, ()) x.1.1 x.1.2.1) fun y0 => joinC (fun (join1 : ((Bool × Unit) × ((Str × (Int × Unit)) × Unit)) → Option (Option (((Str × (Int × Unit)) × Unit) × (Bool × Unit)))) => cond (ieq y0.1 32) (join1 ((true, ()), ((x.1.1, (x.1.2.1, ())), ()))) (cond (ieq y0.1 9) (join1 ((true, ()), ((x.1.1, (x.1.2.1, ())), ()))) (cond (ieq y0.1 11) (join1 ((true, ()), ((x.1.1, (x.1.2.1, ())), ()))) (cond (ieq y0.1 12) (join1 ((true, ()), ((x.1.1, (x.1.2.1, ())), ()))) (join1 (((ieq y0.1 13), ()), ((x.1.1, (x.1.2.1, ())), ()))))))) (fun (t0 : ((Bool × Unit) × ((Str × (Int × Unit)) × Unit))) => cond t0.1.1 (some (Option.some (((t0.2.1.1, ((iadd .i64 t0.2.1.2.1 1), ())), ()), (true, ())))) (join0 ((), ((t0.2.1.1, (t0.2.1.2.1, ())), ()))))) (fun (t0 : (Unit × ((Str × (Int × Unit)) × Unit))) => Option.bind (c89 ([47, 47], ()) t0.2.1.1 t0.2.1.2.1) fun y0 => cond y0.1.1 (cond (inS y0.2 (lenI t0.2.1.1) (List.length t0.2.1.1)) (Option.bind (c90 ((cutL t0.2.1.1 y0.2 (lenI t0.2.1.1)), (10, ()))) fun y1 => joinC (fun (join0 : ((Int × Unit) × ((Str × (Int × Unit)) × Unit)) → Option (Option (((Str × (Int × Unit)) × Unit) × (Bool × Unit)))) => cond (ilt y1.1 0) (join0 (((isub .i64 (lenI t0.2.1.1) y0.2), ()), ((t0.2.1.1, (y0.2, ())), ()))) (join0 ((y1.1, ()), ((t0.2.1.1, (y0.2, ())), ())))) (fun (t1 : ((Int × Unit) × ((Str × (Int × Unit)) × Unit))) => some (Option.some (((t1.2.1.1, ((iadd .i64 t1.2.1.2.1 t1.1.1), ())), ()), (true, ()))))) (none)) (Option.bind (c89 ([47, 42], ()) t0.2.1.1 y0.2) fun y1 => cond (!y1.1.1) (some (Option.some (((t0.2.1.1, (y1.2, ())), ()), (false, ())))) (cond (inS (iadd .i64 y1.2 2) (lenI t0.2.1.1) (List.length t0.2.1.1)) (Option.bind (c91 ((cutL t0.2.1.1 (iadd .i64 y1.2 2) (lenI t0.2.1.1)), ([42, 47], ()))) fun y2 => cond (ilt y2.1 0) (some (Option.some (((t0.2.1.1, (y1.2, ())), ()), (false, ())))) (some (Option.some (((t0.2.1.1, ((iadd .i64 y1.2 (iadd .i64 y2.1 4)), ())), ()), (true, ()))))) (none))))
theorem eq64 : @run64 = @sh64 := by kernel_rfl
theorem con89 (fu : Nat)  : CPOk CC Tryz.prog syn 89 (cD kS kB (mD (sh89 fu))) :=
  cD_of (runP_ok (syn := syn) (fu := fu) (d := 4) (inl := findF [(119, fd119), (132, fd132)]) (orc := findF []) (orr := findF []) (orp := findF []) (pf := hasN []) (rf := hasN []) Tb_ok CCok mixed (fun g => (findF_some (α := Con UU) (l := []) g).symm) (fun g => (findF_some (α := CR UU) (l := []) g).symm) (findF_cons fdok89_119 (findF_cons fdok89_132 (findF_nil))) (findF_nil) (findF_nil) (findF_nil) fdok89 (by show ([rdK] : LK).length + (kS : LK).length ≤ 16; decide) (fun x a => by show run89 fu x a = sh89 fu x a; rw [eq89]))
theorem con92 (fu : Nat) (c88 : denKs kI → Str → Int → Option (denKs ([.int .u8] : LK))) (h88 : CROk CC Tryz.prog 88 (cRD kI ([.int .u8] : LK) c88)) : CPOk CC Tryz.prog syn 92 (cD k0 kI (mD (sh92 fu c88))) :=
  cD_of (runP_ok (syn := syn) (fu := fu) (d := 4) (inl := findF [(122, fd122), (123, fd123)]) (orc := findF []) (orr := findF [(88, cRD kI ([.int .u8] : LK) c88)]) (orp := findF []) (pf := hasN []) (rf := hasN [88]) Tb_ok CCok mixed (fun g => (findF_some (α := Con UU) (l := []) g).symm) (fun g => (findF_some (α := CR UU) (l := [(88, cRD kI ([.int .u8] : LK) c88)]) g).symm) (findF_cons fdok92_122 (findF_cons fdok92_123 (findF_nil))) (findF_nil) (findF_cons ⟨code88, h88⟩ (findF_nil)) (findF_nil) fdok92 (by show ([rdK] : LK).length + (k0 : LK).length ≤ 21; decide) (fun x a => by show run92 fu c88 x a = sh92 fu c88 x a; rw [eq92]))
theorem con93 (fu : Nat) (c90 : denAs as90 → Option (denAs rs90)) (h90 : ConOk CC Tryz.prog 90 ⟨as90, rs90, c90⟩) (c88 : denKs kI → Str → Int → Option (denKs ([.int .u8] : LK))) (h88 : CROk CC Tryz.prog 88 (cRD kI ([.int .u8] : LK) c88)) : CPOk CC Tryz.prog syn 93 (cD k0 kI (mD (sh93 fu c90 c88))) :=
  cD_of (runP_ok (syn := syn) (fu := fu) (d := 4) (inl := findF [(122, fd122), (123, fd123)]) (orc := findF [(90, (⟨as90, rs90, c90⟩ : Con UU))]) (orr := findF [(88, cRD kI ([.int .u8] : LK) c88)]) (orp := findF []) (pf := hasN [90]) (rf := hasN [88]) Tb_ok CCok mixed (fun g => (findF_some (α := Con UU) (l := [(90, (⟨as90, rs90, c90⟩ : Con UU))]) g).symm) (fun g => (findF_some (α := CR UU) (l := [(88, cRD kI ([.int .u8] : LK) c88)]) g).symm) (findF_cons fdok93_122 (findF_cons fdok93_123 (findF_nil))) (findF_cons ⟨code90, h90⟩ (findF_nil)) (findF_cons ⟨code88, h88⟩ (findF_nil)) (findF_nil) fdok93 (by show ([rdK] : LK).length + (k0 : LK).length ≤ 56; decide) (fun x a => by show run93 fu c90 c88 x a = sh93 fu c90 c88 x a; rw [eq93]))
theorem con94 (fu : Nat) (c88 : denKs kI → Str → Int → Option (denKs ([.int .u8] : LK))) (h88 : CROk CC Tryz.prog 88 (cRD kI ([.int .u8] : LK) c88)) : CPOk CC Tryz.prog syn 94 (cD ([.int .u8] : LK) kI (mD (sh94 fu c88))) :=
  cD_of (runP_ok (syn := syn) (fu := fu) (d := 2) (inl := findF []) (orc := findF []) (orr := findF [(88, cRD kI ([.int .u8] : LK) c88)]) (orp := findF []) (pf := hasN []) (rf := hasN [88]) Tb_ok CCok mixed (fun g => (findF_some (α := Con UU) (l := []) g).symm) (fun g => (findF_some (α := CR UU) (l := [(88, cRD kI ([.int .u8] : LK) c88)]) g).symm) (findF_nil) (findF_nil) (findF_cons ⟨code88, h88⟩ (findF_nil)) (findF_nil) fdok94 (by show ([rdK] : LK).length + (([.int .u8] : LK) : LK).length ≤ 74; decide) (fun x a => by show run94 fu c88 x a = sh94 fu c88 x a; rw [eq94]))
theorem con95 (fu : Nat) (c89 : denKs kS → DD (denKs kB)) (h89 : CPOk CC Tryz.prog syn 89 (cD kS kB c89)) : CPOk CC Tryz.prog syn 95 (cD k0 kI (mD (sh95 fu c89))) :=
  cD_of (runP_ok (syn := syn) (fu := fu) (d := 2) (inl := findF []) (orc := findF []) (orr := findF []) (orp := findF [(89, cD kS kB c89)]) (pf := hasN []) (rf := hasN []) Tb_ok CCok mixed (fun g => (findF_some (α := Con UU) (l := []) g).symm) (fun g => (findF_some (α := CR UU) (l := []) g).symm) (findF_nil) (findF_nil) (findF_nil) (findF_cons ⟨code89, h89⟩ (findF_nil)) fdok95 (by show ([rdK] : LK).length + (k0 : LK).length ≤ 24; decide) (fun x a => by show run95 fu c89 x a = sh95 fu c89 x a; rw [eq95]))
theorem con65 (fu : Nat) (c89 : denKs kS → DD (denKs kB)) (h89 : CPOk CC Tryz.prog syn 89 (cD kS kB c89)) (c92 : denKs k0 → DD (denKs kI)) (h92 : CPOk CC Tryz.prog syn 92 (cD k0 kI c92)) (c93 : denKs k0 → DD (denKs kI)) (h93 : CPOk CC Tryz.prog syn 93 (cD k0 kI c93)) (c94 : denKs ([.int .u8] : LK) → DD (denKs kI)) (h94 : CPOk CC Tryz.prog syn 94 (cD ([.int .u8] : LK) kI c94)) (c95 : denKs k0 → DD (denKs kI)) (h95 : CPOk CC Tryz.prog syn 95 (cD k0 kI c95)) : CPOk CC Tryz.prog syn 65 (cD k0 ([.int .i64, .int .i64] : LK) (mD (sh65 fu c89 c92 c93 c94 c95))) :=
  cD_of (runP_ok (syn := syn) (fu := fu) (d := 2) (inl := findF []) (orc := findF []) (orr := findF []) (orp := findF [(89, cD kS kB c89), (92, cD k0 kI c92), (93, cD k0 kI c93), (94, cD ([.int .u8] : LK) kI c94), (95, cD k0 kI c95)]) (pf := hasN []) (rf := hasN []) Tb_ok CCok mixed (fun g => (findF_some (α := Con UU) (l := []) g).symm) (fun g => (findF_some (α := CR UU) (l := []) g).symm) (findF_nil) (findF_nil) (findF_nil) (findF_cons ⟨code89, h89⟩ (findF_cons ⟨code92, h92⟩ (findF_cons ⟨code93, h93⟩ (findF_cons ⟨code94, h94⟩ (findF_cons ⟨code95, h95⟩ (findF_nil)))))) fdok65 (by show ([rdK] : LK).length + (k0 : LK).length ≤ 36; decide) (fun x a => by show run65 fu c89 c92 c93 c94 c95 x a = sh65 fu c89 c92 c93 c94 c95 x a; rw [eq65]))
theorem con64 (fu : Nat) (c90 : denAs as90 → Option (denAs rs90)) (h90 : ConOk CC Tryz.prog 90 ⟨as90, rs90, c90⟩) (c91 : denAs as91 → Option (denAs rs91)) (h91 : ConOk CC Tryz.prog 91 ⟨as91, rs91, c91⟩) (c88 : denKs kI → Str → Int → Option (denKs ([.int .u8] : LK))) (h88 : CROk CC Tryz.prog 88 (cRD kI ([.int .u8] : LK) c88)) (c89 : denKs kS → DD (denKs kB)) (h89 : CPOk CC Tryz.prog syn 89 (cD kS kB c89)) : CPOk CC Tryz.prog syn 64 (cD k0 kB (mD (sh64 fu c90 c91 c88 c89))) :=
  cD_of (runP_ok (syn := syn) (fu := fu) (d := 2) (inl := findF []) (orc := findF [(90, (⟨as90, rs90, c90⟩ : Con UU)), (91, (⟨as91, rs91, c91⟩ : Con UU))]) (orr := findF [(88, cRD kI ([.int .u8] : LK) c88)]) (orp := findF [(89, cD kS kB c89)]) (pf := hasN [90, 91]) (rf := hasN [88]) Tb_ok CCok mixed (fun g => (findF_some (α := Con UU) (l := [(90, (⟨as90, rs90, c90⟩ : Con UU)), (91, (⟨as91, rs91, c91⟩ : Con UU))]) g).symm) (fun g => (findF_some (α := CR UU) (l := [(88, cRD kI ([.int .u8] : LK) c88)]) g).symm) (findF_nil) (findF_cons ⟨code90, h90⟩ (findF_cons ⟨code91, h91⟩ (findF_nil))) (findF_cons ⟨code88, h88⟩ (findF_nil)) (findF_cons ⟨code89, h89⟩ (findF_nil)) fdok64 (by show ([rdK] : LK).length + (k0 : LK).length ≤ 77; decide) (fun x a => by show run64 fu c90 c91 c88 c89 x a = sh64 fu c90 c91 c88 c89 x a; rw [eq64]))
end Go.Proofs.YtnamdpbcpnnhaaaGreatDoor
end
section
set_option linter.unusedVariables false
set_option linter.unusedSimpArgs false
namespace Go.Proofs.YtnamdpbcpnnhaaaGreatDoor
open Go.Al Go.Den
abbrev as18 : List (AK UU) := [.str]
abbrev rs18 : List (AK UU) := [.dl TI.tok]
abbrev as39 : List (AK UU) := [.int .i64, .str]
abbrev rs39 : List (AK UU) := [.dl TI.tok]
abbrev as62 : List (AK UU) := [.str]
abbrev rs62 : List (AK UU) := [.dl TI.char]
abbrev as63 : List (AK UU) := [.dl TI.char]
abbrev rs63 : List (AK UU) := [.str]
def kf18 : Nat → List Nat
  | 0 => [0]
  | 1 => [3]
  | 2 => [3, 4]
  | 3 => [3, 4, 5]
  | 4 => [3, 4, 5, 11]
  | 5 => [3, 4, 5]
  | 6 => [3, 4, 5, 19]
  | 7 => [3, 4, 5]
  | 8 => [2]
  | _ => []
def hd18 : List (Nat × Head UU) := [(4, ⟨[3], [(4, .ow true TI.tok), (5, .int .i64)], []⟩)]
def jn18 : List (Nat × Head UU) := []
noncomputable def fd18 : FD UU := ⟨⟨fun d => hasN [] d, fun d => hasN [] d, kf18, findF hd18, findF jn18, findL []⟩, bodyOf Tryz.f18, 28, [.tmp 2]⟩
def kf39 : Nat → List Nat
  | 0 => [0, 1]
  | 1 => [0, 5]
  | 2 => [0, 5, 6]
  | 3 => [0, 5, 6, 7]
  | 4 => [0, 5, 6, 7, 8]
  | 5 => [0, 5, 6, 7, 8, 32]
  | 6 => [0, 5, 6, 7, 8]
  | 7 => [0, 5, 6, 7, 8, 43]
  | 8 => [4]
  | 9 => [0, 5, 6, 7, 8, 9, 10]
  | 10 => [0, 5, 6, 7, 8, 10]
  | 11 => [0, 5, 6, 7, 8, 10]
  | 12 => [0, 5, 6, 7, 8]
  | 13 => [0, 5, 6, 7]
  | _ => []
def hd39 : List (Nat × Head UU) := [(4, ⟨[0, 5, 6], [(7, .ow true TI.tok)], [(6, rdK)]⟩), (5, ⟨[0, 5, 6, 8], [(7, .ow true TI.tok)], [(6, rdK), (8, .box [.int .i64, .str, .int .i64, .int .i64, .int .i64, .bool])]⟩)]
def jn39 : List (Nat × Head UU) := []
noncomputable def fd39 : FD UU := ⟨⟨fun d => hasN [] d, fun d => hasN [] d, kf39, findF hd39, findF jn39, findL [(10, [(1000066, 53, 6), (1000067, 53, 6), (1000066, 57, 6), (1000067, 57, 6), (1000066, 61, 6), (1000067, 61, 6)]), (11, [(1000088, 71, 6), (1000089, 71, 6), (1000088, 74, 6), (1000089, 74, 6), (1000088, 79, 6), (1000089, 79, 6), (1000088, 85, 6), (1000089, 85, 6)])]⟩, bodyOf Tryz.f39, 102, [.tmp 4]⟩
noncomputable def run39 (fu : Nat) (c62 : List UInt8 × Unit → Option (List CharT × Unit)) (c63 : List CharT × Unit → Option (List UInt8 × Unit)) (c64 : denKs ([] : LK) → DD (denKs ([.bool] : LK))) (c65 : denKs ([] : LK) → DD (denKs ([.int .i64, .int .i64] : LK))) (nf : Nat → Bool) (x0 : Int) (x1 : List UInt8) : Option (denAs rs39) :=
  runF2 CC Tb fu 2 (findF []) (findF [(62, (⟨as62, rs62, c62⟩ : Con UU)), (63, (⟨as63, rs63, c63⟩ : Con UU))]) (findF []) (findF [(64, cD ([] : LK) ([.bool] : LK) c64), (65, cD ([] : LK) ([.int .i64, .int .i64] : LK) c65)]) fd39 as39 rs39 nf (x0, x1, ())
theorem fdok39 : FDOk Tryz.prog (hasN [62, 63]) (hasN []) 39 fd39 := ⟨⟨Tryz.f39, Tryz.func39, by kernel_rfl, Tryz.ntmps39, Tryz.results39⟩, by kernel_rfl, by kernel_rfl, by kernel_rfl⟩
noncomputable def run18 (fu : Nat) (c39 : Int × List UInt8 × Unit → Option (List TokT × Unit)) (nf : Nat → Bool) (x0 : List UInt8) : Option (denAs rs18) :=
  runF2 CC Tb fu 2 (findF []) (findF [(39, (⟨as39, rs39, c39⟩ : Con UU))]) (findF []) (findF []) fd18 as18 rs18 nf (x0, ())
theorem fdok18 : FDOk Tryz.prog (hasN [39]) (hasN []) 18 fd18 := ⟨⟨Tryz.f18, Tryz.func18, by kernel_rfl, Tryz.ntmps18, Tryz.results18⟩, by kernel_rfl, by kernel_rfl, by kernel_rfl⟩
end Go.Proofs.YtnamdpbcpnnhaaaGreatDoor
end
section
set_option linter.unusedVariables false
set_option linter.unusedSimpArgs false
namespace Go.Proofs.YtnamdpbcpnnhaaaGreatDoor
open Go.Al Go.Den
def sh39 (fu : Nat) (c62 : (Str × Unit) → (Option ((List CharT) × Unit))) (c63 : ((List CharT) × Unit) → (Option (Str × Unit))) (c64 : Unit → Str → Int → (Option ((Bool × Unit) × Int))) (c65 : Unit → Str → Int → (Option ((Int × (Int × Unit)) × Int))) (nf : Nat → Bool) (x0 : Int) (x1 : Str) : (Option ((List TokT) × Unit)) := Option.bind (c62 (x1, ())) fun y0 => Option.bind (c63 (y0.1, ())) fun y1 => iter fu (fun (rec1 : (((List TokT) × Unit) × ((Str × (Int × Unit)) × Unit)) → Option ((List TokT) × Unit)) (s1 : (((List TokT) × Unit) × ((Str × (Int × Unit)) × Unit))) => iter fu (fun (rec2 : (((List TokT) × Unit) × ((Str × (Int × Unit)) × ((Int × (Str × (Int × (Int × (Int × (Bool × Unit)))))) × Unit))) → Option ((List TokT) × Unit)) (s2 : (((List TokT) × Unit) × ((Str × (Int × Unit)) × ((Int × (Str × (Int × (Int × (Int × (Bool × Unit)))))) × Unit)))) => cond (ilt s2.2.1.2.1 (lenI s2.2.1.1)) (Option.bind (c64 () s2.2.1.1 s2.2.1.2.1) fun y2 => cond y2.1.1 (rec2 ((s2.1.1, ()), ((s2.2.1.1, (y2.2, ())), ((s2.2.2.1.1, (s2.2.2.1.2.1, (s2.2.2.1.2.2.1, (s2.2.2.1.2.2.2.1, (s2.2.2.1.2.2.2.2.1, (true, ())))))), ())))) (cond (ile (lenI s2.2.1.1) y2.2) (some (s2.1.1, ())) (Option.bind (c65 () s2.2.1.1 y2.2) fun y3 => cond (inS y3.2 (iadd .i64 y3.2 y3.1.2.1) (List.length s2.2.1.1)) (cond (inB y3.2 (List.length y0.1)) (cond (inB (isub .i64 (iadd .i64 y3.2 y3.1.2.1) 1) (List.length y0.1)) (cond (okN 56 ((List.length s2.1.1) + (List.length [(TokT.mk y3.1.1 (cutL s2.2.1.1 y3.2 (iadd .i64 y3.2 y3.1.2.1)) s2.2.2.1.2.2.1 (CharT.fat (List.getD y0.1 (Int.toNat y3.2) charD)) (iadd .i64 (CharT.fat (List.getD y0.1 (Int.toNat (isub .i64 (iadd .i64 y3.2 y3.1.2.1) 1)) charD)) 1) s2.2.2.1.2.2.2.2.2.1)]))) (rec1 (((s2.1.1 ++ [(TokT.mk y3.1.1 (cutL s2.2.1.1 y3.2 (iadd .i64 y3.2 y3.1.2.1)) s2.2.2.1.2.2.1 (CharT.fat (List.getD y0.1 (Int.toNat y3.2) charD)) (iadd .i64 (CharT.fat (List.getD y0.1 (Int.toNat (isub .i64 (iadd .i64 y3.2 y3.1.2.1) 1)) charD)) 1) s2.2.2.1.2.2.2.2.2.1)]), ()), ((s2.2.1.1, ((iadd .i64 y3.2 y3.1.2.1), ())), ()))) (none)) (none)) (none)) (none)))) (cond (ile (lenI s2.2.1.1) s2.2.1.2.1) (some (s2.1.1, ())) (Option.bind (c65 () s2.2.1.1 s2.2.1.2.1) fun y2 => cond (inS y2.2 (iadd .i64 y2.2 y2.1.2.1) (List.length s2.2.1.1)) (cond (inB y2.2 (List.length y0.1)) (cond (inB (isub .i64 (iadd .i64 y2.2 y2.1.2.1) 1) (List.length y0.1)) (cond (okN 56 ((List.length s2.1.1) + (List.length [(TokT.mk y2.1.1 (cutL s2.2.1.1 y2.2 (iadd .i64 y2.2 y2.1.2.1)) s2.2.2.1.2.2.1 (CharT.fat (List.getD y0.1 (Int.toNat y2.2) charD)) (iadd .i64 (CharT.fat (List.getD y0.1 (Int.toNat (isub .i64 (iadd .i64 y2.2 y2.1.2.1) 1)) charD)) 1) s2.2.2.1.2.2.2.2.2.1)]))) (rec1 (((s2.1.1 ++ [(TokT.mk y2.1.1 (cutL s2.2.1.1 y2.2 (iadd .i64 y2.2 y2.1.2.1)) s2.2.2.1.2.2.1 (CharT.fat (List.getD y0.1 (Int.toNat y2.2) charD)) (iadd .i64 (CharT.fat (List.getD y0.1 (Int.toNat (isub .i64 (iadd .i64 y2.2 y2.1.2.1) 1)) charD)) 1) s2.2.2.1.2.2.2.2.2.1)]), ()), ((s2.2.1.1, ((iadd .i64 y2.2 y2.1.2.1), ())), ()))) (none)) (none)) (none)) (none)))) ((s1.1.1, ()), ((s1.2.1.1, (s1.2.1.2.1, ())), ((0, ([], (x0, (0, (0, (false, ())))))), ())))) (([], ()), ((y1.1, (0, ())), ()))
theorem eq39 : @run39 = @sh39 := by kernel_rfl
def sh18 (fu : Nat) (c39 : (Int × (Str × Unit)) → (Option ((List TokT) × Unit))) (nf : Nat → Bool) (x0 : Str) : (Option ((List TokT) × Unit)) := Option.bind (c39 (0, (x0, ()))) fun y0 => iter fu (fun (rec1 : (((List TokT) × (Int × Unit)) × Unit) → Option ((List TokT) × Unit)) (s1 : (((List TokT) × (Int × Unit)) × Unit)) => cond (ilt s1.1.2.1 (lenI y0.1)) (cond (inB s1.1.2.1 (List.length y0.1)) (cond (ine (TokT.kind (List.getD y0.1 (Int.toNat s1.1.2.1) tokD)) 7) (cond (inB s1.1.2.1 (List.length y0.1)) (cond (okN 56 ((List.length s1.1.1) + (List.length [(TokT.mk (TokT.kind (List.getD y0.1 (Int.toNat s1.1.2.1) tokD)) (TokT.text (List.getD y0.1 (Int.toNat s1.1.2.1) tokD)) (TokT.file (List.getD y0.1 (Int.toNat s1.1.2.1) tokD)) (TokT.ffrom (List.getD y0.1 (Int.toNat s1.1.2.1) tokD)) (TokT.fto (List.getD y0.1 (Int.toNat s1.1.2.1) tokD)) (TokT.blank (List.getD y0.1 (Int.toNat s1.1.2.1) tokD)))]))) (rec1 (((s1.1.1 ++ [(TokT.mk (TokT.kind (List.getD y0.1 (Int.toNat s1.1.2.1) tokD)) (TokT.text (List.getD y0.1 (Int.toNat s1.1.2.1) tokD)) (TokT.file (List.getD y0.1 (Int.toNat s1.1.2.1) tokD)) (TokT.ffrom (List.getD y0.1 (Int.toNat s1.1.2.1) tokD)) (TokT.fto (List.getD y0.1 (Int.toNat s1.1.2.1) tokD)) (TokT.blank (List.getD y0.1 (Int.toNat s1.1.2.1) tokD)))]), ((iadd .i64 s1.1.2.1 1), ())), ())) (none)) (none)) (rec1 ((s1.1.1, ((iadd .i64 s1.1.2.1 1), ())), ()))) (none)) (some (s1.1.1, ()))) (([], (0, ())), ())
theorem eq18 : @run18 = @sh18 := by kernel_rfl
theorem con39 (fu : Nat) (c62 : denAs as62 → Option (denAs rs62)) (h62 : ConOk CC Tryz.prog 62 ⟨as62, rs62, c62⟩) (c63 : denAs as63 → Option (denAs rs63)) (h63 : ConOk CC Tryz.prog 63 ⟨as63, rs63, c63⟩) (c64 : denKs k0 → DD (denKs kB)) (h64 : CPOk CC Tryz.prog syn 64 (cD k0 kB c64)) (c65 : denKs k0 → DD (denKs ([.int .i64, .int .i64] : LK))) (h65 : CPOk CC Tryz.prog syn 65 (cD k0 ([.int .i64, .int .i64] : LK) c65)) : ConOk CC Tryz.prog 39 ⟨as39, rs39, fun x => sh39 fu c62 c63 c64 c65 (fun _ => false) x.1 x.2.1⟩ :=
  runF2_ok (c := ⟨as39, rs39, fun x => sh39 fu c62 c63 c64 c65 (fun _ => false) x.1 x.2.1⟩) (syn := syn) (fu := fu) (d := 2) (inl := findF []) (orc := findF [(62, (⟨as62, rs62, c62⟩ : Con UU)), (63, (⟨as63, rs63, c63⟩ : Con UU))]) (orr := findF []) (orp := findF [(64, cD k0 kB c64), (65, cD k0 ([.int .i64, .int .i64] : LK) c65)]) (pf := hasN [62, 63]) (rf := hasN []) Tb_ok CCok mixed (fun g => (findF_some (α := Con UU) (l := [(62, (⟨as62, rs62, c62⟩ : Con UU)), (63, (⟨as63, rs63, c63⟩ : Con UU))]) g).symm) (fun g => (findF_some (α := CR UU) (l := []) g).symm) (findF_nil) (findF_cons ⟨code62, h62⟩ (findF_cons ⟨code63, h63⟩ (findF_nil))) (findF_nil) (findF_cons ⟨code64, h64⟩ (findF_cons ⟨code65, h65⟩ (findF_nil))) fdok39 (by show 2 ≤ 102; decide) (noLs_spec rfl) (fun nf x => by show run39 fu c62 c63 c64 c65 nf x.1 x.2.1 = _; rw [eq39]; rfl)
theorem con18 (fu : Nat) (c39 : denAs as39 → Option (denAs rs39)) (h39 : ConOk CC Tryz.prog 39 ⟨as39, rs39, c39⟩) : ConOk CC Tryz.prog 18 ⟨as18, rs18, fun x => sh18 fu c39 (fun _ => false) x.1⟩ :=
  runF2_ok (c := ⟨as18, rs18, fun x => sh18 fu c39 (fun _ => false) x.1⟩) (syn := syn) (fu := fu) (d := 2) (inl := findF []) (orc := findF [(39, (⟨as39, rs39, c39⟩ : Con UU))]) (orr := findF []) (orp := findF []) (pf := hasN [39]) (rf := hasN []) Tb_ok CCok mixed (fun g => (findF_some (α := Con UU) (l := [(39, (⟨as39, rs39, c39⟩ : Con UU))]) g).symm) (fun g => (findF_some (α := CR UU) (l := []) g).symm) (findF_nil) (findF_cons ⟨code39, h39⟩ (findF_nil)) (findF_nil) (findF_nil) fdok18 (by show 1 ≤ 28; decide) (noLs_spec rfl) (fun nf x => by show run18 fu c39 nf x.1 = _; rw [eq18]; rfl)
end Go.Proofs.YtnamdpbcpnnhaaaGreatDoor
end
section
set_option linter.unusedVariables false
set_option linter.unusedSimpArgs false
namespace Go.Proofs.YtnamdpbcpnnhaaaGreatDoor
open Go.Al Go.Den
abbrev as15 : List (AK UU) := [.str]
abbrev rs15 : List (AK UU) := [.bool]
abbrev as33 : List (AK UU) := [.dl TI.str, .str]
abbrev rs33 : List (AK UU) := [.bool]
def kf40 : Nat → List Nat
  | 0 => [0, 2]
  | 1 => [2]
  | _ => []
def hd40 : List (Nat × Head UU) := []
def jn40 : List (Nat × Head UU) := []
noncomputable def fd40 : FD UU := ⟨⟨fun d => hasN [] d, fun d => hasN [] d, kf40, findF hd40, findF jn40, findL []⟩, bodyOf Tryz.f40, 5, [.cell 2 29]⟩
def kf54 : Nat → List Nat
  | 0 => [0, 1]
  | 1 => [0, 1, 5]
  | 2 => [0, 4]
  | _ => []
def hd54 : List (Nat × Head UU) := []
def jn54 : List (Nat × Head UU) := []
noncomputable def fd54 : FD UU := ⟨⟨fun d => hasN [] d, fun d => hasN [] d, kf54, findF hd54, findF jn54, findL []⟩, bodyOf Tryz.f54, 15, [.tmp 4]⟩
def kf72 : Nat → List Nat
  | 0 => [0, 1]
  | 1 => [0, 1, 17]
  | 2 => [0, 4]
  | 3 => [0, 5]
  | 4 => [0, 5, 37]
  | 5 => [0, 4]
  | 6 => [0, 4]
  | _ => []
def hd72 : List (Nat × Head UU) := []
def jn72 : List (Nat × Head UU) := []
noncomputable def fd72 : FD UU := ⟨⟨fun d => hasN [] d, fun d => hasN [] d, kf72, findF hd72, findF jn72, findL []⟩, bodyOf Tryz.f72, 40, [.tmp 4]⟩
def kf73 : Nat → List Nat
  | 0 => [0, 2]
  | 1 => [0, 2]
  | 2 => [0, 2]
  | 3 => [0, 2]
  | _ => []
def hd73 : List (Nat × Head UU) := []
def jn73 : List (Nat × Head UU) := []
noncomputable def fd73 : FD UU := ⟨⟨fun d => hasN [] d, fun d => hasN [] d, kf73, findF hd73, findF jn73, findL []⟩, bodyOf Tryz.f73, 27, [.cell 2 29]⟩
def kf78 : Nat → List Nat
  | 0 => [0, 1, 4]
  | 1 => [0, 4]
  | 2 => [0, 4]
  | _ => []
def hd78 : List (Nat × Head UU) := []
def jn78 : List (Nat × Head UU) := []
noncomputable def fd78 : FD UU := ⟨⟨fun d => hasN [] d, fun d => hasN [] d, kf78, findF hd78, findF jn78, findL []⟩, bodyOf Tryz.f78, 12, [.cell 4 29]⟩
def kf80 : Nat → List Nat
  | 0 => [0, 2]
  | 1 => [0, 2]
  | 2 => [0, 2]
  | _ => []
def hd80 : List (Nat × Head UU) := []
def jn80 : List (Nat × Head UU) := []
noncomputable def fd80 : FD UU := ⟨⟨fun d => hasN [] d, fun d => hasN [] d, kf80, findF hd80, findF jn80, findL []⟩, bodyOf Tryz.f80, 8, [.cell 2 29]⟩
def kf84 : Nat → List Nat
  | 0 => [0, 1]
  | 1 => [0, 1, 5]
  | 2 => [0, 4]
  | _ => []
def hd84 : List (Nat × Head UU) := []
def jn84 : List (Nat × Head UU) := []
noncomputable def fd84 : FD UU := ⟨⟨fun d => hasN [] d, fun d => hasN [] d, kf84, findF hd84, findF jn84, findL []⟩, bodyOf Tryz.f84, 34, [.tmp 4]⟩
def kf85 : Nat → List Nat
  | 0 => [0, 1]
  | 1 => [0, 4]
  | _ => []
def hd85 : List (Nat × Head UU) := []
def jn85 : List (Nat × Head UU) := []
noncomputable def fd85 : FD UU := ⟨⟨fun d => hasN [] d, fun d => hasN [] d, kf85, findF hd85, findF jn85, findL []⟩, bodyOf Tryz.f85, 50, [.tmp 4]⟩
def kf112 : Nat → List Nat
  | 0 => [0, 1]
  | 1 => [0, 4]
  | _ => []
def hd112 : List (Nat × Head UU) := []
def jn112 : List (Nat × Head UU) := []
noncomputable def fd112 : FD UU := ⟨⟨fun d => hasN [] d, fun d => hasN [] d, kf112, findF hd112, findF jn112, findL []⟩, bodyOf Tryz.f112, 30, [.tmp 4]⟩
noncomputable def run72 (fu : Nat) (x : denKs [parJ]) (a : denKs ([.int .i64] : LK)) : Option (Option (denKs [parJ] × denKs ([.str] : LK))) :=
  runP CC Tb fu 2 (findF []) (findF []) (findF []) (findF []) fd72 [parJ] [parJ] ([.int .i64] : LK) ([.str] : LK) x a
theorem fdok72 : FDOk Tryz.prog (hasN []) (hasN []) 72 fd72 := ⟨⟨Tryz.f72, Tryz.func72, by kernel_rfl, Tryz.ntmps72, Tryz.results72⟩, by kernel_rfl, by kernel_rfl, by kernel_rfl⟩
noncomputable def run54 (fu : Nat) (c33 : List (List UInt8) × List UInt8 × Unit → Option (Bool × Unit)) (c72 : denKs ([.int .i64] : LK) → MM (denKs ([.str] : LK))) (x : denKs [parJ]) (a : denKs ([.dl TI.str] : LK)) : Option (Option (denKs [parJ] × denKs ([.bool] : LK))) :=
  runP CC Tb fu 2 (findF []) (findF [(33, (⟨as33, rs33, c33⟩ : Con UU))]) (findF []) (findF [(72, cJ ([.int .i64] : LK) ([.str] : LK) c72)]) fd54 [parJ] [parJ] ([.dl TI.str] : LK) ([.bool] : LK) x a
theorem fdok54 : FDOk Tryz.prog (hasN [33]) (hasN []) 54 fd54 := ⟨⟨Tryz.f54, Tryz.func54, by kernel_rfl, Tryz.ntmps54, Tryz.results54⟩, by kernel_rfl, by kernel_rfl, by kernel_rfl⟩
noncomputable def run85 (fu : Nat) (c15 : List UInt8 × Unit → Option (Bool × Unit)) (x : denKs [parK]) (a : denKs ([.int .i64] : LK)) : Option (Option (denKs [parK] × denKs ([.bool] : LK))) :=
  runP CC Tb fu 2 (findF []) (findF [(15, (⟨as15, rs15, c15⟩ : Con UU))]) (findF []) (findF []) fd85 [parK] [parK] ([.int .i64] : LK) ([.bool] : LK) x a
theorem fdok85 : FDOk Tryz.prog (hasN [15]) (hasN []) 85 fd85 := ⟨⟨Tryz.f85, Tryz.func85, by kernel_rfl, Tryz.ntmps85, Tryz.results85⟩, by kernel_rfl, by kernel_rfl, by kernel_rfl⟩
noncomputable def run112 (fu : Nat) (x : denKs [parK]) (a : denKs ([.int .i64] : LK)) : Option (Option (denKs [parK] × denKs ([.bool] : LK))) :=
  runP CC Tb fu 2 (findF []) (findF []) (findF []) (findF []) fd112 [parK] [parK] ([.int .i64] : LK) ([.bool] : LK) x a
theorem fdok112 : FDOk Tryz.prog (hasN []) (hasN []) 112 fd112 := ⟨⟨Tryz.f112, Tryz.func112, by kernel_rfl, Tryz.ntmps112, Tryz.results112⟩, by kernel_rfl, by kernel_rfl, by kernel_rfl⟩
noncomputable def run73 (fu : Nat) (x : denKs [parK]) (a : denKs ([] : LK)) : Option (Option (denKs [parK] × denKs ([.st TI.node] : LK))) :=
  runP CC Tb fu 3 (findF [(40, fd40)]) (findF []) (findF []) (findF [(77, cNeed)]) fd73 [parK] [parK] ([] : LK) ([.st TI.node] : LK) x a
theorem fdok73 : FDOk Tryz.prog (hasN []) (hasN []) 73 fd73 := ⟨⟨Tryz.f73, Tryz.func73, by kernel_rfl, Tryz.ntmps73, Tryz.results73⟩, by kernel_rfl, by kernel_rfl, by kernel_rfl⟩
theorem fdok73_40 : FDOk Tryz.prog (hasN []) (hasN []) 40 fd40 := ⟨⟨Tryz.f40, Tryz.func40, by kernel_rfl, Tryz.ntmps40, Tryz.results40⟩, by kernel_rfl, by kernel_rfl, by kernel_rfl⟩
noncomputable def run78 (fu : Nat) (c54 : denKs ([.dl TI.str] : LK) → MM (denKs ([.bool] : LK))) (c73 : denKs ([] : LK) → MM (denKs ([.st TI.node] : LK))) (x : denKs [parK]) (a : denKs ([.str] : LK)) : Option (Option (denKs [parK] × denKs ([.st TI.node] : LK))) :=
  runP CC Tb fu 2 (findF []) (findF []) (findF []) (findF [(54, cJ ([.dl TI.str] : LK) ([.bool] : LK) c54), (73, cM ([] : LK) ([.st TI.node] : LK) c73), (77, cNeed)]) fd78 [parK] [parK] ([.str] : LK) ([.st TI.node] : LK) x a
theorem fdok78 : FDOk Tryz.prog (hasN []) (hasN []) 78 fd78 := ⟨⟨Tryz.f78, Tryz.func78, by kernel_rfl, Tryz.ntmps78, Tryz.results78⟩, by kernel_rfl, by kernel_rfl, by kernel_rfl⟩
noncomputable def run80 (fu : Nat) (c73 : denKs ([] : LK) → MM (denKs ([.st TI.node] : LK))) (c85 : denKs ([.int .i64] : LK) → MM (denKs ([.bool] : LK))) (x : denKs [parK]) (a : denKs ([] : LK)) : Option (Option (denKs [parK] × denKs ([.st TI.node] : LK))) :=
  runP CC Tb fu 2 (findF []) (findF []) (findF []) (findF [(73, cM ([] : LK) ([.st TI.node] : LK) c73), (77, cNeed), (85, cM ([.int .i64] : LK) ([.bool] : LK) c85)]) fd80 [parK] [parK] ([] : LK) ([.st TI.node] : LK) x a
theorem fdok80 : FDOk Tryz.prog (hasN []) (hasN []) 80 fd80 := ⟨⟨Tryz.f80, Tryz.func80, by kernel_rfl, Tryz.ntmps80, Tryz.results80⟩, by kernel_rfl, by kernel_rfl, by kernel_rfl⟩
noncomputable def run84 (fu : Nat) (c33 : List (List UInt8) × List UInt8 × Unit → Option (Bool × Unit)) (c72 : denKs ([.int .i64] : LK) → MM (denKs ([.str] : LK))) (c76 : denKs ([.int .i64] : LK) → MM (denKs ([.bool] : LK))) (x : denKs [parK]) (a : denKs ([.int .i64] : LK)) : Option (Option (denKs [parK] × denKs ([.bool] : LK))) :=
  runP CC Tb fu 2 (findF []) (findF [(33, (⟨as33, rs33, c33⟩ : Con UU))]) (findF []) (findF [(72, cJ ([.int .i64] : LK) ([.str] : LK) c72), (76, cM ([.int .i64] : LK) ([.bool] : LK) c76)]) fd84 [parK] [parK] ([.int .i64] : LK) ([.bool] : LK) x a
theorem fdok84 : FDOk Tryz.prog (hasN [33]) (hasN []) 84 fd84 := ⟨⟨Tryz.f84, Tryz.func84, by kernel_rfl, Tryz.ntmps84, Tryz.results84⟩, by kernel_rfl, by kernel_rfl, by kernel_rfl⟩
end Go.Proofs.YtnamdpbcpnnhaaaGreatDoor
end
section
set_option linter.unusedVariables false
set_option linter.unusedSimpArgs false
namespace Go.Proofs.YtnamdpbcpnnhaaaGreatDoor
open Go.Al Go.Den
abbrev as143 : List (AK UU) := [.str]
abbrev rs143 : List (AK UU) := [.int .i64]
def kf36 : Nat → List Nat
  | 0 => []
  | _ => []
def hd36 : List (Nat × Head UU) := []
def jn36 : List (Nat × Head UU) := []
noncomputable def fd36 : FD UU := ⟨⟨fun d => hasN [] d, fun d => hasN [] d, kf36, findF hd36, findF jn36, findL []⟩, bodyOf Tryz.f36, 13, []⟩
def kf37 : Nat → List Nat
  | 0 => [0, 1, 4]
  | 1 => [0, 1, 4, 5]
  | 2 => [0, 1, 4, 5, 6, 7]
  | 3 => [0, 1, 4, 5, 7]
  | 4 => [0, 1, 4, 5, 7, 22]
  | 5 => [0, 4]
  | 6 => [0, 1, 4, 5, 7, 8, 9, 10]
  | 7 => [0, 4, 5, 7, 8, 9, 47]
  | 8 => [0, 4, 5, 7]
  | 9 => [0, 4]
  | 10 => [0, 4, 5, 8, 9, 11]
  | 11 => [0, 4, 5, 8, 11]
  | 12 => [0, 4, 5, 8]
  | 13 => [0, 4, 5]
  | 14 => [0, 4, 5]
  | 15 => [0, 4]
  | _ => []
def hd37 : List (Nat × Head UU) := []
def jn37 : List (Nat × Head UU) := []
noncomputable def fd37 : FD UU := ⟨⟨fun d => hasN [] d, fun d => hasN [] d, kf37, findF hd37, findF jn37, findL [(13, [(71, 8, 8)])]⟩, bodyOf Tryz.f37, 77, [.cell 4 29]⟩
def kf41 : Nat → List Nat
  | 0 => [0, 1, 4]
  | 1 => [4]
  | _ => []
def hd41 : List (Nat × Head UU) := []
def jn41 : List (Nat × Head UU) := []
noncomputable def fd41 : FD UU := ⟨⟨fun d => hasN [] d, fun d => hasN [] d, kf41, findF hd41, findF jn41, findL []⟩, bodyOf Tryz.f41, 8, [.cell 4 29]⟩
def kf53 : Nat → List Nat
  | 0 => [0, 2, 3]
  | 1 => [0, 2, 3, 4]
  | 2 => [0, 2, 3, 4, 5, 6]
  | 3 => [0, 2, 3, 4, 5, 6, 7]
  | 4 => [0, 2, 3, 4, 5, 6, 7, 10]
  | 5 => [0, 2, 3, 4, 5, 6]
  | 6 => [0, 2, 3, 4, 5, 6]
  | 7 => [0, 2, 3, 4, 5, 6, 7, 23]
  | 8 => [0, 2, 3, 4, 5, 6]
  | 9 => [0, 2, 3, 4, 5, 6]
  | 10 => [0, 2, 3, 4, 5, 7, 35]
  | 11 => [0, 2, 3, 4, 5, 7, 40]
  | 12 => [0, 2, 3, 4, 5]
  | 13 => [0, 2, 3, 4, 5, 6]
  | 14 => [0, 2, 3, 4, 5, 51]
  | 15 => [0, 2, 3, 4, 5]
  | 16 => [0, 2, 3, 4, 5, 6]
  | 17 => [0, 2, 3, 4, 5, 58]
  | 18 => [0, 2, 3, 4, 5]
  | 19 => [0, 2, 3, 4, 5, 6]
  | 20 => [0, 2, 3, 4]
  | 21 => [0, 2, 3]
  | _ => []
def hd53 : List (Nat × Head UU) := [(3, ⟨[0, 2, 4], [(3, .bool), (5, .bool), (6, .bool)], [(0, parK), (2, .box [.int .i64, .int .i64, .dl TI.node]), (4, ptsK)]⟩)]
def jn53 : List (Nat × Head UU) := [(20, ⟨[0, 2, 4], [(3, .bool)], [(0, parK), (2, .box [.int .i64, .int .i64, .dl TI.node]), (4, ptsK)]⟩)]
noncomputable def fd53 : FD UU := ⟨⟨fun d => hasN [] d, fun d => hasN [] d, kf53, findF hd53, findF jn53, findL []⟩, bodyOf Tryz.f53, 72, [.cell 2 29, .tmp 3]⟩
def kf55 : Nat → List Nat
  | 0 => [0, 2, 4, 6]
  | 1 => [0, 2, 4, 6, 12]
  | 2 => [0, 2, 4, 6]
  | 3 => [0, 2, 4, 6, 7, 8]
  | 4 => [0, 2, 4, 6]
  | 5 => [0, 4, 6]
  | 6 => [0, 6]
  | _ => []
def hd55 : List (Nat × Head UU) := [(1, ⟨[0, 2, 4, 6], [], [(0, parK), (4, ptsK), (6, .box [.int .i64, .int .i64, .dl TI.node])]⟩)]
def jn55 : List (Nat × Head UU) := []
noncomputable def fd55 : FD UU := ⟨⟨fun d => hasN [] d, fun d => hasN [] d, kf55, findF hd55, findF jn55, findL []⟩, bodyOf Tryz.f55, 35, [.cell 6 29]⟩
def kf56 : Nat → List Nat
  | 0 => [0, 2, 4]
  | 1 => [0, 2, 4, 5]
  | 2 => [0, 2, 4, 5]
  | 3 => [0, 2, 4, 5, 14]
  | 4 => [0, 2, 3, 4, 5]
  | 5 => [0, 2, 3, 4, 5]
  | 6 => [0, 2, 3, 4, 5, 6]
  | 7 => [0, 2, 3, 4, 5, 6, 23]
  | 8 => [0, 2, 3, 5]
  | 9 => [0, 2, 3, 4, 5, 6]
  | 10 => [0, 2, 3, 4, 5, 6]
  | 11 => [0, 2, 3, 4, 5]
  | 12 => [0, 2, 3, 4]
  | 13 => [0, 2, 5]
  | 14 => [0, 2, 3, 5, 7]
  | 15 => [0, 2, 3, 5]
  | 16 => [0, 2, 3, 5]
  | 17 => [0, 2, 3, 4]
  | _ => []
def hd56 : List (Nat × Head UU) := []
def jn56 : List (Nat × Head UU) := [(10, ⟨[0, 2, 3, 5], [(4, .bool), (6, .mpo)], [(0, parK), (2, .box [.int .i64, .int .i64, .dl TI.node]), (5, ptsK)]⟩)]
noncomputable def fd56 : FD UU := ⟨⟨fun d => hasN [] d, fun d => hasN [] d, kf56, findF hd56, findF jn56, findL [(15, [(53, 7, 7)])]⟩, bodyOf Tryz.f56, 60, [.cell 2 29, .tmp 3, .tmp 4]⟩
def kf57 : Nat → List Nat
  | 0 => [0, 2, 3, 5, 8]
  | 1 => [0, 2, 3, 5, 8, 9]
  | 2 => [0, 2, 3, 8, 9]
  | 3 => [0, 8, 9]
  | 4 => [0, 8, 9, 19]
  | 5 => [0, 8, 9]
  | 6 => [0, 8]
  | _ => []
def hd57 : List (Nat × Head UU) := []
def jn57 : List (Nat × Head UU) := []
noncomputable def fd57 : FD UU := ⟨⟨fun d => hasN [] d, fun d => hasN [] d, kf57, findF hd57, findF jn57, findL []⟩, bodyOf Tryz.f57, 27, [.cell 8 29]⟩
def kf60 : Nat → List Nat
  | 0 => [0, 2]
  | 1 => [0, 2, 3]
  | 2 => [0, 2, 3]
  | 3 => [0, 2, 3, 11]
  | 4 => [0, 2, 3, 23]
  | 5 => [0, 2, 3]
  | 6 => [0, 2, 3]
  | 7 => [0, 2, 3]
  | 8 => [0, 2]
  | _ => []
def hd60 : List (Nat × Head UU) := [(3, ⟨[0, 2, 3], [], [(0, parK), (2, .box [.int .i64, .int .i64, .dl TI.node]), (3, ptsK)]⟩)]
def jn60 : List (Nat × Head UU) := []
noncomputable def fd60 : FD UU := ⟨⟨fun d => hasN [] d, fun d => hasN [] d, kf60, findF hd60, findF jn60, findL []⟩, bodyOf Tryz.f60, 37, [.cell 2 29]⟩
def kf74 : Nat → List Nat
  | 0 => [0, 2]
  | 1 => [0, 2, 3]
  | 2 => [0, 2, 3]
  | 3 => [0, 2, 3]
  | 4 => [0, 2, 3, 17]
  | 5 => [0, 2, 3]
  | 6 => [0, 2, 3, 25]
  | 7 => [0, 2]
  | 8 => [0, 2, 3]
  | 9 => [0, 2, 3, 34]
  | 10 => [0, 2, 3]
  | 11 => [0, 2, 3]
  | 12 => [0, 2]
  | _ => []
def hd74 : List (Nat × Head UU) := [(9, ⟨[0, 2, 3], [], [(0, parK), (2, .box [.int .i64, .int .i64, .dl TI.node]), (3, ptsK)]⟩)]
def jn74 : List (Nat × Head UU) := [(6, ⟨[0, 2, 3], [], [(0, parK), (2, .box [.int .i64, .int .i64, .dl TI.node]), (3, ptsK)]⟩)]
noncomputable def fd74 : FD UU := ⟨⟨fun d => hasN [] d, fun d => hasN [] d, kf74, findF hd74, findF jn74, findL []⟩, bodyOf Tryz.f74, 44, [.cell 2 29]⟩
def kf75 : Nat → List Nat
  | 0 => [0, 2]
  | 1 => [0, 2, 3]
  | 2 => [0, 2, 3]
  | 3 => [0, 2, 3]
  | 4 => [0, 2, 3, 17]
  | 5 => [0, 2, 3]
  | 6 => [0, 2, 3, 25]
  | 7 => [0, 2]
  | 8 => [0, 2, 3]
  | 9 => [0, 2, 3]
  | 10 => [0, 2, 3, 37]
  | 11 => [0, 2, 3]
  | 12 => [0, 2, 3, 45]
  | 13 => [0, 2, 3]
  | 14 => [0, 2]
  | _ => []
def hd75 : List (Nat × Head UU) := [(9, ⟨[0, 2, 3], [], [(0, parK), (2, .box [.int .i64, .int .i64, .dl TI.node]), (3, ptsK)]⟩)]
def jn75 : List (Nat × Head UU) := [(13, ⟨[0, 2, 3], [], [(0, parK), (2, .box [.int .i64, .int .i64, .dl TI.node]), (3, ptsK)]⟩), (6, ⟨[0, 2, 3], [], [(0, parK), (2, .box [.int .i64, .int .i64, .dl TI.node]), (3, ptsK)]⟩)]
noncomputable def fd75 : FD UU := ⟨⟨fun d => hasN [] d, fun d => hasN [] d, kf75, findF hd75, findF jn75, findL []⟩, bodyOf Tryz.f75, 51, [.cell 2 29]⟩
def kf79 : Nat → List Nat
  | 0 => [0, 1, 6]
  | 1 => [0, 1]
  | 2 => [0, 1, 14]
  | 3 => [0, 1]
  | _ => []
def hd79 : List (Nat × Head UU) := [(0, ⟨[0, 1], [], [(0, parK), (1, ptsK)]⟩), (2, ⟨[0, 1], [], [(0, parK), (1, ptsK)]⟩)]
def jn79 : List (Nat × Head UU) := []
noncomputable def fd79 : FD UU := ⟨⟨fun d => hasN [] d, fun d => hasN [] d, kf79, findF hd79, findF jn79, findL []⟩, bodyOf Tryz.f79, 20, []⟩
def kf81 : Nat → List Nat
  | 0 => [0, 2]
  | 1 => [0, 2, 3]
  | 2 => [0, 2, 3]
  | 3 => [0, 2, 3]
  | 4 => [0, 2, 3, 4]
  | 5 => [0, 2, 3, 16]
  | 6 => [0, 2, 3, 4]
  | 7 => [0, 2, 3, 23]
  | 8 => [0, 2, 3]
  | 9 => [0, 2, 3, 30]
  | 10 => [0, 2, 3]
  | 11 => [0, 2, 3]
  | 12 => [0, 2, 3]
  | 13 => [0, 2, 3]
  | 14 => [0, 2]
  | _ => []
def hd81 : List (Nat × Head UU) := [(5, ⟨[0, 2, 3], [(4, .bool)], [(0, parK), (2, .box [.int .i64, .int .i64, .dl TI.node]), (3, ptsK)]⟩)]
def jn81 : List (Nat × Head UU) := []
noncomputable def fd81 : FD UU := ⟨⟨fun d => hasN [] d, fun d => hasN [] d, kf81, findF hd81, findF jn81, findL []⟩, bodyOf Tryz.f81, 49, [.cell 2 29]⟩
def kf82 : Nat → List Nat
  | 0 => [0, 1, 6]
  | 1 => [0, 1, 9]
  | 2 => [0, 1]
  | 3 => [0, 1]
  | 4 => [0, 1, 23]
  | 5 => [0, 1]
  | 6 => [0, 1]
  | _ => []
def hd82 : List (Nat × Head UU) := [(0, ⟨[0, 1], [], [(0, parK), (1, ptsK)]⟩)]
def jn82 : List (Nat × Head UU) := []
noncomputable def fd82 : FD UU := ⟨⟨fun d => hasN [] d, fun d => hasN [] d, kf82, findF hd82, findF jn82, findL []⟩, bodyOf Tryz.f82, 34, []⟩
def kf83 : Nat → List Nat
  | 0 => [0, 2]
  | 1 => [0, 2, 7]
  | 2 => [0, 2]
  | 3 => [0, 2, 3]
  | 4 => [0, 2, 3]
  | 5 => [0, 2, 3, 17]
  | 6 => [0, 2, 3]
  | 7 => [0, 2, 3, 25]
  | 8 => [0, 2, 3]
  | 9 => [0, 2, 3]
  | 10 => [0, 2]
  | _ => []
def hd83 : List (Nat × Head UU) := [(5, ⟨[0, 2, 3], [], [(0, parK), (2, .box [.int .i64, .int .i64, .dl TI.node]), (3, ptsK)]⟩)]
def jn83 : List (Nat × Head UU) := []
noncomputable def fd83 : FD UU := ⟨⟨fun d => hasN [] d, fun d => hasN [] d, kf83, findF hd83, findF jn83, findL []⟩, bodyOf Tryz.f83, 35, [.cell 2 29]⟩
def kf86 : Nat → List Nat
  | 0 => [0, 2]
  | 1 => [0, 2, 3]
  | 2 => [0, 2, 3, 4]
  | 3 => [0, 2, 3, 4, 8]
  | 4 => [0, 2]
  | 5 => [0, 2, 5]
  | 6 => [0, 2, 5]
  | 7 => [0, 2]
  | 8 => [0, 2, 3, 4, 19]
  | 9 => [0, 2, 3]
  | 10 => [0, 2]
  | 11 => [0, 2, 3, 4, 27]
  | 12 => [0, 2, 3]
  | 13 => [0, 2]
  | 14 => [0, 2, 3, 4, 44]
  | 15 => [0, 2, 3]
  | 16 => [0, 2]
  | 17 => [0, 2, 3, 4]
  | 18 => [0, 2, 3, 4, 67]
  | 19 => [0, 2, 3, 4, 67, 68]
  | 20 => [0, 2, 3]
  | 21 => [0, 2]
  | 22 => [0, 2, 3, 4, 67, 79]
  | 23 => [0, 2, 3]
  | 24 => [0, 2]
  | 25 => [0, 2, 3, 4, 67, 88]
  | 26 => [0, 2, 3]
  | 27 => [0, 2, 3]
  | 28 => [0, 2, 3, 98]
  | 29 => [0, 2, 3]
  | 30 => [0, 2]
  | 31 => [0, 2, 3, 4, 67, 106]
  | 32 => [0, 2, 3, 4, 67, 106]
  | 33 => [0, 2, 3, 4]
  | 34 => [0, 2, 3, 4]
  | 35 => [0, 2, 3, 116]
  | 36 => [0, 2]
  | 37 => [0, 2]
  | 38 => [0, 2, 3, 4, 67, 119]
  | 39 => [0, 2, 3]
  | 40 => [0, 2, 3]
  | 41 => [0, 2, 3]
  | 42 => [0, 2]
  | 43 => [0, 2, 3, 4, 67, 134]
  | 44 => [0, 2]
  | 45 => [0, 2, 3, 4, 67, 139]
  | 46 => [0, 2, 3]
  | 47 => [0, 2]
  | 48 => [0, 2, 3, 4, 67, 144]
  | 49 => [0, 2, 3, 4, 144]
  | 50 => [0, 2, 3]
  | 51 => [0, 2]
  | 52 => [0, 2, 3]
  | 53 => [0, 2, 3]
  | 54 => [0, 2]
  | _ => []
def hd86 : List (Nat × Head UU) := []
def jn86 : List (Nat × Head UU) := [(50, ⟨[0, 2, 3, 4], [(144, .bool)], [(0, parK), (2, .box [.int .i64, .int .i64, .dl TI.node]), (3, ptsK)]⟩), (33, ⟨[0, 2, 3, 4, 67], [(106, .bool)], [(0, parK), (2, .box [.int .i64, .int .i64, .dl TI.node]), (3, ptsK)]⟩), (52, ⟨[0, 2, 3, 4], [], [(0, parK), (2, .box [.int .i64, .int .i64, .dl TI.node]), (3, ptsK)]⟩)]
noncomputable def fd86 : FD UU := ⟨⟨fun d => hasN [] d, fun d => hasN [] d, kf86, findF hd86, findF jn86, findL []⟩, bodyOf Tryz.f86, 162, [.cell 2 29]⟩
def kf107 : Nat → List Nat
  | 0 => [0, 2]
  | 1 => [0, 2, 3]
  | 2 => [0, 2, 3, 4]
  | 3 => [0, 2, 3]
  | 4 => [0, 2, 3, 6]
  | 5 => [0, 2, 3, 22]
  | 6 => [0, 2, 3, 6]
  | 7 => [0, 2, 3, 29]
  | 8 => [0, 2, 3]
  | 9 => [0, 2, 3, 7]
  | 10 => [0, 2, 3]
  | 11 => [0, 2, 3]
  | 12 => [0, 2]
  | _ => []
def hd107 : List (Nat × Head UU) := [(5, ⟨[0, 2, 3], [(6, .bool)], [(0, parK), (2, .box [.int .i64, .int .i64, .dl TI.node]), (3, ptsK)]⟩)]
def jn107 : List (Nat × Head UU) := [(9, ⟨[0, 2, 3], [], [(0, parK), (2, .box [.int .i64, .int .i64, .dl TI.node]), (3, ptsK)]⟩)]
noncomputable def fd107 : FD UU := ⟨⟨fun d => hasN [] d, fun d => hasN [] d, kf107, findF hd107, findF jn107, findL []⟩, bodyOf Tryz.f107, 48, [.cell 2 29]⟩
def kf108 : Nat → List Nat
  | 0 => [0, 2]
  | 1 => [0, 2, 3]
  | 2 => [0, 2, 3, 4]
  | 3 => [0, 2, 3, 4]
  | 4 => [0, 2, 3, 4, 13]
  | 5 => [0, 2, 3, 4]
  | 6 => [0, 2, 3]
  | 7 => [0, 2]
  | _ => []
def hd108 : List (Nat × Head UU) := []
def jn108 : List (Nat × Head UU) := []
noncomputable def fd108 : FD UU := ⟨⟨fun d => hasN [] d, fun d => hasN [] d, kf108, findF hd108, findF jn108, findL []⟩, bodyOf Tryz.f108, 24, [.cell 2 29]⟩
def kf110 : Nat → List Nat
  | 0 => [0, 2]
  | 1 => [0, 2, 3]
  | 2 => [0, 2, 3, 4, 5]
  | 3 => [0, 2, 3, 5]
  | 4 => [0, 2, 3, 5, 6, 7, 8]
  | 5 => [0, 2, 3, 5, 6, 7, 23]
  | 6 => [0, 2, 3, 5, 7]
  | 7 => [0, 2, 3]
  | 8 => [0, 2]
  | _ => []
def hd110 : List (Nat × Head UU) := []
def jn110 : List (Nat × Head UU) := [(7, ⟨[0, 2, 3, 5, 7], [], [(0, parK), (2, .box [.int .i64, .int .i64, .dl TI.node]), (3, ptsK)]⟩)]
noncomputable def fd110 : FD UU := ⟨⟨fun d => hasN [] d, fun d => hasN [] d, kf110, findF hd110, findF jn110, findL []⟩, bodyOf Tryz.f110, 32, [.cell 2 29]⟩
def kf111 : Nat → List Nat
  | 0 => [0, 2]
  | 1 => [0, 2, 3]
  | 2 => [0, 2, 3, 10]
  | 3 => [0, 2]
  | 4 => [0, 2, 3, 4]
  | 5 => [0, 2]
  | _ => []
def hd111 : List (Nat × Head UU) := []
def jn111 : List (Nat × Head UU) := []
noncomputable def fd111 : FD UU := ⟨⟨fun d => hasN [] d, fun d => hasN [] d, kf111, findF hd111, findF jn111, findL [(5, [(17, 3, 3), (17, 4, 4)])]⟩, bodyOf Tryz.f111, 20, [.cell 2 29]⟩
def kf113 : Nat → List Nat
  | 0 => [0, 2]
  | 1 => [0, 2, 3]
  | 2 => [0, 2, 3, 10]
  | 3 => [0, 2]
  | 4 => [0, 2, 3, 4]
  | 5 => [0, 2]
  | _ => []
def hd113 : List (Nat × Head UU) := []
def jn113 : List (Nat × Head UU) := []
noncomputable def fd113 : FD UU := ⟨⟨fun d => hasN [] d, fun d => hasN [] d, kf113, findF hd113, findF jn113, findL [(5, [(17, 3, 3), (17, 4, 4)])]⟩, bodyOf Tryz.f113, 20, [.cell 2 29]⟩
def kf114 : Nat → List Nat
  | 0 => [0, 2]
  | 1 => [0, 2, 3]
  | 2 => [0, 2, 3, 10]
  | 3 => [0, 2]
  | 4 => [0, 2, 3, 4]
  | 5 => [0, 2, 4]
  | 6 => [0, 2]
  | _ => []
def hd114 : List (Nat × Head UU) := []
def jn114 : List (Nat × Head UU) := []
noncomputable def fd114 : FD UU := ⟨⟨fun d => hasN [] d, fun d => hasN [] d, kf114, findF hd114, findF jn114, findL [(5, [(14, 3, 3), (16, 3, 3), (18, 3, 3), (20, 3, 3)])]⟩, bodyOf Tryz.f114, 24, [.cell 2 29]⟩
def kf115 : Nat → List Nat
  | 0 => [0, 1]
  | _ => []
def hd115 : List (Nat × Head UU) := []
def jn115 : List (Nat × Head UU) := []
noncomputable def fd115 : FD UU := ⟨⟨fun d => hasN [] d, fun d => hasN [] d, kf115, findF hd115, findF jn115, findL []⟩, bodyOf Tryz.f115, 13, []⟩
def kf116 : Nat → List Nat
  | 0 => [0, 3, 4]
  | 1 => [0, 3, 4]
  | 2 => [0, 3, 4]
  | 3 => [0, 3, 4, 13]
  | 4 => [0, 3, 4]
  | 5 => [0, 3, 4]
  | 6 => [0, 3, 4]
  | 7 => [0, 3, 4]
  | 8 => [0, 3, 4]
  | 9 => [0, 3, 4]
  | 10 => [0, 4]
  | _ => []
def hd116 : List (Nat × Head UU) := []
def jn116 : List (Nat × Head UU) := [(6, ⟨[0, 3, 4], [], [(0, parK), (3, ptsK), (4, .box [.int .i64, .int .i64, .dl TI.node])]⟩)]
noncomputable def fd116 : FD UU := ⟨⟨fun d => hasN [] d, fun d => hasN [] d, kf116, findF hd116, findF jn116, findL []⟩, bodyOf Tryz.f116, 31, [.cell 4 29]⟩
def kf117 : Nat → List Nat
  | 0 => [0, 1, 2, 10]
  | 1 => [0, 1, 2]
  | 2 => [0, 1]
  | _ => []
def hd117 : List (Nat × Head UU) := []
def jn117 : List (Nat × Head UU) := [(2, ⟨[0, 1, 2], [], [(0, parK), (1, ptsK)]⟩)]
noncomputable def fd117 : FD UU := ⟨⟨fun d => hasN [] d, fun d => hasN [] d, kf117, findF hd117, findF jn117, findL []⟩, bodyOf Tryz.f117, 22, []⟩
def kf130 : Nat → List Nat
  | 0 => [0, 1, 4, 5]
  | 1 => [0, 1, 4, 5, 7]
  | 2 => [0, 1, 4, 5, 7]
  | 3 => [0, 1, 4, 5, 7, 8]
  | 4 => [0, 1, 4, 5, 7, 8, 16]
  | 5 => [0, 4, 5, 7]
  | 6 => [0, 4, 5, 7]
  | 7 => [0, 1, 4, 5, 7, 28]
  | 8 => [0, 1, 4, 7]
  | 9 => [0, 4, 7, 9, 10, 11]
  | 10 => [0, 4, 7, 9, 10, 67]
  | 11 => [0, 4, 7, 10]
  | 12 => [0, 4, 5, 7]
  | 13 => [0, 4, 5, 7]
  | 14 => [0, 4, 5, 7]
  | 15 => [0, 4, 5, 6]
  | _ => []
def hd130 : List (Nat × Head UU) := []
def jn130 : List (Nat × Head UU) := [(12, ⟨[0, 4, 7, 10], [], [(0, parK), (4, .box [.int .i64, .int .i64, .dl TI.node]), (7, ptsK)]⟩), (14, ⟨[0, 4, 7], [(5, .str)], [(0, parK), (4, .box [.int .i64, .int .i64, .dl TI.node]), (7, ptsK)]⟩)]
noncomputable def fd130 : FD UU := ⟨⟨fun d => hasN [] d, fun d => hasN [] d, kf130, findF hd130, findF jn130, findL [(15, [(1000004, 80, 7)])]⟩, bodyOf Tryz.f130, 84, [.cell 4 29, .tmp 5, .tmp 6]⟩
def kf131 : Nat → List Nat
  | 0 => [0, 1, 4]
  | 1 => [0, 1, 4, 5]
  | 2 => [0, 1, 4, 5, 6]
  | 3 => [0, 1, 4, 5, 6, 19]
  | 4 => [0, 4]
  | 5 => [0, 1, 4, 5, 6, 7]
  | 6 => [0, 1, 4, 5]
  | _ => []
def hd131 : List (Nat × Head UU) := [(2, ⟨[0, 1, 4, 5], [], [(0, parK), (4, .box [.int .i64, .int .i64, .dl TI.node]), (5, .box [.int .i64, .int .i64, .dl TI.node])]⟩)]
def jn131 : List (Nat × Head UU) := []
noncomputable def fd131 : FD UU := ⟨⟨fun d => hasN [] d, fun d => hasN [] d, kf131, findF hd131, findF jn131, findL [(6, [(28, 5, 5), (28, 7, 7)])]⟩, bodyOf Tryz.f131, 31, [.cell 4 29]⟩
def kf142 : Nat → List Nat
  | 0 => [0, 2]
  | 1 => [0, 2, 12]
  | 2 => [0, 2]
  | 3 => [0, 2, 3]
  | 4 => [0, 2, 3]
  | 5 => [0, 2]
  | _ => []
def hd142 : List (Nat × Head UU) := []
def jn142 : List (Nat × Head UU) := []
noncomputable def fd142 : FD UU := ⟨⟨fun d => hasN [] d, fun d => hasN [] d, kf142, findF hd142, findF jn142, findL []⟩, bodyOf Tryz.f142, 26, [.cell 2 29]⟩
def kf143 : Nat → List Nat
  | 0 => [0]
  | 1 => [3]
  | 2 => [3, 4]
  | 3 => [2]
  | 4 => [3, 6]
  | 5 => [2]
  | 6 => [3, 8]
  | 7 => [2]
  | 8 => [3, 10]
  | 9 => [2]
  | 10 => [3, 12]
  | 11 => [2]
  | 12 => [3, 14]
  | 13 => [3, 14]
  | 14 => [2]
  | 15 => [3, 17]
  | 16 => [3, 17]
  | 17 => [3, 17]
  | 18 => [3, 17]
  | 19 => [2]
  | 20 => [3, 22]
  | 21 => [3, 22]
  | 22 => [2]
  | 23 => [3, 25]
  | 24 => [3, 25]
  | 25 => [2]
  | 26 => [3, 28]
  | 27 => [3, 28]
  | 28 => [28]
  | 29 => [2]
  | 30 => [2]
  | _ => []
def hd143 : List (Nat × Head UU) := []
def jn143 : List (Nat × Head UU) := []
noncomputable def fd143 : FD UU := ⟨⟨fun d => hasN [] d, fun d => hasN [] d, kf143, findF hd143, findF jn143, findL []⟩, bodyOf Tryz.f143, 32, [.tmp 2]⟩
def kf150 : Nat → List Nat
  | 0 => [0, 2]
  | 1 => [0, 2, 3]
  | 2 => [0, 2, 3, 4]
  | 3 => [0, 2, 3]
  | 4 => [0, 2]
  | 5 => [0, 2, 3, 15]
  | 6 => [0, 2, 3]
  | 7 => [0, 2]
  | 8 => [0, 2, 3, 26]
  | 9 => [0, 2, 3]
  | 10 => [0, 2, 3, 40]
  | 11 => [0, 2, 3]
  | 12 => [0, 2, 3]
  | 13 => [0, 2]
  | 14 => [0, 2]
  | _ => []
def hd150 : List (Nat × Head UU) := []
def jn150 : List (Nat × Head UU) := []
noncomputable def fd150 : FD UU := ⟨⟨fun d => hasN [] d, fun d => hasN [] d, kf150, findF hd150, findF jn150, findL []⟩, bodyOf Tryz.f150, 58, [.cell 2 29]⟩
def kf151 : Nat → List Nat
  | 0 => [0, 2]
  | 1 => [0, 2, 3]
  | 2 => [0, 2, 3, 4]
  | 3 => [0, 2, 3]
  | 4 => [0, 2, 3, 6, 8]
  | 5 => [0, 2, 3, 6, 23]
  | 6 => [0, 2, 3]
  | 7 => [0, 2]
  | _ => []
def hd151 : List (Nat × Head UU) := []
def jn151 : List (Nat × Head UU) := []
noncomputable def fd151 : FD UU := ⟨⟨fun d => hasN [] d, fun d => hasN [] d, kf151, findF hd151, findF jn151, findL []⟩, bodyOf Tryz.f151, 28, [.cell 2 29]⟩
def kf154 : Nat → List Nat
  | 0 => [0, 3, 4]
  | 1 => [0, 3, 4, 5]
  | 2 => [0, 3, 4, 5]
  | 3 => [0, 4]
  | 4 => [0, 3, 4, 5, 11]
  | 5 => [0, 3, 4, 5]
  | 6 => [0, 3, 4]
  | 7 => [0, 3, 4, 5, 24]
  | 8 => [0, 3, 4, 5]
  | 9 => [0, 3, 4, 5, 6]
  | 10 => [0, 3, 4, 5, 36]
  | 11 => [0, 3, 4, 5, 6]
  | 12 => [0, 3, 4, 5, 43]
  | 13 => [0, 3, 4, 5]
  | 14 => [0, 3, 4, 5]
  | 15 => [0, 3, 4, 5]
  | 16 => [0, 3, 4]
  | 17 => [0, 3, 4, 5, 57]
  | 18 => [0, 3, 4, 5]
  | 19 => [0, 3, 4]
  | 20 => [0, 3, 4, 5, 68]
  | 21 => [0, 3, 4, 5]
  | 22 => [0, 3, 4]
  | _ => []
def hd154 : List (Nat × Head UU) := [(1, ⟨[0, 3, 4], [], [(0, parK), (3, .box [.int .i64, .int .i64, .dl TI.node]), (4, .box [.int .i64, .int .i64, .dl TI.node])]⟩), (10, ⟨[0, 3, 4, 5], [(6, .bool)], [(0, parK), (3, .box [.int .i64, .int .i64, .dl TI.node]), (4, .box [.int .i64, .int .i64, .dl TI.node]), (5, ptsK)]⟩)]
def jn154 : List (Nat × Head UU) := []
noncomputable def fd154 : FD UU := ⟨⟨fun d => hasN [] d, fun d => hasN [] d, kf154, findF hd154, findF jn154, findL []⟩, bodyOf Tryz.f154, 77, [.cell 4 29]⟩
def kf155 : Nat → List Nat
  | 0 => [0, 2]
  | 1 => [0, 2, 3]
  | 2 => [0, 2, 3, 4]
  | 3 => [0, 2, 3]
  | 4 => [0, 2]
  | 5 => [0, 2, 3, 12]
  | 6 => [0, 2, 3]
  | 7 => [0, 2]
  | 8 => [0, 2, 3, 24]
  | 9 => [0, 2, 3, 28]
  | 10 => [0, 2, 3]
  | 11 => [0, 2]
  | 12 => [0, 2, 3]
  | 13 => [0, 2]
  | _ => []
def hd155 : List (Nat × Head UU) := [(9, ⟨[0, 2, 3], [], [(0, parK), (2, .box [.int .i64, .int .i64, .dl TI.node]), (3, ptsK)]⟩)]
def jn155 : List (Nat × Head UU) := []
noncomputable def fd155 : FD UU := ⟨⟨fun d => hasN [] d, fun d => hasN [] d, kf155, findF hd155, findF jn155, findL []⟩, bodyOf Tryz.f155, 37, [.cell 2 29]⟩
noncomputable def run53 (fu : Nat) (c33 : List (List UInt8) × List UInt8 × Unit → Option (Bool × Unit)) (c72 : denKs ([.int .i64] : LK) → MM (denKs ([.str] : LK))) (c73 : denKs ([] : LK) → MM (denKs ([.st TI.node] : LK))) (c74 : denKs ([] : LK) → MM (denKs ([.st TI.node] : LK))) (c75 : denKs ([] : LK) → MM (denKs ([.st TI.node] : LK))) (c76 : denKs ([.int .i64] : LK) → MM (denKs ([.bool] : LK))) (x : denKs [parK]) (a : denKs ([] : LK)) : Option (Option (denKs [parK] × denKs ([.st TI.node, .bool] : LK))) :=
  runP CC Tb fu 3 (findF [(36, fd36)]) (findF [(33, (⟨as33, rs33, c33⟩ : Con UU))]) (findF [(38, crNode)]) (findF [(72, cJ ([.int .i64] : LK) ([.str] : LK) c72), (73, cM ([] : LK) ([.st TI.node] : LK) c73), (74, cM ([] : LK) ([.st TI.node] : LK) c74), (75, cM ([] : LK) ([.st TI.node] : LK) c75), (76, cM ([.int .i64] : LK) ([.bool] : LK) c76), (77, cNeed)]) fd53 [parK] [parK] ([] : LK) ([.st TI.node, .bool] : LK) x a
theorem fdok53 : FDOk Tryz.prog (hasN [33]) (hasN [38]) 53 fd53 := ⟨⟨Tryz.f53, Tryz.func53, by kernel_rfl, Tryz.ntmps53, Tryz.results53⟩, by kernel_rfl, by kernel_rfl, by kernel_rfl⟩
theorem fdok53_36 : FDOk Tryz.prog (hasN [33]) (hasN [38]) 36 fd36 := ⟨⟨Tryz.f36, Tryz.func36, by kernel_rfl, Tryz.ntmps36, Tryz.results36⟩, by kernel_rfl, by kernel_rfl, by kernel_rfl⟩
noncomputable def run74 (fu : Nat) (c54 : denKs ([.dl TI.str] : LK) → MM (denKs ([.bool] : LK))) (c73 : denKs ([] : LK) → MM (denKs ([.st TI.node] : LK))) (c85 : denKs ([.int .i64] : LK) → MM (denKs ([.bool] : LK))) (c107 : denKs ([] : LK) → MM (denKs ([.st TI.node] : LK))) (x : denKs [parK]) (a : denKs ([] : LK)) : Option (Option (denKs [parK] × denKs ([.st TI.node] : LK))) :=
  runP CC Tb fu 3 (findF [(36, fd36)]) (findF []) (findF [(38, crNode)]) (findF [(54, cJ ([.dl TI.str] : LK) ([.bool] : LK) c54), (73, cM ([] : LK) ([.st TI.node] : LK) c73), (77, cNeed), (85, cM ([.int .i64] : LK) ([.bool] : LK) c85), (107, cM ([] : LK) ([.st TI.node] : LK) c107)]) fd74 [parK] [parK] ([] : LK) ([.st TI.node] : LK) x a
theorem fdok74 : FDOk Tryz.prog (hasN []) (hasN [38]) 74 fd74 := ⟨⟨Tryz.f74, Tryz.func74, by kernel_rfl, Tryz.ntmps74, Tryz.results74⟩, by kernel_rfl, by kernel_rfl, by kernel_rfl⟩
theorem fdok74_36 : FDOk Tryz.prog (hasN []) (hasN [38]) 36 fd36 := ⟨⟨Tryz.f36, Tryz.func36, by kernel_rfl, Tryz.ntmps36, Tryz.results36⟩, by kernel_rfl, by kernel_rfl, by kernel_rfl⟩
noncomputable def run107 (fu : Nat) (c53 : denKs ([] : LK) → MM (denKs ([.st TI.node, .bool] : LK))) (c54 : denKs ([.dl TI.str] : LK) → MM (denKs ([.bool] : LK))) (c56 : denKs ([] : LK) → MM (denKs ([.st TI.node, .str, .bool] : LK) × Option (Option MT))) (c73 : denKs ([] : LK) → MM (denKs ([.st TI.node] : LK))) (c78 : denKs ([.str] : LK) → MM (denKs ([.st TI.node] : LK))) (x : denKs [parK]) (a : denKs ([] : LK)) : Option (Option (denKs [parK] × denKs ([.st TI.node] : LK))) :=
  runP CC Tb fu 3 (findF [(36, fd36)]) (findF []) (findF [(38, crNode)]) (findF [(53, cM ([] : LK) ([.st TI.node, .bool] : LK) c53), (54, cJ ([.dl TI.str] : LK) ([.bool] : LK) c54), (56, cNj ([] : LK) ([.st TI.node, .str, .bool] : LK) c56), (73, cM ([] : LK) ([.st TI.node] : LK) c73), (78, cM ([.str] : LK) ([.st TI.node] : LK) c78)]) fd107 [parK] [parK] ([] : LK) ([.st TI.node] : LK) x a
theorem fdok107 : FDOk Tryz.prog (hasN []) (hasN [38]) 107 fd107 := ⟨⟨Tryz.f107, Tryz.func107, by kernel_rfl, Tryz.ntmps107, Tryz.results107⟩, by kernel_rfl, by kernel_rfl, by kernel_rfl⟩
theorem fdok107_36 : FDOk Tryz.prog (hasN []) (hasN [38]) 36 fd36 := ⟨⟨Tryz.f36, Tryz.func36, by kernel_rfl, Tryz.ntmps36, Tryz.results36⟩, by kernel_rfl, by kernel_rfl, by kernel_rfl⟩
noncomputable def run75 (fu : Nat) (c54 : denKs ([.dl TI.str] : LK) → MM (denKs ([.bool] : LK))) (c73 : denKs ([] : LK) → MM (denKs ([.st TI.node] : LK))) (c78 : denKs ([.str] : LK) → MM (denKs ([.st TI.node] : LK))) (c85 : denKs ([.int .i64] : LK) → MM (denKs ([.bool] : LK))) (c108 : denKs ([] : LK) → MM (denKs ([.st TI.node] : LK))) (x : denKs [parK]) (a : denKs ([] : LK)) : Option (Option (denKs [parK] × denKs ([.st TI.node] : LK))) :=
  runP CC Tb fu 3 (findF [(36, fd36)]) (findF []) (findF [(38, crNode)]) (findF [(54, cJ ([.dl TI.str] : LK) ([.bool] : LK) c54), (73, cM ([] : LK) ([.st TI.node] : LK) c73), (77, cNeed), (78, cM ([.str] : LK) ([.st TI.node] : LK) c78), (85, cM ([.int .i64] : LK) ([.bool] : LK) c85), (108, cM ([] : LK) ([.st TI.node] : LK) c108)]) fd75 [parK] [parK] ([] : LK) ([.st TI.node] : LK) x a
theorem fdok75 : FDOk Tryz.prog (hasN []) (hasN [38]) 75 fd75 := ⟨⟨Tryz.f75, Tryz.func75, by kernel_rfl, Tryz.ntmps75, Tryz.results75⟩, by kernel_rfl, by kernel_rfl, by kernel_rfl⟩
theorem fdok75_36 : FDOk Tryz.prog (hasN []) (hasN [38]) 36 fd36 := ⟨⟨Tryz.f36, Tryz.func36, by kernel_rfl, Tryz.ntmps36, Tryz.results36⟩, by kernel_rfl, by kernel_rfl, by kernel_rfl⟩
noncomputable def run108 (fu : Nat) (c54 : denKs ([.dl TI.str] : LK) → MM (denKs ([.bool] : LK))) (c58 : denKs ([.str, .bool] : LK) → MM (denKs ([] : LK))) (c72 : denKs ([.int .i64] : LK) → MM (denKs ([.str] : LK))) (c73 : denKs ([] : LK) → MM (denKs ([.st TI.node] : LK))) (c80 : denKs ([] : LK) → MM (denKs ([.st TI.node] : LK))) (c114 : denKs ([] : LK) → MM (denKs ([.st TI.node] : LK))) (x : denKs [parK]) (a : denKs ([] : LK)) : Option (Option (denKs [parK] × denKs ([.st TI.node] : LK))) :=
  runP CC Tb fu 3 (findF [(36, fd36)]) (findF []) (findF [(38, crNode)]) (findF [(54, cJ ([.dl TI.str] : LK) ([.bool] : LK) c54), (58, cM ([.str, .bool] : LK) ([] : LK) c58), (72, cJ ([.int .i64] : LK) ([.str] : LK) c72), (73, cM ([] : LK) ([.st TI.node] : LK) c73), (80, cM ([] : LK) ([.st TI.node] : LK) c80), (114, cM ([] : LK) ([.st TI.node] : LK) c114)]) fd108 [parK] [parK] ([] : LK) ([.st TI.node] : LK) x a
theorem fdok108 : FDOk Tryz.prog (hasN []) (hasN [38]) 108 fd108 := ⟨⟨Tryz.f108, Tryz.func108, by kernel_rfl, Tryz.ntmps108, Tryz.results108⟩, by kernel_rfl, by kernel_rfl, by kernel_rfl⟩
theorem fdok108_36 : FDOk Tryz.prog (hasN []) (hasN [38]) 36 fd36 := ⟨⟨Tryz.f36, Tryz.func36, by kernel_rfl, Tryz.ntmps36, Tryz.results36⟩, by kernel_rfl, by kernel_rfl, by kernel_rfl⟩
noncomputable def run79 (fu : Nat) (c54 : denKs ([.dl TI.str] : LK) → MM (denKs ([.bool] : LK))) (c73 : denKs ([] : LK) → MM (denKs ([.st TI.node] : LK))) (x : denKs [parK, ptsK]) (a : denKs ([] : LK)) : Option (Option (denKs [parK, ptsK] × denKs ([] : LK))) :=
  runP CC Tb fu 3 (findF [(36, fd36)]) (findF []) (findF []) (findF [(54, cJ ([.dl TI.str] : LK) ([.bool] : LK) c54), (73, cM ([] : LK) ([.st TI.node] : LK) c73)]) fd79 [parK, ptsK] [parK, ptsK] ([] : LK) ([] : LK) x a
theorem fdok79 : FDOk Tryz.prog (hasN []) (hasN []) 79 fd79 := ⟨⟨Tryz.f79, Tryz.func79, by kernel_rfl, Tryz.ntmps79, Tryz.results79⟩, by kernel_rfl, by kernel_rfl, by kernel_rfl⟩
theorem fdok79_36 : FDOk Tryz.prog (hasN []) (hasN []) 36 fd36 := ⟨⟨Tryz.f36, Tryz.func36, by kernel_rfl, Tryz.ntmps36, Tryz.results36⟩, by kernel_rfl, by kernel_rfl, by kernel_rfl⟩
noncomputable def run82 (fu : Nat) (c54 : denKs ([.dl TI.str] : LK) → MM (denKs ([.bool] : LK))) (c73 : denKs ([] : LK) → MM (denKs ([.st TI.node] : LK))) (c78 : denKs ([.str] : LK) → MM (denKs ([.st TI.node] : LK))) (c81 : denKs ([] : LK) → MM (denKs ([.st TI.node] : LK) × Option MT)) (c111 : denKs ([] : LK) → MM (denKs ([.st TI.node] : LK))) (x : denKs [parK, ptsK]) (a : denKs ([] : LK)) : Option (Option (denKs [parK, ptsK] × denKs ([] : LK))) :=
  runP CC Tb fu 3 (findF [(36, fd36)]) (findF []) (findF []) (findF [(54, cJ ([.dl TI.str] : LK) ([.bool] : LK) c54), (73, cM ([] : LK) ([.st TI.node] : LK) c73), (78, cM ([.str] : LK) ([.st TI.node] : LK) c78), (81, cLj ([] : LK) ([.st TI.node] : LK) c81), (111, cM ([] : LK) ([.st TI.node] : LK) c111)]) fd82 [parK, ptsK] [parK, ptsK] ([] : LK) ([] : LK) x a
theorem fdok82 : FDOk Tryz.prog (hasN []) (hasN []) 82 fd82 := ⟨⟨Tryz.f82, Tryz.func82, by kernel_rfl, Tryz.ntmps82, Tryz.results82⟩, by kernel_rfl, by kernel_rfl, by kernel_rfl⟩
theorem fdok82_36 : FDOk Tryz.prog (hasN []) (hasN []) 36 fd36 := ⟨⟨Tryz.f36, Tryz.func36, by kernel_rfl, Tryz.ntmps36, Tryz.results36⟩, by kernel_rfl, by kernel_rfl, by kernel_rfl⟩
noncomputable def run56 (fu : Nat) (c54 : denKs ([.dl TI.str] : LK) → MM (denKs ([.bool] : LK))) (c56 : denKs ([] : LK) → MM (denKs ([.st TI.node, .str, .bool] : LK) × Option (Option MT))) (c72 : denKs ([.int .i64] : LK) → MM (denKs ([.str] : LK))) (c73 : denKs ([] : LK) → MM (denKs ([.st TI.node] : LK))) (c78 : denKs ([.str] : LK) → MM (denKs ([.st TI.node] : LK))) (c79 : denKs ([] : LK) → List Nd → MM (denKs ([] : LK) × List Nd)) (c80 : denKs ([] : LK) → MM (denKs ([.st TI.node] : LK))) (c81 : denKs ([] : LK) → MM (denKs ([.st TI.node] : LK) × Option MT)) (c82 : denKs ([] : LK) → List Nd → MM (denKs ([] : LK) × List Nd)) (x : denKs [parK]) (a : denKs ([] : LK)) : Option (Option (denKs [parJ] × denKs ([.st TI.node, .str, .bool] : LK))) :=
  runP CC Tb fu 3 (findF [(36, fd36)]) (findF []) (findF [(38, crNode)]) (findF [(54, cJ ([.dl TI.str] : LK) ([.bool] : LK) c54), (56, cNj ([] : LK) ([.st TI.node, .str, .bool] : LK) c56), (72, cJ ([.int .i64] : LK) ([.str] : LK) c72), (73, cM ([] : LK) ([.st TI.node] : LK) c73), (78, cM ([.str] : LK) ([.st TI.node] : LK) c78), (79, cX ([] : LK) ([] : LK) c79), (80, cM ([] : LK) ([.st TI.node] : LK) c80), (81, cL ([] : LK) ([.st TI.node] : LK) c81), (82, cX ([] : LK) ([] : LK) c82)]) fd56 [parK] [parJ] ([] : LK) ([.st TI.node, .str, .bool] : LK) x a
theorem fdok56 : FDOk Tryz.prog (hasN []) (hasN [38]) 56 fd56 := ⟨⟨Tryz.f56, Tryz.func56, by kernel_rfl, Tryz.ntmps56, Tryz.results56⟩, by kernel_rfl, by kernel_rfl, by kernel_rfl⟩
theorem fdok56_36 : FDOk Tryz.prog (hasN []) (hasN [38]) 36 fd36 := ⟨⟨Tryz.f36, Tryz.func36, by kernel_rfl, Tryz.ntmps36, Tryz.results36⟩, by kernel_rfl, by kernel_rfl, by kernel_rfl⟩
noncomputable def run130 (fu : Nat) (c54 : denKs ([.dl TI.str] : LK) → MM (denKs ([.bool] : LK))) (c72 : denKs ([.int .i64] : LK) → MM (denKs ([.str] : LK))) (c73 : denKs ([] : LK) → MM (denKs ([.st TI.node] : LK))) (c76 : denKs ([.int .i64] : LK) → MM (denKs ([.bool] : LK))) (c78 : denKs ([.str] : LK) → MM (denKs ([.st TI.node] : LK))) (c79 : denKs ([] : LK) → List Nd → MM (denKs ([] : LK) × List Nd)) (c82 : denKs ([] : LK) → List Nd → MM (denKs ([] : LK) × List Nd)) (c85 : denKs ([.int .i64] : LK) → MM (denKs ([.bool] : LK))) (c130 : denKs ([.bool] : LK) → MM (denKs ([.st TI.node, .str, .bool] : LK))) (x : denKs [parK]) (a : denKs ([.bool] : LK)) : Option (Option (denKs [parK] × denKs ([.st TI.node, .str, .bool] : LK))) :=
  runP CC Tb fu 3 (findF [(36, fd36)]) (findF []) (findF [(38, crNode)]) (findF [(54, cJ ([.dl TI.str] : LK) ([.bool] : LK) c54), (72, cJ ([.int .i64] : LK) ([.str] : LK) c72), (73, cM ([] : LK) ([.st TI.node] : LK) c73), (76, cM ([.int .i64] : LK) ([.bool] : LK) c76), (78, cM ([.str] : LK) ([.st TI.node] : LK) c78), (79, cX ([] : LK) ([] : LK) c79), (82, cX ([] : LK) ([] : LK) c82), (85, cM ([.int .i64] : LK) ([.bool] : LK) c85), (130, cM ([.bool] : LK) ([.st TI.node, .str, .bool] : LK) c130)]) fd130 [parK] [parK] ([.bool] : LK) ([.st TI.node, .str, .bool] : LK) x a
theorem fdok130 : FDOk Tryz.prog (hasN []) (hasN [38]) 130 fd130 := ⟨⟨Tryz.f130, Tryz.func130, by kernel_rfl, Tryz.ntmps130, Tryz.results130⟩, by kernel_rfl, by kernel_rfl, by kernel_rfl⟩
theorem fdok130_36 : FDOk Tryz.prog (hasN []) (hasN [38]) 36 fd36 := ⟨⟨Tryz.f36, Tryz.func36, by kernel_rfl, Tryz.ntmps36, Tryz.results36⟩, by kernel_rfl, by kernel_rfl, by kernel_rfl⟩
noncomputable def run81 (fu : Nat) (c54 : denKs ([.dl TI.str] : LK) → MM (denKs ([.bool] : LK))) (c59 : denKs ([.mpo] : LK) → MM (denKs ([] : LK))) (c61 : denKs ([] : LK) → MM (denKs ([.mpo] : LK))) (c73 : denKs ([] : LK) → MM (denKs ([.st TI.node] : LK))) (c78 : denKs ([.str] : LK) → MM (denKs ([.st TI.node] : LK))) (c110 : denKs ([] : LK) → MM (denKs ([.st TI.node] : LK))) (x : denKs [parK]) (a : denKs ([] : LK)) : Option (Option (denKs [parL] × denKs ([.st TI.node] : LK))) :=
  runP CC Tb fu 3 (findF [(36, fd36)]) (findF []) (findF [(38, crNode)]) (findF [(54, cJ ([.dl TI.str] : LK) ([.bool] : LK) c54), (59, cM ([.mpo] : LK) ([] : LK) c59), (61, cM ([] : LK) ([.mpo] : LK) c61), (73, cM ([] : LK) ([.st TI.node] : LK) c73), (78, cM ([.str] : LK) ([.st TI.node] : LK) c78), (110, cM ([] : LK) ([.st TI.node] : LK) c110)]) fd81 [parK] [parL] ([] : LK) ([.st TI.node] : LK) x a
theorem fdok81 : FDOk Tryz.prog (hasN []) (hasN [38]) 81 fd81 := ⟨⟨Tryz.f81, Tryz.func81, by kernel_rfl, Tryz.ntmps81, Tryz.results81⟩, by kernel_rfl, by kernel_rfl, by kernel_rfl⟩
theorem fdok81_36 : FDOk Tryz.prog (hasN []) (hasN [38]) 36 fd36 := ⟨⟨Tryz.f36, Tryz.func36, by kernel_rfl, Tryz.ntmps36, Tryz.results36⟩, by kernel_rfl, by kernel_rfl, by kernel_rfl⟩
noncomputable def run110 (fu : Nat) (c53 : denKs ([] : LK) → MM (denKs ([.st TI.node, .bool] : LK))) (c58 : denKs ([.str, .bool] : LK) → MM (denKs ([] : LK))) (c130 : denKs ([.bool] : LK) → MM (denKs ([.st TI.node, .str, .bool] : LK))) (x : denKs [parK]) (a : denKs ([] : LK)) : Option (Option (denKs [parK] × denKs ([.st TI.node] : LK))) :=
  runP CC Tb fu 3 (findF [(36, fd36)]) (findF []) (findF [(38, crNode)]) (findF [(53, cM ([] : LK) ([.st TI.node, .bool] : LK) c53), (58, cM ([.str, .bool] : LK) ([] : LK) c58), (130, cM ([.bool] : LK) ([.st TI.node, .str, .bool] : LK) c130)]) fd110 [parK] [parK] ([] : LK) ([.st TI.node] : LK) x a
theorem fdok110 : FDOk Tryz.prog (hasN []) (hasN [38]) 110 fd110 := ⟨⟨Tryz.f110, Tryz.func110, by kernel_rfl, Tryz.ntmps110, Tryz.results110⟩, by kernel_rfl, by kernel_rfl, by kernel_rfl⟩
theorem fdok110_36 : FDOk Tryz.prog (hasN []) (hasN [38]) 36 fd36 := ⟨⟨Tryz.f36, Tryz.func36, by kernel_rfl, Tryz.ntmps36, Tryz.results36⟩, by kernel_rfl, by kernel_rfl, by kernel_rfl⟩
noncomputable def run151 (fu : Nat) (c53 : denKs ([] : LK) → MM (denKs ([.st TI.node, .bool] : LK))) (c130 : denKs ([.bool] : LK) → MM (denKs ([.st TI.node, .str, .bool] : LK))) (x : denKs [parK]) (a : denKs ([] : LK)) : Option (Option (denKs [parK] × denKs ([.st TI.node] : LK))) :=
  runP CC Tb fu 3 (findF [(36, fd36)]) (findF []) (findF [(38, crNode)]) (findF [(53, cM ([] : LK) ([.st TI.node, .bool] : LK) c53), (130, cM ([.bool] : LK) ([.st TI.node, .str, .bool] : LK) c130)]) fd151 [parK] [parK] ([] : LK) ([.st TI.node] : LK) x a
theorem fdok151 : FDOk Tryz.prog (hasN []) (hasN [38]) 151 fd151 := ⟨⟨Tryz.f151, Tryz.func151, by kernel_rfl, Tryz.ntmps151, Tryz.results151⟩, by kernel_rfl, by kernel_rfl, by kernel_rfl⟩
theorem fdok151_36 : FDOk Tryz.prog (hasN []) (hasN [38]) 36 fd36 := ⟨⟨Tryz.f36, Tryz.func36, by kernel_rfl, Tryz.ntmps36, Tryz.results36⟩, by kernel_rfl, by kernel_rfl, by kernel_rfl⟩
noncomputable def run83 (fu : Nat) (c54 : denKs ([.dl TI.str] : LK) → MM (denKs ([.bool] : LK))) (c73 : denKs ([] : LK) → MM (denKs ([.st TI.node] : LK))) (c78 : denKs ([.str] : LK) → MM (denKs ([.st TI.node] : LK))) (c83 : denKs ([] : LK) → MM (denKs ([.st TI.node] : LK))) (c111 : denKs ([] : LK) → MM (denKs ([.st TI.node] : LK))) (x : denKs [parK]) (a : denKs ([] : LK)) : Option (Option (denKs [parK] × denKs ([.st TI.node] : LK))) :=
  runP CC Tb fu 3 (findF [(36, fd36)]) (findF []) (findF [(38, crNode)]) (findF [(54, cJ ([.dl TI.str] : LK) ([.bool] : LK) c54), (73, cM ([] : LK) ([.st TI.node] : LK) c73), (78, cM ([.str] : LK) ([.st TI.node] : LK) c78), (83, cM ([] : LK) ([.st TI.node] : LK) c83), (111, cM ([] : LK) ([.st TI.node] : LK) c111)]) fd83 [parK] [parK] ([] : LK) ([.st TI.node] : LK) x a
theorem fdok83 : FDOk Tryz.prog (hasN []) (hasN [38]) 83 fd83 := ⟨⟨Tryz.f83, Tryz.func83, by kernel_rfl, Tryz.ntmps83, Tryz.results83⟩, by kernel_rfl, by kernel_rfl, by kernel_rfl⟩
theorem fdok83_36 : FDOk Tryz.prog (hasN []) (hasN [38]) 36 fd36 := ⟨⟨Tryz.f36, Tryz.func36, by kernel_rfl, Tryz.ntmps36, Tryz.results36⟩, by kernel_rfl, by kernel_rfl, by kernel_rfl⟩
noncomputable def run57 (fu : Nat) (c54 : denKs ([.dl TI.str] : LK) → MM (denKs ([.bool] : LK))) (c58 : denKs ([.str, .bool] : LK) → MM (denKs ([] : LK))) (c73 : denKs ([] : LK) → MM (denKs ([.st TI.node] : LK))) (c83 : denKs ([] : LK) → MM (denKs ([.st TI.node] : LK))) (x : denKs [parK]) (a : denKs ([.st TI.node, .str, .bool] : LK)) : Option (Option (denKs [parK] × denKs ([.st TI.node] : LK))) :=
  runP CC Tb fu 3 (findF [(36, fd36)]) (findF []) (findF [(38, crNode)]) (findF [(54, cJ ([.dl TI.str] : LK) ([.bool] : LK) c54), (58, cM ([.str, .bool] : LK) ([] : LK) c58), (73, cM ([] : LK) ([.st TI.node] : LK) c73), (83, cM ([] : LK) ([.st TI.node] : LK) c83)]) fd57 [parK] [parK] ([.st TI.node, .str, .bool] : LK) ([.st TI.node] : LK) x a
theorem fdok57 : FDOk Tryz.prog (hasN []) (hasN [38]) 57 fd57 := ⟨⟨Tryz.f57, Tryz.func57, by kernel_rfl, Tryz.ntmps57, Tryz.results57⟩, by kernel_rfl, by kernel_rfl, by kernel_rfl⟩
theorem fdok57_36 : FDOk Tryz.prog (hasN []) (hasN [38]) 36 fd36 := ⟨⟨Tryz.f36, Tryz.func36, by kernel_rfl, Tryz.ntmps36, Tryz.results36⟩, by kernel_rfl, by kernel_rfl, by kernel_rfl⟩
noncomputable def run55 (fu : Nat) (c54 : denKs ([.dl TI.str] : LK) → MM (denKs ([.bool] : LK))) (c56 : denKs ([] : LK) → MM (denKs ([.st TI.node, .str, .bool] : LK) × Option (Option MT))) (c57 : denKs ([.st TI.node, .str, .bool] : LK) → MM (denKs ([.st TI.node] : LK))) (c73 : denKs ([] : LK) → MM (denKs ([.st TI.node] : LK))) (c78 : denKs ([.str] : LK) → MM (denKs ([.st TI.node] : LK))) (x : denKs [parK]) (a : denKs ([.ag [.ow true TI.node], .bool] : LK)) : Option (Option (denKs [parK] × denKs ([.st TI.node] : LK))) :=
  runP CC Tb fu 3 (findF [(36, fd36)]) (findF []) (findF [(38, crNode)]) (findF [(54, cJ ([.dl TI.str] : LK) ([.bool] : LK) c54), (56, cNj ([] : LK) ([.st TI.node, .str, .bool] : LK) c56), (57, cM ([.st TI.node, .str, .bool] : LK) ([.st TI.node] : LK) c57), (73, cM ([] : LK) ([.st TI.node] : LK) c73), (78, cM ([.str] : LK) ([.st TI.node] : LK) c78)]) fd55 [parK] [parK] ([.ag [.ow true TI.node], .bool] : LK) ([.st TI.node] : LK) x a
theorem fdok55 : FDOk Tryz.prog (hasN []) (hasN [38]) 55 fd55 := ⟨⟨Tryz.f55, Tryz.func55, by kernel_rfl, Tryz.ntmps55, Tryz.results55⟩, by kernel_rfl, by kernel_rfl, by kernel_rfl⟩
theorem fdok55_36 : FDOk Tryz.prog (hasN []) (hasN [38]) 36 fd36 := ⟨⟨Tryz.f36, Tryz.func36, by kernel_rfl, Tryz.ntmps36, Tryz.results36⟩, by kernel_rfl, by kernel_rfl, by kernel_rfl⟩
noncomputable def run37 (fu : Nat) (c53 : denKs ([] : LK) → MM (denKs ([.st TI.node, .bool] : LK))) (c54 : denKs ([.dl TI.str] : LK) → MM (denKs ([.bool] : LK))) (c55 : denKs ([.ag [.ow true TI.node], .bool] : LK) → MM (denKs ([.st TI.node] : LK))) (c56 : denKs ([] : LK) → MM (denKs ([.st TI.node, .str, .bool] : LK) × Option (Option MT))) (c57 : denKs ([.st TI.node, .str, .bool] : LK) → MM (denKs ([.st TI.node] : LK))) (c58 : denKs ([.str, .bool] : LK) → MM (denKs ([] : LK))) (c59 : denKs ([.mpo] : LK) → MM (denKs ([] : LK))) (c60 : denKs ([] : LK) → MM (denKs ([.st TI.node] : LK))) (c61 : denKs ([] : LK) → MM (denKs ([.mpo] : LK))) (x : denKs [parK]) (a : denKs ([.bool] : LK)) : Option (Option (denKs [parK] × denKs ([.st TI.node] : LK))) :=
  runP CC Tb fu 3 (findF [(36, fd36)]) (findF []) (findF [(38, crNode)]) (findF [(53, cM ([] : LK) ([.st TI.node, .bool] : LK) c53), (54, cJ ([.dl TI.str] : LK) ([.bool] : LK) c54), (55, cM ([.ag [.ow true TI.node], .bool] : LK) ([.st TI.node] : LK) c55), (56, cN ([] : LK) ([.st TI.node, .str, .bool] : LK) c56), (57, cM ([.st TI.node, .str, .bool] : LK) ([.st TI.node] : LK) c57), (58, cM ([.str, .bool] : LK) ([] : LK) c58), (59, cM ([.mpo] : LK) ([] : LK) c59), (60, cM ([] : LK) ([.st TI.node] : LK) c60), (61, cM ([] : LK) ([.mpo] : LK) c61)]) fd37 [parK] [parK] ([.bool] : LK) ([.st TI.node] : LK) x a
theorem fdok37 : FDOk Tryz.prog (hasN []) (hasN [38]) 37 fd37 := ⟨⟨Tryz.f37, Tryz.func37, by kernel_rfl, Tryz.ntmps37, Tryz.results37⟩, by kernel_rfl, by kernel_rfl, by kernel_rfl⟩
theorem fdok37_36 : FDOk Tryz.prog (hasN []) (hasN [38]) 36 fd36 := ⟨⟨Tryz.f36, Tryz.func36, by kernel_rfl, Tryz.ntmps36, Tryz.results36⟩, by kernel_rfl, by kernel_rfl, by kernel_rfl⟩
noncomputable def run60 (fu : Nat) (c37 : denKs ([.bool] : LK) → MM (denKs ([.st TI.node] : LK))) (c54 : denKs ([.dl TI.str] : LK) → MM (denKs ([.bool] : LK))) (c72 : denKs ([.int .i64] : LK) → MM (denKs ([.str] : LK))) (c73 : denKs ([] : LK) → MM (denKs ([.st TI.node] : LK))) (c78 : denKs ([.str] : LK) → MM (denKs ([.st TI.node] : LK))) (c84 : denKs ([.int .i64] : LK) → MM (denKs ([.bool] : LK))) (c85 : denKs ([.int .i64] : LK) → MM (denKs ([.bool] : LK))) (c86 : denKs ([] : LK) → MM (denKs ([.st TI.node] : LK))) (x : denKs [parK]) (a : denKs ([] : LK)) : Option (Option (denKs [parK] × denKs ([.st TI.node] : LK))) :=
  runP CC Tb fu 3 (findF [(36, fd36)]) (findF []) (findF [(38, crNode)]) (findF [(37, cM ([.bool] : LK) ([.st TI.node] : LK) c37), (54, cJ ([.dl TI.str] : LK) ([.bool] : LK) c54), (72, cJ ([.int .i64] : LK) ([.str] : LK) c72), (73, cM ([] : LK) ([.st TI.node] : LK) c73), (78, cM ([.str] : LK) ([.st TI.node] : LK) c78), (84, cM ([.int .i64] : LK) ([.bool] : LK) c84), (85, cM ([.int .i64] : LK) ([.bool] : LK) c85), (86, cM ([] : LK) ([.st TI.node] : LK) c86)]) fd60 [parK] [parK] ([] : LK) ([.st TI.node] : LK) x a
theorem fdok60 : FDOk Tryz.prog (hasN []) (hasN [38]) 60 fd60 := ⟨⟨Tryz.f60, Tryz.func60, by kernel_rfl, Tryz.ntmps60, Tryz.results60⟩, by kernel_rfl, by kernel_rfl, by kernel_rfl⟩
theorem fdok60_36 : FDOk Tryz.prog (hasN []) (hasN [38]) 36 fd36 := ⟨⟨Tryz.f36, Tryz.func36, by kernel_rfl, Tryz.ntmps36, Tryz.results36⟩, by kernel_rfl, by kernel_rfl, by kernel_rfl⟩
noncomputable def run86 (fu : Nat) (c54 : denKs ([.dl TI.str] : LK) → MM (denKs ([.bool] : LK))) (c59 : denKs ([.mpo] : LK) → MM (denKs ([] : LK))) (c60 : denKs ([] : LK) → MM (denKs ([.st TI.node] : LK))) (c61 : denKs ([] : LK) → MM (denKs ([.mpo] : LK))) (c72 : denKs ([.int .i64] : LK) → MM (denKs ([.str] : LK))) (c73 : denKs ([] : LK) → MM (denKs ([.st TI.node] : LK))) (c78 : denKs ([.str] : LK) → MM (denKs ([.st TI.node] : LK))) (c80 : denKs ([] : LK) → MM (denKs ([.st TI.node] : LK))) (c85 : denKs ([.int .i64] : LK) → MM (denKs ([.bool] : LK))) (c86 : denKs ([] : LK) → MM (denKs ([.st TI.node] : LK))) (c112 : denKs ([.int .i64] : LK) → MM (denKs ([.bool] : LK))) (c113 : denKs ([] : LK) → MM (denKs ([.st TI.node] : LK))) (c114 : denKs ([] : LK) → MM (denKs ([.st TI.node] : LK))) (c115 : denKs ([] : LK) → List Nd → MM (denKs ([] : LK) × List Nd)) (c116 : denKs ([.ag [.ow true TI.node]] : LK) → MM (denKs ([.st TI.node] : LK))) (c117 : denKs ([.str] : LK) → List Nd → MM (denKs ([] : LK) × List Nd)) (x : denKs [parK]) (a : denKs ([] : LK)) : Option (Option (denKs [parK] × denKs ([.st TI.node] : LK))) :=
  runP CC Tb fu 3 (findF [(36, fd36)]) (findF []) (findF [(38, crNode)]) (findF [(54, cJ ([.dl TI.str] : LK) ([.bool] : LK) c54), (59, cM ([.mpo] : LK) ([] : LK) c59), (60, cM ([] : LK) ([.st TI.node] : LK) c60), (61, cM ([] : LK) ([.mpo] : LK) c61), (72, cJ ([.int .i64] : LK) ([.str] : LK) c72), (73, cM ([] : LK) ([.st TI.node] : LK) c73), (77, cNeed), (78, cM ([.str] : LK) ([.st TI.node] : LK) c78), (80, cM ([] : LK) ([.st TI.node] : LK) c80), (85, cM ([.int .i64] : LK) ([.bool] : LK) c85), (86, cM ([] : LK) ([.st TI.node] : LK) c86), (112, cM ([.int .i64] : LK) ([.bool] : LK) c112), (113, cM ([] : LK) ([.st TI.node] : LK) c113), (114, cM ([] : LK) ([.st TI.node] : LK) c114), (115, cX ([] : LK) ([] : LK) c115), (116, cM ([.ag [.ow true TI.node]] : LK) ([.st TI.node] : LK) c116), (117, cX ([.str] : LK) ([] : LK) c117)]) fd86 [parK] [parK] ([] : LK) ([.st TI.node] : LK) x a
theorem fdok86 : FDOk Tryz.prog (hasN []) (hasN [38]) 86 fd86 := ⟨⟨Tryz.f86, Tryz.func86, by kernel_rfl, Tryz.ntmps86, Tryz.results86⟩, by kernel_rfl, by kernel_rfl, by kernel_rfl⟩
theorem fdok86_36 : FDOk Tryz.prog (hasN []) (hasN [38]) 36 fd36 := ⟨⟨Tryz.f36, Tryz.func36, by kernel_rfl, Tryz.ntmps36, Tryz.results36⟩, by kernel_rfl, by kernel_rfl, by kernel_rfl⟩
noncomputable def run116 (fu : Nat) (c37 : denKs ([.bool] : LK) → MM (denKs ([.st TI.node] : LK))) (c59 : denKs ([.mpo] : LK) → MM (denKs ([] : LK))) (c61 : denKs ([] : LK) → MM (denKs ([.mpo] : LK))) (c78 : denKs ([.str] : LK) → MM (denKs ([.st TI.node] : LK))) (c84 : denKs ([.int .i64] : LK) → MM (denKs ([.bool] : LK))) (c86 : denKs ([] : LK) → MM (denKs ([.st TI.node] : LK))) (c117 : denKs ([.str] : LK) → List Nd → MM (denKs ([] : LK) × List Nd)) (x : denKs [parK]) (a : denKs ([.ag [.ow true TI.node]] : LK)) : Option (Option (denKs [parK] × denKs ([.st TI.node] : LK))) :=
  runP CC Tb fu 3 (findF [(36, fd36)]) (findF []) (findF [(38, crNode)]) (findF [(37, cM ([.bool] : LK) ([.st TI.node] : LK) c37), (59, cM ([.mpo] : LK) ([] : LK) c59), (61, cM ([] : LK) ([.mpo] : LK) c61), (78, cM ([.str] : LK) ([.st TI.node] : LK) c78), (84, cM ([.int .i64] : LK) ([.bool] : LK) c84), (86, cM ([] : LK) ([.st TI.node] : LK) c86), (117, cX ([.str] : LK) ([] : LK) c117)]) fd116 [parK] [parK] ([.ag [.ow true TI.node]] : LK) ([.st TI.node] : LK) x a
theorem fdok116 : FDOk Tryz.prog (hasN []) (hasN [38]) 116 fd116 := ⟨⟨Tryz.f116, Tryz.func116, by kernel_rfl, Tryz.ntmps116, Tryz.results116⟩, by kernel_rfl, by kernel_rfl, by kernel_rfl⟩
theorem fdok116_36 : FDOk Tryz.prog (hasN []) (hasN [38]) 36 fd36 := ⟨⟨Tryz.f36, Tryz.func36, by kernel_rfl, Tryz.ntmps36, Tryz.results36⟩, by kernel_rfl, by kernel_rfl, by kernel_rfl⟩
noncomputable def run115 (fu : Nat) (c78 : denKs ([.str] : LK) → MM (denKs ([.st TI.node] : LK))) (c113 : denKs ([] : LK) → MM (denKs ([.st TI.node] : LK))) (x : denKs [parK, ptsK]) (a : denKs ([] : LK)) : Option (Option (denKs [parK, ptsK] × denKs ([] : LK))) :=
  runP CC Tb fu 3 (findF [(36, fd36)]) (findF []) (findF []) (findF [(78, cM ([.str] : LK) ([.st TI.node] : LK) c78), (113, cM ([] : LK) ([.st TI.node] : LK) c113)]) fd115 [parK, ptsK] [parK, ptsK] ([] : LK) ([] : LK) x a
theorem fdok115 : FDOk Tryz.prog (hasN []) (hasN []) 115 fd115 := ⟨⟨Tryz.f115, Tryz.func115, by kernel_rfl, Tryz.ntmps115, Tryz.results115⟩, by kernel_rfl, by kernel_rfl, by kernel_rfl⟩
theorem fdok115_36 : FDOk Tryz.prog (hasN []) (hasN []) 36 fd36 := ⟨⟨Tryz.f36, Tryz.func36, by kernel_rfl, Tryz.ntmps36, Tryz.results36⟩, by kernel_rfl, by kernel_rfl, by kernel_rfl⟩
noncomputable def run117 (fu : Nat) (c54 : denKs ([.dl TI.str] : LK) → MM (denKs ([.bool] : LK))) (c78 : denKs ([.str] : LK) → MM (denKs ([.st TI.node] : LK))) (c113 : denKs ([] : LK) → MM (denKs ([.st TI.node] : LK))) (x : denKs [parK, ptsK]) (a : denKs ([.str] : LK)) : Option (Option (denKs [parK, ptsK] × denKs ([] : LK))) :=
  runP CC Tb fu 3 (findF [(36, fd36)]) (findF []) (findF []) (findF [(54, cJ ([.dl TI.str] : LK) ([.bool] : LK) c54), (78, cM ([.str] : LK) ([.st TI.node] : LK) c78), (113, cM ([] : LK) ([.st TI.node] : LK) c113)]) fd117 [parK, ptsK] [parK, ptsK] ([.str] : LK) ([] : LK) x a
theorem fdok117 : FDOk Tryz.prog (hasN []) (hasN []) 117 fd117 := ⟨⟨Tryz.f117, Tryz.func117, by kernel_rfl, Tryz.ntmps117, Tryz.results117⟩, by kernel_rfl, by kernel_rfl, by kernel_rfl⟩
theorem fdok117_36 : FDOk Tryz.prog (hasN []) (hasN []) 36 fd36 := ⟨⟨Tryz.f36, Tryz.func36, by kernel_rfl, Tryz.ntmps36, Tryz.results36⟩, by kernel_rfl, by kernel_rfl, by kernel_rfl⟩
noncomputable def run113 (fu : Nat) (c54 : denKs ([.dl TI.str] : LK) → MM (denKs ([.bool] : LK))) (c73 : denKs ([] : LK) → MM (denKs ([.st TI.node] : LK))) (c111 : denKs ([] : LK) → MM (denKs ([.st TI.node] : LK))) (c113 : denKs ([] : LK) → MM (denKs ([.st TI.node] : LK))) (x : denKs [parK]) (a : denKs ([] : LK)) : Option (Option (denKs [parK] × denKs ([.st TI.node] : LK))) :=
  runP CC Tb fu 3 (findF [(41, fd41)]) (findF []) (findF []) (findF [(54, cJ ([.dl TI.str] : LK) ([.bool] : LK) c54), (73, cM ([] : LK) ([.st TI.node] : LK) c73), (111, cM ([] : LK) ([.st TI.node] : LK) c111), (113, cM ([] : LK) ([.st TI.node] : LK) c113)]) fd113 [parK] [parK] ([] : LK) ([.st TI.node] : LK) x a
theorem fdok113 : FDOk Tryz.prog (hasN []) (hasN []) 113 fd113 := ⟨⟨Tryz.f113, Tryz.func113, by kernel_rfl, Tryz.ntmps113, Tryz.results113⟩, by kernel_rfl, by kernel_rfl, by kernel_rfl⟩
theorem fdok113_41 : FDOk Tryz.prog (hasN []) (hasN []) 41 fd41 := ⟨⟨Tryz.f41, Tryz.func41, by kernel_rfl, Tryz.ntmps41, Tryz.results41⟩, by kernel_rfl, by kernel_rfl, by kernel_rfl⟩
noncomputable def run111 (fu : Nat) (c54 : denKs ([.dl TI.str] : LK) → MM (denKs ([.bool] : LK))) (c73 : denKs ([] : LK) → MM (denKs ([.st TI.node] : LK))) (c111 : denKs ([] : LK) → MM (denKs ([.st TI.node] : LK))) (c114 : denKs ([] : LK) → MM (denKs ([.st TI.node] : LK))) (x : denKs [parK]) (a : denKs ([] : LK)) : Option (Option (denKs [parK] × denKs ([.st TI.node] : LK))) :=
  runP CC Tb fu 3 (findF [(41, fd41)]) (findF []) (findF []) (findF [(54, cJ ([.dl TI.str] : LK) ([.bool] : LK) c54), (73, cM ([] : LK) ([.st TI.node] : LK) c73), (111, cM ([] : LK) ([.st TI.node] : LK) c111), (114, cM ([] : LK) ([.st TI.node] : LK) c114)]) fd111 [parK] [parK] ([] : LK) ([.st TI.node] : LK) x a
theorem fdok111 : FDOk Tryz.prog (hasN []) (hasN []) 111 fd111 := ⟨⟨Tryz.f111, Tryz.func111, by kernel_rfl, Tryz.ntmps111, Tryz.results111⟩, by kernel_rfl, by kernel_rfl, by kernel_rfl⟩
theorem fdok111_41 : FDOk Tryz.prog (hasN []) (hasN []) 41 fd41 := ⟨⟨Tryz.f41, Tryz.func41, by kernel_rfl, Tryz.ntmps41, Tryz.results41⟩, by kernel_rfl, by kernel_rfl, by kernel_rfl⟩
noncomputable def run114 (fu : Nat) (c54 : denKs ([.dl TI.str] : LK) → MM (denKs ([.bool] : LK))) (c73 : denKs ([] : LK) → MM (denKs ([.st TI.node] : LK))) (c78 : denKs ([.str] : LK) → MM (denKs ([.st TI.node] : LK))) (c113 : denKs ([] : LK) → MM (denKs ([.st TI.node] : LK))) (c114 : denKs ([] : LK) → MM (denKs ([.st TI.node] : LK))) (c131 : denKs ([.int .i64] : LK) → MM (denKs ([.st TI.node] : LK))) (x : denKs [parK]) (a : denKs ([] : LK)) : Option (Option (denKs [parK] × denKs ([.st TI.node] : LK))) :=
  runP CC Tb fu 3 (findF [(36, fd36)]) (findF []) (findF [(38, crNode)]) (findF [(54, cJ ([.dl TI.str] : LK) ([.bool] : LK) c54), (73, cM ([] : LK) ([.st TI.node] : LK) c73), (78, cM ([.str] : LK) ([.st TI.node] : LK) c78), (113, cM ([] : LK) ([.st TI.node] : LK) c113), (114, cM ([] : LK) ([.st TI.node] : LK) c114), (131, cM ([.int .i64] : LK) ([.st TI.node] : LK) c131)]) fd114 [parK] [parK] ([] : LK) ([.st TI.node] : LK) x a
theorem fdok114 : FDOk Tryz.prog (hasN []) (hasN [38]) 114 fd114 := ⟨⟨Tryz.f114, Tryz.func114, by kernel_rfl, Tryz.ntmps114, Tryz.results114⟩, by kernel_rfl, by kernel_rfl, by kernel_rfl⟩
theorem fdok114_36 : FDOk Tryz.prog (hasN []) (hasN [38]) 36 fd36 := ⟨⟨Tryz.f36, Tryz.func36, by kernel_rfl, Tryz.ntmps36, Tryz.results36⟩, by kernel_rfl, by kernel_rfl, by kernel_rfl⟩
noncomputable def run131 (fu : Nat) (c143 : List UInt8 × Unit → Option (Int × Unit)) (c72 : denKs ([.int .i64] : LK) → MM (denKs ([.str] : LK))) (c73 : denKs ([] : LK) → MM (denKs ([.st TI.node] : LK))) (c131 : denKs ([.int .i64] : LK) → MM (denKs ([.st TI.node] : LK))) (c142 : denKs ([] : LK) → MM (denKs ([.st TI.node] : LK))) (x : denKs [parK]) (a : denKs ([.int .i64] : LK)) : Option (Option (denKs [parK] × denKs ([.st TI.node] : LK))) :=
  runP CC Tb fu 3 (findF [(41, fd41)]) (findF [(143, (⟨as143, rs143, c143⟩ : Con UU))]) (findF []) (findF [(72, cJ ([.int .i64] : LK) ([.str] : LK) c72), (73, cM ([] : LK) ([.st TI.node] : LK) c73), (131, cM ([.int .i64] : LK) ([.st TI.node] : LK) c131), (142, cM ([] : LK) ([.st TI.node] : LK) c142)]) fd131 [parK] [parK] ([.int .i64] : LK) ([.st TI.node] : LK) x a
theorem fdok131 : FDOk Tryz.prog (hasN [143]) (hasN []) 131 fd131 := ⟨⟨Tryz.f131, Tryz.func131, by kernel_rfl, Tryz.ntmps131, Tryz.results131⟩, by kernel_rfl, by kernel_rfl, by kernel_rfl⟩
theorem fdok131_41 : FDOk Tryz.prog (hasN [143]) (hasN []) 41 fd41 := ⟨⟨Tryz.f41, Tryz.func41, by kernel_rfl, Tryz.ntmps41, Tryz.results41⟩, by kernel_rfl, by kernel_rfl, by kernel_rfl⟩
noncomputable def run142 (fu : Nat) (c54 : denKs ([.dl TI.str] : LK) → MM (denKs ([.bool] : LK))) (c73 : denKs ([] : LK) → MM (denKs ([.st TI.node] : LK))) (c78 : denKs ([.str] : LK) → MM (denKs ([.st TI.node] : LK))) (c84 : denKs ([.int .i64] : LK) → MM (denKs ([.bool] : LK))) (c142 : denKs ([] : LK) → MM (denKs ([.st TI.node] : LK))) (c150 : denKs ([] : LK) → MM (denKs ([.st TI.node] : LK))) (c151 : denKs ([] : LK) → MM (denKs ([.st TI.node] : LK))) (x : denKs [parK]) (a : denKs ([] : LK)) : Option (Option (denKs [parK] × denKs ([.st TI.node] : LK))) :=
  runP CC Tb fu 3 (findF [(36, fd36)]) (findF []) (findF [(38, crNode)]) (findF [(54, cJ ([.dl TI.str] : LK) ([.bool] : LK) c54), (73, cM ([] : LK) ([.st TI.node] : LK) c73), (78, cM ([.str] : LK) ([.st TI.node] : LK) c78), (84, cM ([.int .i64] : LK) ([.bool] : LK) c84), (142, cM ([] : LK) ([.st TI.node] : LK) c142), (150, cM ([] : LK) ([.st TI.node] : LK) c150), (151, cM ([] : LK) ([.st TI.node] : LK) c151)]) fd142 [parK] [parK] ([] : LK) ([.st TI.node] : LK) x a
theorem fdok142 : FDOk Tryz.prog (hasN []) (hasN [38]) 142 fd142 := ⟨⟨Tryz.f142, Tryz.func142, by kernel_rfl, Tryz.ntmps142, Tryz.results142⟩, by kernel_rfl, by kernel_rfl, by kernel_rfl⟩
theorem fdok142_36 : FDOk Tryz.prog (hasN []) (hasN [38]) 36 fd36 := ⟨⟨Tryz.f36, Tryz.func36, by kernel_rfl, Tryz.ntmps36, Tryz.results36⟩, by kernel_rfl, by kernel_rfl, by kernel_rfl⟩
noncomputable def run150 (fu : Nat) (c54 : denKs ([.dl TI.str] : LK) → MM (denKs ([.bool] : LK))) (c73 : denKs ([] : LK) → MM (denKs ([.st TI.node] : LK))) (c78 : denKs ([.str] : LK) → MM (denKs ([.st TI.node] : LK))) (c84 : denKs ([.int .i64] : LK) → MM (denKs ([.bool] : LK))) (c142 : denKs ([] : LK) → MM (denKs ([.st TI.node] : LK))) (c150 : denKs ([] : LK) → MM (denKs ([.st TI.node] : LK))) (c151 : denKs ([] : LK) → MM (denKs ([.st TI.node] : LK))) (c154 : denKs ([.st TI.node] : LK) → MM (denKs ([.st TI.node] : LK))) (c155 : denKs ([] : LK) → MM (denKs ([.st TI.node] : LK))) (x : denKs [parK]) (a : denKs ([] : LK)) : Option (Option (denKs [parK] × denKs ([.st TI.node] : LK))) :=
  runP CC Tb fu 3 (findF [(36, fd36)]) (findF []) (findF [(38, crNode)]) (findF [(54, cJ ([.dl TI.str] : LK) ([.bool] : LK) c54), (73, cM ([] : LK) ([.st TI.node] : LK) c73), (78, cM ([.str] : LK) ([.st TI.node] : LK) c78), (84, cM ([.int .i64] : LK) ([.bool] : LK) c84), (142, cM ([] : LK) ([.st TI.node] : LK) c142), (150, cM ([] : LK) ([.st TI.node] : LK) c150), (151, cM ([] : LK) ([.st TI.node] : LK) c151), (154, cM ([.st TI.node] : LK) ([.st TI.node] : LK) c154), (155, cM ([] : LK) ([.st TI.node] : LK) c155)]) fd150 [parK] [parK] ([] : LK) ([.st TI.node] : LK) x a
theorem fdok150 : FDOk Tryz.prog (hasN []) (hasN [38]) 150 fd150 := ⟨⟨Tryz.f150, Tryz.func150, by kernel_rfl, Tryz.ntmps150, Tryz.results150⟩, by kernel_rfl, by kernel_rfl, by kernel_rfl⟩
theorem fdok150_36 : FDOk Tryz.prog (hasN []) (hasN [38]) 36 fd36 := ⟨⟨Tryz.f36, Tryz.func36, by kernel_rfl, Tryz.ntmps36, Tryz.results36⟩, by kernel_rfl, by kernel_rfl, by kernel_rfl⟩
noncomputable def run154 (fu : Nat) (c54 : denKs ([.dl TI.str] : LK) → MM (denKs ([.bool] : LK))) (c73 : denKs ([] : LK) → MM (denKs ([.st TI.node] : LK))) (c78 : denKs ([.str] : LK) → MM (denKs ([.st TI.node] : LK))) (c80 : denKs ([] : LK) → MM (denKs ([.st TI.node] : LK))) (c111 : denKs ([] : LK) → MM (denKs ([.st TI.node] : LK))) (c113 : denKs ([] : LK) → MM (denKs ([.st TI.node] : LK))) (x : denKs [parK]) (a : denKs ([.st TI.node] : LK)) : Option (Option (denKs [parK] × denKs ([.st TI.node] : LK))) :=
  runP CC Tb fu 3 (findF [(36, fd36)]) (findF []) (findF [(38, crNode)]) (findF [(54, cJ ([.dl TI.str] : LK) ([.bool] : LK) c54), (73, cM ([] : LK) ([.st TI.node] : LK) c73), (78, cM ([.str] : LK) ([.st TI.node] : LK) c78), (80, cM ([] : LK) ([.st TI.node] : LK) c80), (111, cM ([] : LK) ([.st TI.node] : LK) c111), (113, cM ([] : LK) ([.st TI.node] : LK) c113)]) fd154 [parK] [parK] ([.st TI.node] : LK) ([.st TI.node] : LK) x a
theorem fdok154 : FDOk Tryz.prog (hasN []) (hasN [38]) 154 fd154 := ⟨⟨Tryz.f154, Tryz.func154, by kernel_rfl, Tryz.ntmps154, Tryz.results154⟩, by kernel_rfl, by kernel_rfl, by kernel_rfl⟩
theorem fdok154_36 : FDOk Tryz.prog (hasN []) (hasN [38]) 36 fd36 := ⟨⟨Tryz.f36, Tryz.func36, by kernel_rfl, Tryz.ntmps36, Tryz.results36⟩, by kernel_rfl, by kernel_rfl, by kernel_rfl⟩
noncomputable def run155 (fu : Nat) (c73 : denKs ([] : LK) → MM (denKs ([.st TI.node] : LK))) (c85 : denKs ([.int .i64] : LK) → MM (denKs ([.bool] : LK))) (c112 : denKs ([.int .i64] : LK) → MM (denKs ([.bool] : LK))) (c115 : denKs ([] : LK) → List Nd → MM (denKs ([] : LK) × List Nd)) (x : denKs [parK]) (a : denKs ([] : LK)) : Option (Option (denKs [parK] × denKs ([.st TI.node] : LK))) :=
  runP CC Tb fu 3 (findF [(36, fd36)]) (findF []) (findF [(38, crNode)]) (findF [(73, cM ([] : LK) ([.st TI.node] : LK) c73), (85, cM ([.int .i64] : LK) ([.bool] : LK) c85), (112, cM ([.int .i64] : LK) ([.bool] : LK) c112), (115, cX ([] : LK) ([] : LK) c115)]) fd155 [parK] [parK] ([] : LK) ([.st TI.node] : LK) x a
theorem fdok155 : FDOk Tryz.prog (hasN []) (hasN [38]) 155 fd155 := ⟨⟨Tryz.f155, Tryz.func155, by kernel_rfl, Tryz.ntmps155, Tryz.results155⟩, by kernel_rfl, by kernel_rfl, by kernel_rfl⟩
theorem fdok155_36 : FDOk Tryz.prog (hasN []) (hasN [38]) 36 fd36 := ⟨⟨Tryz.f36, Tryz.func36, by kernel_rfl, Tryz.ntmps36, Tryz.results36⟩, by kernel_rfl, by kernel_rfl, by kernel_rfl⟩
noncomputable def run143 (fu : Nat) (nf : Nat → Bool) (x0 : List UInt8) : Option (denAs rs143) :=
  runF2 CC Tb fu 2 (findF []) (findF []) (findF []) (findF []) fd143 as143 rs143 nf (x0, ())
theorem fdok143 : FDOk Tryz.prog (hasN []) (hasN []) 143 fd143 := ⟨⟨Tryz.f143, Tryz.func143, by kernel_rfl, Tryz.ntmps143, Tryz.results143⟩, by kernel_rfl, by kernel_rfl, by kernel_rfl⟩
end Go.Proofs.YtnamdpbcpnnhaaaGreatDoor
end
section
set_option linter.unusedVariables false
set_option linter.unusedSimpArgs false
namespace Go.Proofs.YtnamdpbcpnnhaaaGreatDoor
open Go.Al Go.Den
abbrev as41 : List (AK UU) := [.int .i64, .dl TI.node]
abbrev rs41 : List (AK UU) := [.st TI.node]
def kf15 : Nat → List Nat
  | 0 => [0]
  | 1 => [2]
  | _ => []
def hd15 : List (Nat × Head UU) := []
def jn15 : List (Nat × Head UU) := []
noncomputable def fd15 : FD UU := ⟨⟨fun d => hasN [] d, fun d => hasN [] d, kf15, findF hd15, findF jn15, findL []⟩, bodyOf Tryz.f15, 6, [.tmp 2]⟩
def kf33 : Nat → List Nat
  | 0 => [0, 1]
  | 1 => [4]
  | _ => []
def hd33 : List (Nat × Head UU) := []
def jn33 : List (Nat × Head UU) := []
noncomputable def fd33 : FD UU := ⟨⟨fun d => hasN [] d, fun d => hasN [] d, kf33, findF hd33, findF jn33, findL []⟩, bodyOf Tryz.f33, 9, [.tmp 4]⟩
def kf52 : Nat → List Nat
  | 0 => [0, 1]
  | 1 => [0, 1, 7, 8]
  | 2 => [0, 1, 7, 8, 9]
  | 3 => [0, 1, 5, 7, 8]
  | 4 => [0, 1, 5, 7, 8, 16]
  | 5 => [4]
  | 6 => [0, 1, 7, 8]
  | 7 => [4]
  | _ => []
def hd52 : List (Nat × Head UU) := [(2, ⟨[0, 1, 7], [(8, .int .i64)], []⟩)]
def jn52 : List (Nat × Head UU) := []
noncomputable def fd52 : FD UU := ⟨⟨fun d => hasN [] d, fun d => hasN [] d, kf52, findF hd52, findF jn52, findL []⟩, bodyOf Tryz.f52, 19, [.tmp 4]⟩
noncomputable def run33 (fu : Nat) (nf : Nat → Bool) (x0 : List (List UInt8)) (x1 : List UInt8) : Option (denAs rs33) :=
  runF2 CC Tb fu 3 (findF [(52, fd52)]) (findF []) (findF []) (findF []) fd33 as33 rs33 nf (x0, x1, ())
theorem fdok33 : FDOk Tryz.prog (hasN []) (hasN []) 33 fd33 := ⟨⟨Tryz.f33, Tryz.func33, by kernel_rfl, Tryz.ntmps33, Tryz.results33⟩, by kernel_rfl, by kernel_rfl, by kernel_rfl⟩
theorem fdok33_52 : FDOk Tryz.prog (hasN []) (hasN []) 52 fd52 := ⟨⟨Tryz.f52, Tryz.func52, by kernel_rfl, Tryz.ntmps52, Tryz.results52⟩, by kernel_rfl, by kernel_rfl, by kernel_rfl⟩
noncomputable def run15 (fu : Nat) (c33 : List (List UInt8) × List UInt8 × Unit → Option (Bool × Unit)) (nf : Nat → Bool) (x0 : List UInt8) : Option (denAs rs15) :=
  runF2 CC Tb fu 2 (findF []) (findF [(33, (⟨as33, rs33, c33⟩ : Con UU))]) (findF []) (findF []) fd15 as15 rs15 nf (x0, ())
theorem fdok15 : FDOk Tryz.prog (hasN [33]) (hasN []) 15 fd15 := ⟨⟨Tryz.f15, Tryz.func15, by kernel_rfl, Tryz.ntmps15, Tryz.results15⟩, by kernel_rfl, by kernel_rfl, by kernel_rfl⟩
noncomputable def run41 (fu : Nat) (nf : Nat → Bool) (x0 : Int) (x1 : List Nd) : Option (denAs rs41) :=
  runF2 CC Tb fu 2 (findF []) (findF []) (findF []) (findF []) fd41 as41 rs41 nf (x0, x1, ())
theorem fdok41 : FDOk Tryz.prog (hasN []) (hasN []) 41 fd41 := ⟨⟨Tryz.f41, Tryz.func41, by kernel_rfl, Tryz.ntmps41, Tryz.results41⟩, by kernel_rfl, by kernel_rfl, by kernel_rfl⟩
end Go.Proofs.YtnamdpbcpnnhaaaGreatDoor
end
section
set_option linter.unusedVariables false
set_option linter.unusedSimpArgs false
namespace Go.Proofs.YtnamdpbcpnnhaaaGreatDoor
open Go.Al Go.Den
abbrev as3 : List (AK UU) := [.str, .int .i64]
abbrev rs3 : List (AK UU) := [.bool]
abbrev as14 : List (AK UU) := []
abbrev rs14 : List (AK UU) := [.bool]
abbrev as16 : List (AK UU) := [.str]
abbrev rs16 : List (AK UU) := [.bool]
abbrev as17 : List (AK UU) := [.dl TI.tok]
abbrev rs17 : List (AK UU) := [.st TI.node, .int .i64]
abbrev as31 : List (AK UU) := [.str]
abbrev rs31 : List (AK UU) := [.str]
abbrev as32 : List (AK UU) := [.st TI.node, .int .i64]
abbrev rs32 : List (AK UU) := [.dl TI.node]
abbrev as34 : List (AK UU) := [.str, .ls TI.str]
abbrev rs34 : List (AK UU) := [.bool]
abbrev as50 : List (AK UU) := [.st TI.node]
abbrev rs50 : List (AK UU) := [.str]
abbrev as69 : List (AK UU) := [.int .i64]
abbrev rs69 : List (AK UU) := [.str]
def kf3 : Nat → List Nat
  | 0 => [0, 1]
  | 1 => [0, 1, 5]
  | 2 => [0, 1, 5, 6]
  | 3 => [1, 5, 17]
  | 4 => [4]
  | 5 => [1, 5, 23]
  | 6 => [4]
  | 7 => [1, 5, 7]
  | 8 => [1, 5, 7, 8]
  | 9 => [1, 5, 7, 8, 27]
  | 10 => [1, 5, 7, 8]
  | 11 => [1, 5, 7, 8]
  | 12 => [1, 5, 9, 10]
  | 13 => [1, 5, 9, 10, 40]
  | 14 => [4]
  | 15 => [4]
  | _ => []
def hd3 : List (Nat × Head UU) := [(9, ⟨[1, 5], [(7, .ow true TI.tok), (8, .int .i64)], []⟩)]
def jn3 : List (Nat × Head UU) := []
noncomputable def fd3 : FD UU := ⟨⟨fun d => hasN [] d, fun d => hasN [] d, kf3, findF hd3, findF jn3, findL []⟩, bodyOf Tryz.f3, 69, [.tmp 4]⟩
def hd4 : List (Nat × Head UU) := [(7, ⟨[3, 4], [(5, .ow true TI.tok), (6, .int .i64)], []⟩)]
def hd5 : List (Nat × Head UU) := [(9, ⟨[1, 2, 7, 11], [(12, .ow true TI.tok), (13, .int .i64)], []⟩)]
def hd6 : List (Nat × Head UU) := [(7, ⟨[5, 6, 7], [(8, .int .i64)], []⟩), (19, ⟨[5, 6, 9, 11, 13], [(15, .int .i64)], [(9, .box [.int .i64, .int .i64, .dl TI.node]), (11, .box [.int .i64, .int .i64, .dl TI.node]), (13, .box [.int .i64, .int .i64, .dl TI.node])]⟩)]
def kf14 : Nat → List Nat
  | 0 => []
  | 1 => [1]
  | 2 => [1, 2]
  | 3 => [1, 2, 3, 4]
  | 4 => [1, 2, 3, 4, 5, 6]
  | 5 => [1, 2, 3, 4, 5, 6, 7]
  | 6 => [1, 2, 3, 4, 5, 6, 7, 8]
  | 7 => [1, 2, 3, 4, 5, 6, 7, 8, 9]
  | 8 => [1, 2, 3, 4, 5, 6, 7, 8, 9, 10]
  | 9 => [1, 2, 4, 5, 6, 7, 8, 9, 10, 11]
  | 10 => [1, 2, 4, 6, 7, 8, 9, 10, 11, 12]
  | 11 => [1, 2, 4, 6, 7, 8, 9, 10, 11, 12, 13]
  | 12 => [1, 2, 4, 6, 7, 8, 9, 10, 11, 12, 13, 14]
  | 13 => [0]
  | _ => []
def hd14 : List (Nat × Head UU) := []
def jn14 : List (Nat × Head UU) := []
noncomputable def fd14 : FD UU := ⟨⟨fun d => hasN [] d, fun d => hasN [] d, kf14, findF hd14, findF jn14, findL []⟩, bodyOf Tryz.f14, 86, [.tmp 0]⟩
def kf16 : Nat → List Nat
  | 0 => [0]
  | 1 => [2]
  | _ => []
def hd16 : List (Nat × Head UU) := []
def jn16 : List (Nat × Head UU) := []
noncomputable def fd16 : FD UU := ⟨⟨fun d => hasN [] d, fun d => hasN [] d, kf16, findF hd16, findF jn16, findL []⟩, bodyOf Tryz.f16, 6, [.tmp 2]⟩
def kf31 : Nat → List Nat
  | 0 => [0]
  | 1 => [3, 4]
  | 2 => [3, 12]
  | 3 => [2]
  | 4 => [2]
  | _ => []
def hd31 : List (Nat × Head UU) := []
def jn31 : List (Nat × Head UU) := []
noncomputable def fd31 : FD UU := ⟨⟨fun d => hasN [] d, fun d => hasN [] d, kf31, findF hd31, findF jn31, findL []⟩, bodyOf Tryz.f31, 15, [.tmp 2]⟩
def kf34 : Nat → List Nat
  | 0 => [0, 1]
  | 1 => [0, 1, 5]
  | 2 => [0, 1, 5, 9]
  | 3 => [0, 1, 5]
  | 4 => [0, 1, 5, 17]
  | 5 => [4]
  | 6 => [4]
  | _ => []
def hd34 : List (Nat × Head UU) := [(2, ⟨[0, 1], [(5, .int .i64)], []⟩)]
def jn34 : List (Nat × Head UU) := []
noncomputable def fd34 : FD UU := ⟨⟨fun d => hasN [] d, fun d => hasN [] d, kf34, findF hd34, findF jn34, findL []⟩, bodyOf Tryz.f34, 18, [.tmp 4]⟩
def kf50 : Nat → List Nat
  | 0 => [1]
  | 1 => [1, 8]
  | 2 => [2]
  | 3 => [1, 3]
  | 4 => [3, 17, 18, 19]
  | 5 => [3, 17, 18, 19, 20]
  | 6 => [3, 5, 17, 18, 19]
  | 7 => [3, 17, 18, 19]
  | 8 => [3, 17, 18, 19]
  | 9 => [2]
  | _ => []
def hd50 : List (Nat × Head UU) := [(5, ⟨[17, 18], [(3, .str), (19, .int .i64)], []⟩)]
def jn50 : List (Nat × Head UU) := []
noncomputable def fd50 : FD UU := ⟨⟨fun d => hasN [] d, fun d => hasN [] d, kf50, findF hd50, findF jn50, findL []⟩, bodyOf Tryz.f50, 31, [.tmp 2]⟩
noncomputable def run34 (fu : Nat) (nf : Nat → Bool) (x0 : List UInt8) (x1 : List (List UInt8)) : Option (denAs rs34) :=
  runF2 CC Tb fu 2 (findF []) (findF []) (findF []) (findF []) fd34 as34 rs34 nf (x0, x1, ())
theorem fdok34 : FDOk Tryz.prog (hasN []) (hasN []) 34 fd34 := ⟨⟨Tryz.f34, Tryz.func34, by kernel_rfl, Tryz.ntmps34, Tryz.results34⟩, by kernel_rfl, by kernel_rfl, by kernel_rfl⟩
noncomputable def run16 (fu : Nat) (c34 : List UInt8 × List (List UInt8) × Unit → Option (Bool × Unit)) (nf : Nat → Bool) (x0 : List UInt8) : Option (denAs rs16) :=
  runF2 CC Tb fu 2 (findF []) (findF [(34, (⟨as34, rs34, c34⟩ : Con UU))]) (findF []) (findF []) fd16 as16 rs16 nf (x0, ())
theorem fdok16 : FDOk Tryz.prog (hasN [34]) (hasN []) 16 fd16 := ⟨⟨Tryz.f16, Tryz.func16, by kernel_rfl, Tryz.ntmps16, Tryz.results16⟩, by kernel_rfl, by kernel_rfl, by kernel_rfl⟩
noncomputable def run50 (fu : Nat) (c50 : Nd × Unit → Option (List UInt8 × Unit)) (c69 : Int × Unit → Option (List UInt8 × Unit)) (nf : Nat → Bool) (x0 : Nd) : Option (denAs rs50) :=
  runF2 CC Tb fu 2 (findF []) (findF [(50, (⟨as50, rs50, c50⟩ : Con UU)), (69, (⟨as69, rs69, c69⟩ : Con UU))]) (findF []) (findF []) fd50 as50 rs50 nf (x0, ())
theorem fdok50 : FDOk Tryz.prog (hasN [50, 69]) (hasN []) 50 fd50 := ⟨⟨Tryz.f50, Tryz.func50, by kernel_rfl, Tryz.ntmps50, Tryz.results50⟩, by kernel_rfl, by kernel_rfl, by kernel_rfl⟩
noncomputable def run31 (fu : Nat) (c17 : List TokT × Unit → Option (Nd × Int × Unit)) (c18 : List UInt8 × Unit → Option (List TokT × Unit)) (c50 : Nd × Unit → Option (List UInt8 × Unit)) (nf : Nat → Bool) (x0 : List UInt8) : Option (denAs rs31) :=
  runF2 CC Tb fu 2 (findF []) (findF [(17, (⟨as17, rs17, c17⟩ : Con UU)), (18, (⟨as18, rs18, c18⟩ : Con UU)), (50, (⟨as50, rs50, c50⟩ : Con UU))]) (findF []) (findF []) fd31 as31 rs31 nf (x0, ())
theorem fdok31 : FDOk Tryz.prog (hasN [17, 18, 50]) (hasN []) 31 fd31 := ⟨⟨Tryz.f31, Tryz.func31, by kernel_rfl, Tryz.ntmps31, Tryz.results31⟩, by kernel_rfl, by kernel_rfl, by kernel_rfl⟩
noncomputable def run14 (fu : Nat) (c15 : List UInt8 × Unit → Option (Bool × Unit)) (c17 : List TokT × Unit → Option (Nd × Int × Unit)) (c18 : List UInt8 × Unit → Option (List TokT × Unit)) (c31 : List UInt8 × Unit → Option (List UInt8 × Unit)) (c32 : Nd × Int × Unit → Option (List Nd × Unit)) (nf : Nat → Bool)  : Option (denAs rs14) :=
  runF2 CC Tb fu 2 (findF []) (findF [(15, (⟨as15, rs15, c15⟩ : Con UU)), (17, (⟨as17, rs17, c17⟩ : Con UU)), (18, (⟨as18, rs18, c18⟩ : Con UU)), (31, (⟨as31, rs31, c31⟩ : Con UU)), (32, (⟨as32, rs32, c32⟩ : Con UU))]) (findF []) (findF []) fd14 as14 rs14 nf ()
theorem fdok14 : FDOk Tryz.prog (hasN [15, 17, 18, 31, 32]) (hasN []) 14 fd14 := ⟨⟨Tryz.f14, Tryz.func14, by kernel_rfl, Tryz.ntmps14, Tryz.results14⟩, by kernel_rfl, by kernel_rfl, by kernel_rfl⟩
noncomputable def run3 (fu : Nat) (c14 : Unit → Option (Bool × Unit)) (c15 : List UInt8 × Unit → Option (Bool × Unit)) (c16 : List UInt8 × Unit → Option (Bool × Unit)) (c17 : List TokT × Unit → Option (Nd × Int × Unit)) (nf : Nat → Bool) (x0 : List UInt8) (x1 : Int) : Option (denAs rs3) :=
  runF2 CC Tb fu 2 (findF []) (findF [(14, (⟨as14, rs14, c14⟩ : Con UU)), (15, (⟨as15, rs15, c15⟩ : Con UU)), (16, (⟨as16, rs16, c16⟩ : Con UU)), (17, (⟨as17, rs17, c17⟩ : Con UU))]) (findF []) (findF []) fd3 as3 rs3 nf (x0, x1, ())
theorem fdok3 : FDOk Tryz.prog (hasN [14, 15, 16, 17]) (hasN []) 3 fd3 := ⟨⟨Tryz.f3, Tryz.func3, by kernel_rfl, Tryz.ntmps3, Tryz.results3⟩, by kernel_rfl, by kernel_rfl, by kernel_rfl⟩
end Go.Proofs.YtnamdpbcpnnhaaaGreatDoor
end
section
set_option linter.unusedVariables false
set_option linter.unusedSimpArgs false
namespace Go.Proofs.YtnamdpbcpnnhaaaGreatDoor
open Go.Al Go.Den
def sh34 (fu : Nat) (nf : Nat → Bool) (x0 : Str) (x1 : (List Str)) : (Option (Bool × Unit)) := iter fu (fun (rec1 : ((Int × Unit) × Unit) → Option (Bool × Unit)) (s1 : ((Int × Unit) × Unit)) => cond (ilt s1.1.1 (lenI x1)) (cond (inB s1.1.1 (List.length x1)) (cond (seq (List.getD x1 (Int.toNat s1.1.1) []) x0) (some (true, ())) (rec1 (((iadd .i64 s1.1.1 1), ()), ()))) (none)) (some (false, ()))) ((0, ()), ())
theorem eq34 : @run34 = @sh34 := by kernel_rfl
def sh16 (fu : Nat) (c34 : (Str × ((List Str) × Unit)) → (Option (Bool × Unit))) (nf : Nat → Bool) (x0 : Str) : (Option (Bool × Unit)) := Option.bind (c34 (x0, ([[97, 117, 116, 111], [98, 114, 101, 97, 107], [99, 97, 115, 101], [99, 104, 97, 114], [99, 111, 110, 115, 116], [99, 111, 110, 116, 105, 110, 117, 101], [100, 101, 102, 97, 117, 108, 116], [100, 111], [100, 111, 117, 98, 108, 101], [101, 108, 115, 101], [101, 110, 117, 109], [101, 120, 116, 101, 114, 110], [102, 108, 111, 97, 116], [102, 111, 114], [103, 111, 116, 111], [105, 102], [105, 110, 108, 105, 110, 101], [105, 110, 116], [108, 111, 110, 103], [114, 101, 103, 105, 115, 116, 101, 114], [114, 101, 116, 117, 114, 110], [115, 104, 111, 114, 116], [115, 105, 103, 110, 101, 100], [115, 105, 122, 101, 111, 102], [115, 116, 97, 116, 105, 99], [115, 116, 114, 117, 99, 116], [115, 119, 105, 116, 99, 104], [116, 121, 112, 101, 100, 101, 102], [117, 110, 105, 111, 110], [117, 110, 115, 105, 103, 110, 101, 100], [118, 111, 105, 100], [118, 111, 108, 97, 116, 105, 108, 101], [119, 104, 105, 108, 101]], ()))) fun y0 => some (y0.1, ())
theorem eq16 : @run16 = @sh16 := by kernel_rfl
def sh50 (fu : Nat) (c50 : (Nd × Unit) → (Option (Str × Unit))) (c69 : (Int × Unit) → (Option (Str × Unit))) (nf : Nat → Bool) (x0 : Nd) : (Option (Str × Unit)) := cond (ieq (Nd.kind x0) 0) (Option.bind (c69 ((Nd.tok x0), ())) fun y0 => some (y0.1, ())) (Option.bind (c69 ((Nd.kind x0), ())) fun y0 => cond (okS (1 + (List.length y0.1))) (iter fu (fun (rec1 : ((Str × (Int × Unit)) × Unit) → Option (Str × Unit)) (s1 : ((Str × (Int × Unit)) × Unit)) => cond (ilt s1.1.2.1 (lenI (Nd.kids x0))) (cond (inB s1.1.2.1 (List.length (Nd.kids x0))) (Option.bind (c50 ((Nd.mk (Nd.kind (List.getD (Nd.kids x0) (Int.toNat s1.1.2.1) nodeD)) (Nd.tok (List.getD (Nd.kids x0) (Int.toNat s1.1.2.1) nodeD)) (Nd.kids (List.getD (Nd.kids x0) (Int.toNat s1.1.2.1) nodeD))), ())) fun y1 => cond (okS (1 + (List.length y1.1))) (cond (okS ((List.length s1.1.1) + (List.length ([32] ++ y1.1)))) (rec1 (((s1.1.1 ++ ([32] ++ y1.1)), ((iadd .i64 s1.1.2.1 1), ())), ())) (none)) (none)) (none)) (cond (okS ((List.length s1.1.1) + 1)) (some ((s1.1.1 ++ [41]), ())) (none))) ((([40] ++ y0.1), (0, ())), ())) (none))
theorem eq50 : @run50 = @sh50 := by kernel_rfl
def sh31 (fu : Nat) (c17 : ((List TokT) × Unit) → (Option (Nd × (Int × Unit)))) (c18 : (Str × Unit) → (Option ((List TokT) × Unit))) (c50 : (Nd × Unit) → (Option (Str × Unit))) (nf : Nat → Bool) (x0 : Str) : (Option (Str × Unit)) := Option.bind (c18 (x0, ())) fun y0 => Option.bind (c17 (y0.1, ())) fun y1 => cond (ine y1.2.1 0) (some ([33], ())) (Option.bind (c50 ((ndE y1.1), ())) fun y2 => some (y2.1, ()))
theorem eq31 : @run31 = @sh31 := by kernel_rfl
def sh14 (fu : Nat) (c15 : (Str × Unit) → (Option (Bool × Unit))) (c17 : ((List TokT) × Unit) → (Option (Nd × (Int × Unit)))) (c18 : (Str × Unit) → (Option ((List TokT) × Unit))) (c31 : (Str × Unit) → (Option (Str × Unit))) (c32 : (Nd × (Int × Unit)) → (Option NdsT)) (nf : Nat → Bool) : (Option (Bool × Unit)) := Option.bind (c31 ([105, 110, 116, 32, 120, 59], ())) fun y0 => Option.bind (c31 ([105, 110, 116, 32, 102, 40, 118, 111, 105, 100, 41, 32, 123, 32, 114, 101, 116, 117, 114, 110, 32, 49, 59, 32, 125], ())) fun y1 => Option.bind (c18 ([116, 121, 112, 101, 100, 101, 102, 32, 105, 110, 116, 32, 84, 59, 32, 84, 32, 42, 32, 120, 59], ())) fun y2 => Option.bind (c17 (y2.1, ())) fun y3 => Option.bind (c18 ([105, 110, 116, 32, 84, 59, 32, 105, 110, 116, 32, 102, 40, 41, 32, 123, 32, 84, 32, 42, 32, 120, 59, 32, 125], ())) fun y4 => Option.bind (c17 (y4.1, ())) fun y5 => Option.bind (c31 ([105, 110, 116, 32, 120], ())) fun y6 => Option.bind (c31 ([120, 59], ())) fun y7 => Option.bind (c31 ([105, 110, 116, 32, 102, 40, 41, 32, 123, 32, 105, 102, 32, 125], ())) fun y8 => Option.bind (c32 ((ndE y3.1), (3, ()))) fun y9 => Option.bind (c32 ((ndE y3.1), (9, ()))) fun y10 => Option.bind (c32 ((ndE y5.1), (51, ()))) fun y11 => Option.bind (c15 ([119, 104, 105, 108, 101], ())) fun y12 => Option.bind (c15 ([120], ())) fun y13 => cond (seq y0.1 [40, 49, 32, 40, 51, 32, 40, 52, 32, 48, 41, 32, 40, 57, 32, 40, 49, 48, 32, 49, 41, 41, 32, 50, 41, 41]) (cond (seq y1.1 [40, 49, 32, 40, 50, 32, 40, 52, 32, 48, 41, 32, 40, 49, 48, 32, 49, 32, 40, 49, 49, 32, 50, 32, 40, 49, 50, 32, 40, 52, 32, 51, 41, 41, 32, 52, 41, 41, 32, 40, 50, 48, 32, 53, 32, 40, 50, 54, 32, 54, 32, 40, 52, 49, 32, 55, 41, 32, 56, 41, 32, 57, 41, 41, 41]) (cond (ieq y3.2.1 0) (cond (ieq y5.2.1 0) (cond (ieq (lenI y9.1) 2) (cond (ieq (lenI y10.1) 2) (cond (ieq (lenI y11.1) 1) (cond (seq y6.1 [33]) (cond (seq y7.1 [33]) (cond (seq y8.1 [33]) (cond y12.1 (some ((!y13.1), ())) (some (false, ()))) (some (false, ()))) (some (false, ()))) (some (false, ()))) (some (false, ()))) (some (false, ()))) (some (false, ()))) (some (false, ()))) (some (false, ()))) (some (false, ()))) (some (false, ()))
theorem eq14 : @run14 = @sh14 := by kernel_rfl
def sh3 (fu : Nat) (c14 : Unit → (Option (Bool × Unit))) (c15 : (Str × Unit) → (Option (Bool × Unit))) (c16 : (Str × Unit) → (Option (Bool × Unit))) (c17 : ((List TokT) × Unit) → (Option (Nd × (Int × Unit)))) (nf : Nat → Bool) (x0 : Str) (x1 : Int) : (Option (Bool × Unit)) := Option.bind (c14 ()) fun y0 => Option.bind (c15 (x0, ())) fun y1 => Option.bind (c16 (x0, ())) fun y2 => cond (!(beqB y1.1 y2.1)) (some (false, ())) (cond (ilt x1 0) (some (y0.1, ())) (cond (ilt 4100 x1) (some (y0.1, ())) (iter fu (fun (rec1 : (((List TokT) × (Int × Unit)) × Unit) → Option (Bool × Unit)) (s1 : (((List TokT) × (Int × Unit)) × Unit)) => cond (ilt s1.1.2.1 x1) (cond (okN 56 ((List.length s1.1.1) + 1)) (rec1 (((s1.1.1 ++ [(TokT.mk 5 [59] 0 0 0 false)]), ((iadd .i64 s1.1.2.1 1), ())), ())) (none)) (Option.bind (c17 (s1.1.1, ())) fun y3 => cond (ilt 4000 x1) (cond y0.1 (cond (ieq y3.2.1 2) (some ((ieq (lenI (Nd.kids y3.1)) 0), ())) (some (false, ()))) (some (false, ()))) (cond y0.1 (cond (ieq x1 0) (cond (ieq y3.2.1 0) (some (true, ())) (cond (ilt 0 x1) (some ((ieq y3.2.1 160), ())) (some (false, ())))) (cond (ilt 0 x1) (some ((ieq y3.2.1 160), ())) (some (false, ())))) (some (false, ()))))) (([], (0, ())), ()))))
theorem eq3 : @run3 = @sh3 := by kernel_rfl
theorem con34 (fu : Nat)  : ConOk CC Tryz.prog 34 ⟨as34, rs34, fun x => sh34 fu (fun _ => false) x.1 x.2.1⟩ :=
  runF2_ok (c := ⟨as34, rs34, fun x => sh34 fu (fun _ => false) x.1 x.2.1⟩) (syn := syn) (fu := fu) (d := 2) (inl := findF []) (orc := findF []) (orr := findF []) (orp := findF []) (pf := hasN []) (rf := hasN []) Tb_ok CCok mixed (fun g => (findF_some (α := Con UU) (l := []) g).symm) (fun g => (findF_some (α := CR UU) (l := []) g).symm) (findF_nil) (findF_nil) (findF_nil) (findF_nil) fdok34 (by show 2 ≤ 18; decide) (noLs_spec rfl) (fun nf x => by show run34 fu nf x.1 x.2.1 = _; rw [eq34]; rfl)
theorem con16 (fu : Nat) (c34 : denAs as34 → Option (denAs rs34)) (h34 : ConOk CC Tryz.prog 34 ⟨as34, rs34, c34⟩) : ConOk CC Tryz.prog 16 ⟨as16, rs16, fun x => sh16 fu c34 (fun _ => false) x.1⟩ :=
  runF2_ok (c := ⟨as16, rs16, fun x => sh16 fu c34 (fun _ => false) x.1⟩) (syn := syn) (fu := fu) (d := 2) (inl := findF []) (orc := findF [(34, (⟨as34, rs34, c34⟩ : Con UU))]) (orr := findF []) (orp := findF []) (pf := hasN [34]) (rf := hasN []) Tb_ok CCok mixed (fun g => (findF_some (α := Con UU) (l := [(34, (⟨as34, rs34, c34⟩ : Con UU))]) g).symm) (fun g => (findF_some (α := CR UU) (l := []) g).symm) (findF_nil) (findF_cons ⟨code34, h34⟩ (findF_nil)) (findF_nil) (findF_nil) fdok16 (by show 1 ≤ 6; decide) (noLs_spec rfl) (fun nf x => by show run16 fu c34 nf x.1 = _; rw [eq16]; rfl)
theorem con50 (fu : Nat) (c50 : denAs as50 → Option (denAs rs50)) (h50 : ConOk CC Tryz.prog 50 ⟨as50, rs50, c50⟩) (c69 : denAs as69 → Option (denAs rs69)) (h69 : ConOk CC Tryz.prog 69 ⟨as69, rs69, c69⟩) : ConOk CC Tryz.prog 50 ⟨as50, rs50, fun x => sh50 fu c50 c69 (fun _ => false) x.1⟩ :=
  runF2_ok (c := ⟨as50, rs50, fun x => sh50 fu c50 c69 (fun _ => false) x.1⟩) (syn := syn) (fu := fu) (d := 2) (inl := findF []) (orc := findF [(50, (⟨as50, rs50, c50⟩ : Con UU)), (69, (⟨as69, rs69, c69⟩ : Con UU))]) (orr := findF []) (orp := findF []) (pf := hasN [50, 69]) (rf := hasN []) Tb_ok CCok mixed (fun g => (findF_some (α := Con UU) (l := [(50, (⟨as50, rs50, c50⟩ : Con UU)), (69, (⟨as69, rs69, c69⟩ : Con UU))]) g).symm) (fun g => (findF_some (α := CR UU) (l := []) g).symm) (findF_nil) (findF_cons ⟨code50, h50⟩ (findF_cons ⟨code69, h69⟩ (findF_nil))) (findF_nil) (findF_nil) fdok50 (by show 1 ≤ 31; decide) (noLs_spec rfl) (fun nf x => by show run50 fu c50 c69 nf x.1 = _; rw [eq50]; rfl)
theorem con31 (fu : Nat) (c17 : denAs as17 → Option (denAs rs17)) (h17 : ConOk CC Tryz.prog 17 ⟨as17, rs17, c17⟩) (c18 : denAs as18 → Option (denAs rs18)) (h18 : ConOk CC Tryz.prog 18 ⟨as18, rs18, c18⟩) (c50 : denAs as50 → Option (denAs rs50)) (h50 : ConOk CC Tryz.prog 50 ⟨as50, rs50, c50⟩) : ConOk CC Tryz.prog 31 ⟨as31, rs31, fun x => sh31 fu c17 c18 c50 (fun _ => false) x.1⟩ :=
  runF2_ok (c := ⟨as31, rs31, fun x => sh31 fu c17 c18 c50 (fun _ => false) x.1⟩) (syn := syn) (fu := fu) (d := 2) (inl := findF []) (orc := findF [(17, (⟨as17, rs17, c17⟩ : Con UU)), (18, (⟨as18, rs18, c18⟩ : Con UU)), (50, (⟨as50, rs50, c50⟩ : Con UU))]) (orr := findF []) (orp := findF []) (pf := hasN [17, 18, 50]) (rf := hasN []) Tb_ok CCok mixed (fun g => (findF_some (α := Con UU) (l := [(17, (⟨as17, rs17, c17⟩ : Con UU)), (18, (⟨as18, rs18, c18⟩ : Con UU)), (50, (⟨as50, rs50, c50⟩ : Con UU))]) g).symm) (fun g => (findF_some (α := CR UU) (l := []) g).symm) (findF_nil) (findF_cons ⟨code17, h17⟩ (findF_cons ⟨code18, h18⟩ (findF_cons ⟨code50, h50⟩ (findF_nil)))) (findF_nil) (findF_nil) fdok31 (by show 1 ≤ 15; decide) (noLs_spec rfl) (fun nf x => by show run31 fu c17 c18 c50 nf x.1 = _; rw [eq31]; rfl)
theorem con14 (fu : Nat) (c15 : denAs as15 → Option (denAs rs15)) (h15 : ConOk CC Tryz.prog 15 ⟨as15, rs15, c15⟩) (c17 : denAs as17 → Option (denAs rs17)) (h17 : ConOk CC Tryz.prog 17 ⟨as17, rs17, c17⟩) (c18 : denAs as18 → Option (denAs rs18)) (h18 : ConOk CC Tryz.prog 18 ⟨as18, rs18, c18⟩) (c31 : denAs as31 → Option (denAs rs31)) (h31 : ConOk CC Tryz.prog 31 ⟨as31, rs31, c31⟩) (c32 : denAs as32 → Option (denAs rs32)) (h32 : ConOk CC Tryz.prog 32 ⟨as32, rs32, c32⟩) : ConOk CC Tryz.prog 14 ⟨as14, rs14, fun x => sh14 fu c15 c17 c18 c31 c32 (fun _ => false)⟩ :=
  runF2_ok (c := ⟨as14, rs14, fun x => sh14 fu c15 c17 c18 c31 c32 (fun _ => false)⟩) (syn := syn) (fu := fu) (d := 2) (inl := findF []) (orc := findF [(15, (⟨as15, rs15, c15⟩ : Con UU)), (17, (⟨as17, rs17, c17⟩ : Con UU)), (18, (⟨as18, rs18, c18⟩ : Con UU)), (31, (⟨as31, rs31, c31⟩ : Con UU)), (32, (⟨as32, rs32, c32⟩ : Con UU))]) (orr := findF []) (orp := findF []) (pf := hasN [15, 17, 18, 31, 32]) (rf := hasN []) Tb_ok CCok mixed (fun g => (findF_some (α := Con UU) (l := [(15, (⟨as15, rs15, c15⟩ : Con UU)), (17, (⟨as17, rs17, c17⟩ : Con UU)), (18, (⟨as18, rs18, c18⟩ : Con UU)), (31, (⟨as31, rs31, c31⟩ : Con UU)), (32, (⟨as32, rs32, c32⟩ : Con UU))]) g).symm) (fun g => (findF_some (α := CR UU) (l := []) g).symm) (findF_nil) (findF_cons ⟨code15, h15⟩ (findF_cons ⟨code17, h17⟩ (findF_cons ⟨code18, h18⟩ (findF_cons ⟨code31, h31⟩ (findF_cons ⟨code32, h32⟩ (findF_nil)))))) (findF_nil) (findF_nil) fdok14 (by show 0 ≤ 86; decide) (noLs_spec rfl) (fun nf x => by show run14 fu c15 c17 c18 c31 c32 nf = _; rw [eq14]; rfl)
theorem con3 (fu : Nat) (c14 : denAs as14 → Option (denAs rs14)) (h14 : ConOk CC Tryz.prog 14 ⟨as14, rs14, c14⟩) (c15 : denAs as15 → Option (denAs rs15)) (h15 : ConOk CC Tryz.prog 15 ⟨as15, rs15, c15⟩) (c16 : denAs as16 → Option (denAs rs16)) (h16 : ConOk CC Tryz.prog 16 ⟨as16, rs16, c16⟩) (c17 : denAs as17 → Option (denAs rs17)) (h17 : ConOk CC Tryz.prog 17 ⟨as17, rs17, c17⟩) : ConOk CC Tryz.prog 3 ⟨as3, rs3, fun x => sh3 fu c14 c15 c16 c17 (fun _ => false) x.1 x.2.1⟩ :=
  runF2_ok (c := ⟨as3, rs3, fun x => sh3 fu c14 c15 c16 c17 (fun _ => false) x.1 x.2.1⟩) (syn := syn) (fu := fu) (d := 2) (inl := findF []) (orc := findF [(14, (⟨as14, rs14, c14⟩ : Con UU)), (15, (⟨as15, rs15, c15⟩ : Con UU)), (16, (⟨as16, rs16, c16⟩ : Con UU)), (17, (⟨as17, rs17, c17⟩ : Con UU))]) (orr := findF []) (orp := findF []) (pf := hasN [14, 15, 16, 17]) (rf := hasN []) Tb_ok CCok mixed (fun g => (findF_some (α := Con UU) (l := [(14, (⟨as14, rs14, c14⟩ : Con UU)), (15, (⟨as15, rs15, c15⟩ : Con UU)), (16, (⟨as16, rs16, c16⟩ : Con UU)), (17, (⟨as17, rs17, c17⟩ : Con UU))]) g).symm) (fun g => (findF_some (α := CR UU) (l := []) g).symm) (findF_nil) (findF_cons ⟨code14, h14⟩ (findF_cons ⟨code15, h15⟩ (findF_cons ⟨code16, h16⟩ (findF_cons ⟨code17, h17⟩ (findF_nil))))) (findF_nil) (findF_nil) fdok3 (by show 2 ≤ 69; decide) (noLs_spec rfl) (fun nf x => by show run3 fu c14 c15 c16 c17 nf x.1 x.2.1 = _; rw [eq3]; rfl)
end Go.Proofs.YtnamdpbcpnnhaaaGreatDoor
end
section
set_option linter.unusedVariables false
set_option linter.unusedSimpArgs false
namespace Go.Proofs.YtnamdpbcpnnhaaaGreatDoor
open Go.Al Go.Den
def sh33 (fu : Nat) (nf : Nat → Bool) (x0 : (List Str)) (x1 : Str) : (Option (Bool × Unit)) := iter fu (fun (rec1 : ((Int × Unit) × Unit) → Option (Bool × Unit)) (s1 : ((Int × Unit) × Unit)) => cond (ilt s1.1.1 (lenI x0)) (cond (inB s1.1.1 (List.length x0)) (cond (seq x1 (List.getD x0 (Int.toNat s1.1.1) [])) (some ((ile 0 s1.1.1), ())) (rec1 (((iadd .i64 s1.1.1 1), ()), ()))) (none)) (some ((ile 0 (Neg.neg 1)), ()))) ((0, ()), ())
theorem eq33 : @run33 = @sh33 := by kernel_rfl
def sh15 (fu : Nat) (c33 : ((List Str) × (Str × Unit)) → (Option (Bool × Unit))) (nf : Nat → Bool) (x0 : Str) : (Option (Bool × Unit)) := Option.bind (c33 ([[97, 117, 116, 111], [98, 114, 101, 97, 107], [99, 97, 115, 101], [99, 104, 97, 114], [99, 111, 110, 115, 116], [99, 111, 110, 116, 105, 110, 117, 101], [100, 101, 102, 97, 117, 108, 116], [100, 111], [100, 111, 117, 98, 108, 101], [101, 108, 115, 101], [101, 110, 117, 109], [101, 120, 116, 101, 114, 110], [102, 108, 111, 97, 116], [102, 111, 114], [103, 111, 116, 111], [105, 102], [105, 110, 108, 105, 110, 101], [105, 110, 116], [108, 111, 110, 103], [114, 101, 103, 105, 115, 116, 101, 114], [114, 101, 116, 117, 114, 110], [115, 104, 111, 114, 116], [115, 105, 103, 110, 101, 100], [115, 105, 122, 101, 111, 102], [115, 116, 97, 116, 105, 99], [115, 116, 114, 117, 99, 116], [115, 119, 105, 116, 99, 104], [116, 121, 112, 101, 100, 101, 102], [117, 110, 105, 111, 110], [117, 110, 115, 105, 103, 110, 101, 100], [118, 111, 105, 100], [118, 111, 108, 97, 116, 105, 108, 101], [119, 104, 105, 108, 101]], (x0, ()))) fun y0 => some (y0.1, ())
theorem eq15 : @run15 = @sh15 := by kernel_rfl
def sh41 (fu : Nat) (nf : Nat → Bool) (x0 : Int) (x1 : (List Nd)) : (Option (Nd × Unit)) := some ((Nd.mk x0 0 x1), ())
theorem eq41 : @run41 = @sh41 := by kernel_rfl
theorem con33 (fu : Nat)  : ConOk CC Tryz.prog 33 ⟨as33, rs33, fun x => sh33 fu (fun _ => false) x.1 x.2.1⟩ :=
  runF2_ok (c := ⟨as33, rs33, fun x => sh33 fu (fun _ => false) x.1 x.2.1⟩) (syn := syn) (fu := fu) (d := 3) (inl := findF [(52, fd52)]) (orc := findF []) (orr := findF []) (orp := findF []) (pf := hasN []) (rf := hasN []) Tb_ok CCok mixed (fun g => (findF_some (α := Con UU) (l := []) g).symm) (fun g => (findF_some (α := CR UU) (l := []) g).symm) (findF_cons fdok33_52 (findF_nil)) (findF_nil) (findF_nil) (findF_nil) fdok33 (by show 2 ≤ 9; decide) (noLs_spec rfl) (fun nf x => by show run33 fu nf x.1 x.2.1 = _; rw [eq33]; rfl)
theorem con15 (fu : Nat) (c33 : denAs as33 → Option (denAs rs33)) (h33 : ConOk CC Tryz.prog 33 ⟨as33, rs33, c33⟩) : ConOk CC Tryz.prog 15 ⟨as15, rs15, fun x => sh15 fu c33 (fun _ => false) x.1⟩ :=
  runF2_ok (c := ⟨as15, rs15, fun x => sh15 fu c33 (fun _ => false) x.1⟩) (syn := syn) (fu := fu) (d := 2) (inl := findF []) (orc := findF [(33, (⟨as33, rs33, c33⟩ : Con UU))]) (orr := findF []) (orp := findF []) (pf := hasN [33]) (rf := hasN []) Tb_ok CCok mixed (fun g => (findF_some (α := Con UU) (l := [(33, (⟨as33, rs33, c33⟩ : Con UU))]) g).symm) (fun g => (findF_some (α := CR UU) (l := []) g).symm) (findF_nil) (findF_cons ⟨code33, h33⟩ (findF_nil)) (findF_nil) (findF_nil) fdok15 (by show 1 ≤ 6; decide) (noLs_spec rfl) (fun nf x => by show run15 fu c33 nf x.1 = _; rw [eq15]; rfl)
theorem con41 (fu : Nat)  : ConOk CC Tryz.prog 41 ⟨as41, rs41, fun x => sh41 fu (fun _ => false) x.1 x.2.1⟩ :=
  runF2_ok (c := ⟨as41, rs41, fun x => sh41 fu (fun _ => false) x.1 x.2.1⟩) (syn := syn) (fu := fu) (d := 2) (inl := findF []) (orc := findF []) (orr := findF []) (orp := findF []) (pf := hasN []) (rf := hasN []) Tb_ok CCok mixed (fun g => (findF_some (α := Con UU) (l := []) g).symm) (fun g => (findF_some (α := CR UU) (l := []) g).symm) (findF_nil) (findF_nil) (findF_nil) (findF_nil) fdok41 (by show 2 ≤ 8; decide) (noLs_spec rfl) (fun nf x => by show run41 fu nf x.1 x.2.1 = _; rw [eq41]; rfl)
end Go.Proofs.YtnamdpbcpnnhaaaGreatDoor
end
section
set_option linter.unusedVariables false
set_option linter.unusedSimpArgs false
namespace Go.Proofs.YtnamdpbcpnnhaaaGreatDoor
open Go.Al Go.Den Go.RowKit
attribute [local congr] aGuard_congr aPick_congr aBin_congr aUn_congr aExtract_congr aField_congr aFieldAddr_congr aIndexAddr_congr aIndex_congr aLoad_congr aStore_congr aNew_congr aAlloc_congr aBuild_congr aBuildSlice_congr aNilCheck_congr aSlice_congr aLen_congr aMax_congr aAppend_congr sLoad_congr sStore_congr sFieldR_congr sFieldP_congr sField_congr sIndex_congr sIndexM_congr sAlloc_congr sBuild_congr sBuild2_congr sBS_congr sBSk_congr sApp_congr sAppN_congr sAppW_congr sAppS_congr sAppS2_congr sSliceB_congr aGuardD_congr
theorem parK_open {s : S} {l : List TokT} {i : Int} {xs : List MT} {u u' u'' : Unit} {vx : List V} {r : List Res} (h : VKs CC s [parK] ((l, i, xs, u, u'), u'') vx r) :
    ∃ b0 b cap fp m, vx = [.at (.pointer (some ⟨b0, 0, none⟩))] ∧ Al.look s.box b0 = some ([.lst (tagOf (l.map (CC.encV TI.tok))) (l.map (CC.encV TI.tok)), .at (.int .i64 i), .at (.slice (some ⟨b, 0, none⟩) xs.length cap), .at (.map m)], 4) ∧
      olook s.ob b = some (.sc (xs.map trMC) cap, fp) ∧ r = [.inr b0, .ob b] := by
  simp only [VKs, VK] at h
  obtain ⟨v, vs', r1, r2, rfl, rfl, ⟨b0, vs, rs', rfl, h1, h2, rfl⟩, rfl, rfl⟩ := h
  obtain ⟨v1, w1, q1, q2, rfl, rfl, ⟨rfl, rfl⟩, v2, w2, q3, q4, rfl, rfl, ⟨rfl, rfl⟩, v3, w3, q5, q6, rfl, rfl, ⟨b, cap, fp, rfl, h3, rfl⟩, v4, w4, q7, q8, rfl, rfl, ⟨⟨m, rfl⟩, rfl⟩, rfl, rfl⟩ := h2
  exact ⟨b0, b, cap, fp, m, rfl, h1, h3, rfl⟩
theorem parK_shut {s : S} {l : List TokT} {i : Int} {xs : List MT} {u u' u'' : Unit} {b0 b cap n : Nat} {fp : List Nat} {m : Option Nat} (hn : n = xs.length) (h1 : Al.look s.box b0 = some ([.lst (tagOf (l.map (CC.encV TI.tok))) (l.map (CC.encV TI.tok)), .at (.int .i64 i), .at (.slice (some ⟨b, 0, none⟩) n cap), .at (.map m)], 4))
    (h2 : olook s.ob b = some (.sc (xs.map trMC) cap, fp)) : VKs CC s [parK] ((l, i, xs, u, u'), u'') [.at (.pointer (some ⟨b0, 0, none⟩))] [.inr b0, .ob b] := by
  subst hn
  simp only [VKs, VK]
  exact ⟨_, _, _, [], rfl, rfl, ⟨b0, _, [.ob b], rfl, h1, ⟨_, _, [], [.ob b], rfl, rfl, ⟨rfl, rfl⟩, _, _, [], [.ob b], rfl, rfl, ⟨rfl, rfl⟩, _, _, [.ob b], [], rfl, rfl, ⟨b, cap, fp, rfl, h2, rfl⟩, _, _, [], [], rfl, rfl, ⟨⟨m, rfl⟩, rfl⟩, rfl, rfl⟩, rfl⟩, rfl, rfl⟩
abbrev pol59 : Pol := ⟨fun _ => false, fun d => d == 11, fun _ => false, fun _ => false, [], fun _ => []⟩
def c59 (a : Option MT × Unit) : MM Unit := fun _ s => match a.1 with
  | some m => if s.2.length < 1000000 then some (some ((), s.1, s.2 ++ [m])) else none
  | none => none
set_option maxRecDepth 100000 in
theorem ok59 : CPOk CC Tryz.prog syn 59 (cM [.mpo] [] c59) := by
  refine cpM_ok fun l i xs a o ho st vx va r1 r2 h1 h2 hn => ?_
  obtain ⟨a, ua⟩ := a
  cases a with
  | none => cases ho
  | some c =>
  simp only [c59] at ho
  split at ho
  rotate_left
  · cases ho
  rename_i hlen
  injection ho with ho
  subst ho
  obtain ⟨b0, b, cap, fp, m, rfl, k1, k2, rfl⟩ := parK_open h1
  simp only [VKs, VK] at h2
  obtain ⟨va, vs', q1, q2, rfl, rfl, ⟨bm, fpm, rfl, k3, rfl⟩, rfl, rfl⟩ := h2
  have hne : b ≠ bm := by intro e; subst e; simp at hn
  have e1 := (look_subS st ([.inr b0, .ob b] ++ ([.ob bm] ++ [])) b0).1 (by simp)
  have e2 := (olook_subS st ([.inr b0, .ob b] ++ ([.ob bm] ++ [])) b).1 (by simp)
  have e3 := (olook_subS st ([.inr b0, .ob b] ++ ([.ob bm] ++ [])) bm).1 (by simp)
  rw [k1] at e1; rw [k2] at e2; rw [k3] at e3
  generalize subS st ([.inr b0, .ob b] ++ ([.ob bm] ++ [])) = s0 at e1 e2 e3 ⊢
  refine FnC_inv (φ := ∃ bs, fp = b :: bs ∧ (b :: bs).Nodup ∧ bs.length = xs.length ∧ bs.length ≤ cap ∧ fpm = [bm] ∧ bm ∉ bs ∧ b0 ≠ b ∧ b0 ∉ bs ∧ b0 ≠ bm) (fun B g w hi => ?_) ?_
  · obtain ⟨bs, p1, p2, p3, p4, _⟩ := hi.unpack e2
    have p5 := (hi.ex.ob bm _ _ e3).1.1
    subst p5
    have p6 := hi.boxFr e1
    subst p1
    refine ⟨bs, rfl, p2, by simpa using p3, p4, rfl, fun hm => hne (hi.ex.obd b _ _ bm _ _ bm e2 e3 (by simp [hm]) (by simp)), ?_, ?_, ?_⟩
    · intro e; exact p6.2 b _ _ e2 (by simp [e])
    · intro e; exact p6.2 b _ _ e2 (by simp [e])
    · intro e; exact p6.2 bm _ _ e3 (by simp [e])
  rintro ⟨bs, rfl, hnd, hbl, hcap, rfl, hm1, hm2, hm3, hm4⟩
  refine FnC_pre (s' := unpackS s0 b bs (xs.map trMC) cap) (fun B g w hi => by
    obtain ⟨bs', p1, _, _, _, p5⟩ := hi.unpack e2
    injection p1 with _ p1
    subst p1; exact p5) ?_
  have l1 : Al.look (unpackS s0 b bs (xs.map trMC) cap).box b0 = some ([.lst (tagOf (l.map (CC.encV TI.tok))) (l.map (CC.encV TI.tok)), .at (.int .i64 i), .at (.slice (some ⟨b, 0, none⟩) xs.length cap), .at (.map m)], 4) := by
    show Al.look (lay s0.box b _) b0 = _
    rw [look_lay, if_neg (Ne.symm hm2)]; exact e1
  have l2 : Al.look (unpackS s0 b bs (xs.map trMC) cap).box b = some (mcs bs, cap) := by
    show Al.look (lay s0.box b _) b = _
    rw [look_lay, if_pos rfl]
  have l3 : Mps (unpackS s0 b bs (xs.map trMC) cap).ob bs (xs.map trMC) := Mps_mps _ (List.nodup_cons.1 hnd).2 (by simpa using hbl)
  have l4 : olook (unpackS s0 b bs (xs.map trMC) cap).ob bm = some (.mp (trMC c), [bm]) := by
    rw [olook_unpack, if_neg (Ne.symm hne), e3]
    cases e : olook (mps bs (xs.map trMC)) bm with
    | none => rfl
    | some p =>
      exfalso
      have : ∀ (bs : List Nat) (ys : List MC), bm ∉ bs → olook (mps bs ys) bm = none := by
        intro bs
        induction bs with
        | nil => intro ys _; rfl
        | cons b bs ih =>
          intro ys h
          cases ys with
          | nil => rfl
          | cons y ys =>
            simp only [List.mem_cons, not_or] at h
            simp only [mps, olook_cons, if_neg (Ne.symm h.1)]
            exact ih ys h.2
      rw [this bs _ hm1] at e; cases e
  generalize unpackS s0 b bs (xs.map trMC) cap = s1 at l1 l2 l3 l4 ⊢
  refine FnC_post ?_
  refine FnC_introU Tryz.func59 rfl Tryz.ntmps59 Tryz.results59 (by show 2 ≤ 14; decide) fun B => ?_
  have hb0 : b0 ≠ b := hm2
  simp only [List.cons_append, List.nil_append, argsE, Nat.reduceAdd]
  (repeat (first | (refine awp_seq ?_) | (refine awp_skip ?_; simp -failIfUnchanged only [thenE_normal, blockE_normal]) | (refine awp_ret ?_; simp -failIfUnchanged only [thenE_ret, blockE_ret, retE_ret, retER_ret]) | (refine awp_exit ?_; simp -failIfUnchanged only [thenE_exit, blockE_exit, thenE_normal, blockE_normal, reduceIte]) | (refine awp_block ?_) | ((first | (refine awp_reg pol59 ks59 _ rfl rfl ?_) | (refine awp_draw pol59 mixed ks59 _ rfl rfl (by kernel_rfl) (by kernel_rfl) ?_)); simp only [↓AL_nil, ↓AL_move, ↓AL_fieldAddr, ↓AL_load, ↓AL_store, ↓AL_buildSlice, ↓AL_nilCheck, ↓AL_append, putO_some, putO_none, get_cons, get_nil, ev_tmp, keepE_nil, aNilCheck_ptr, aLoad_ptr, sLoad_some, aStore_ptr, aFieldAddr_ptr, sFieldP_some, aAppend_eq, appOk, aBuildSlice_eq, sBS_some, sBSk_ff, inOrder, elsOk_nil, elsOk_cons, pow24, one_le_maxLen, Option.map_some, implies_true, Nat.one_mul, untag_at, List.map_cons, List.map_nil, List.append_nil, and_self, beq_self_eq_true, partOk, partV, allOne, V.isOne, V.size, V.flat, List.all_cons, List.all_nil, List.length_cons, List.length_nil, List.drop_zero, List.drop_succ_cons, List.take_succ_cons, List.take_zero, List.getD_cons_zero, List.getD_cons_succ, Bool.true_and, Bool.and_self, Option.isSome_some, if_true, if_false, true_and, Nat.reduceAdd, Nat.reduceEqDiff, Nat.reduceLeDiff, reduceCtorEq, Bool.false_eq_true, Nat.zero_add, Nat.lt_add_one, look_lay, look_wipe, sApp_box, sAppW_some, flats, Nat.reduceBEq, hasT63, cells63, bytes63, zero63, hasT64, aggT64, cells64, elT64, fld66_2, ks59, l1, l2])))
  have hmx : maxLen = 9223372036854775807 := rfl
  refine ⟨⟨by omega, by omega⟩, by omega, by omega, by simp only [mcs, List.length_map]; omega, fun b' cap' hb' hcap' => ?_⟩
  have m1 : ¬ b' = b0 := fun e => by rw [e, if_neg (Ne.symm hm2), l1] at hb'; cases hb'
  have m2 : ¬ b0 = b' := fun e => m1 e.symm
  have hb1 : ¬ b = b0 := Ne.symm hm2
  simp only [sStore_some, spl, List.cons_append, List.nil_append, and_self, allOne, V.isOne, V.flat, List.all_cons, List.all_nil, List.length_cons, List.length_nil, List.drop_zero, List.drop_succ_cons, List.take_succ_cons, List.take_zero, Bool.true_and, Bool.and_self, if_false, true_and, Nat.reduceAdd, Nat.reduceLeDiff, Nat.zero_add, hasT64, cells64, m1, hb1]
  have htk : List.take (xs.length * 1) (mcs bs) ++ [V.at (Value.map (some bm))] = mcs (bs ++ [bm]) := by
    rw [List.take_of_length_le (by simp only [mcs, List.length_map]; omega)]; simp [mcs]
  rw [htk, Nat.mul_one]
  have hbn : (bs ++ [bm]).Nodup := by
    refine List.nodup_append.2 ⟨(List.nodup_cons.1 hnd).2, by simp, fun x hx y hy e => ?_⟩
    simp only [List.mem_singleton] at hy
    subst e; subst hy; exact hm1 hx
  have hMps : Mps s1.ob (bs ++ [bm]) (xs.map trMC ++ [trMC c]) := by
    have : ∀ (bs : List Nat) (ys : List MC), Mps s1.ob bs ys → Mps s1.ob (bs ++ [bm]) (ys ++ [trMC c]) := by
      intro bs
      induction bs with
      | nil => intro ys h; rw [show ys = [] from h]; exact ⟨_, [], rfl, l4, rfl⟩
      | cons b bs ih =>
        rintro _ ⟨d, ds, rfl, h1, h2⟩
        exact ⟨d, _, rfl, h1, ih _ h2⟩
    exact this _ _ l3
  show ∃ s2, _
  refine ⟨packS _ b' (bs ++ [bm]) (xs.map trMC ++ [trMC c]) cap', fun B g w hi => hi.pack ?_ hbn hMps, [], [.inr b0, .ob b'], [], parK_shut (n := xs.length + 1) (fp := b' :: (bs ++ [bm])) (b := b') (cap := cap') (m := m) (by simp) ?_ ?_, ⟨rfl, rfl⟩, by simp, rfl⟩
  · show Al.look (lay (lay (wipe s1.box b) b' _) b0 _) b' = _
    rw [look_lay, if_neg m2, look_lay, if_pos rfl]
  · show Al.look (wipe (lay (lay (wipe s1.box b) b' _) b0 _) b') b0 = _
    rw [look_wipe, if_neg m1, look_lay, if_pos rfl]
  · rw [olook_pack, if_pos rfl]; simp
theorem mps_noneOf {j : Nat} : ∀ (bs : List Nat) (ys : List MC), j ∉ bs → olook (mps bs ys) j = none
  | [], _, _ => rfl
  | _ :: _, [], _ => rfl
  | b :: bs, y :: ys, h => by
    simp only [List.mem_cons, not_or] at h
    simp only [mps, olook_cons, if_neg (Ne.symm h.1)]
    exact mps_noneOf bs ys h.2
theorem unpackK {P : Program} {f : FuncId} {args : List V} {Q : Outc → S → Prop} {s0 : S} {b0 b cap : Nat} {fp : List Nat} {cs : List V} {k : Nat} {xs : List MC} (e1 : Al.look s0.box b0 = some (cs, k)) (e2 : olook s0.ob b = some (.sc xs cap, fp))
    (h : ∀ bs s1, (b :: bs).Nodup → bs.length = xs.length → bs.length ≤ cap → b0 ≠ b → b0 ∉ bs → Al.look s1.box b0 = some (cs, k) → Al.look s1.box b = some (mcs bs, cap) → Mps s1.ob bs xs → (∀ j, j ≠ b → j ∉ bs → olook s1.ob j = olook s0.ob j) →
      FnC P f args s1 fun oc s => ∃ s2, (∀ B g w, Inv B g s w → Inv B g s2 w) ∧ Q oc s2) : FnC P f args s0 Q := by
  refine FnC_inv (φ := ∃ bs, fp = b :: bs ∧ (b :: bs).Nodup ∧ bs.length = xs.length ∧ bs.length ≤ cap ∧ b0 ≠ b ∧ b0 ∉ bs) (fun B g w hi => ?_) ?_
  · obtain ⟨bs, p1, p2, p3, p4, _⟩ := hi.unpack e2
    have p6 := hi.boxFr e1
    subst p1
    refine ⟨bs, rfl, p2, p3, p4, ?_, ?_⟩
    · intro e; exact p6.2 b _ _ e2 (by simp [e])
    · intro e; exact p6.2 b _ _ e2 (by simp [e])
  rintro ⟨bs, rfl, hnd, hbl, hcap, hm2, hm3⟩
  refine FnC_pre (s' := unpackS s0 b bs xs cap) (fun B g w hi => by
    obtain ⟨bs', p1, _, _, _, p5⟩ := hi.unpack e2
    injection p1 with _ p1
    subst p1; exact p5) ?_
  refine FnC_post (h bs _ hnd hbl hcap hm2 hm3 ?_ ?_ ?_ ?_)
  · show Al.look (lay s0.box b _) b0 = _
    rw [look_lay, if_neg (Ne.symm hm2)]; exact e1
  · show Al.look (lay s0.box b _) b = _
    rw [look_lay, if_pos rfl]
  · exact Mps_mps _ (List.nodup_cons.1 hnd).2 hbl
  · intro j h1 h2
    rw [olook_unpack, if_neg h1, mps_noneOf bs _ h2]; rfl
theorem aBinI_int (P : Program) (op : BinOp) (t : TypeId) (c : Bool) (k k' : IntKind) (a b : Int) (K : V → Prop) : aBinI P op t c (.at (.int k a)) (.at (.int k' b)) K = aBin P op t (.at (.int k a)) (.at (.int k' b)) K := rfl
theorem aBinI_str (P : Program) (op : BinOp) (t : TypeId) (c : Bool) (a b : ByteArray) (K : V → Prop) : aBinI P op t c (.at (.string a)) (.at (.string b)) K = aBin P op t (.at (.string a)) (.at (.string b)) K := rfl
abbrev polN : Pol := ⟨fun _ => false, fun _ => false, fun _ => false, fun _ => false, [], fun _ => []⟩
theorem Inv.trunc {B : Nat} {g : Gh} {s : S} {w : World} (hi : Al.Inv B g s w) (b m : Nat) {cs : List V} {k : Nat} (h0 : Al.look s.box b = some (cs, k)) : Al.Inv B g ⟨lay s.box b (cs.take m, k), s.tg, s.nx, s.ob⟩ w := by
  obtain ⟨p1, p2, p3, p4, arr, el, us, p5, p6, p7, p8⟩ := hi.box b cs k h0
  have hone : allOne cs := by unfold allOne; rw [List.all_eq_true]; exact p4
  have hul := RCs_length g w cs us p7
  rw [sizes_one hone] at hul
  have := hi.addBox (b := b) (arr := arr) (el := el) (cs := cs.take m) (us := us.take m) p1 p2 p5 (by simp; omega)
    (fun c hc => p4 c (List.mem_of_mem_take hc)) (RCs_take_drop hone p7 m).1 (by
      rw [← p8, List.take_take, List.length_take]) (fun t ht d hd => by
        obtain ⟨cap', n', sz'⟩ := d
        obtain ⟨r1, r2, r3, r4, r5, r6⟩ := hi.own t ht b cap' n' sz' hd
        rw [h0] at r5; cases r5) (hi.boxFr h0).1 (hi.boxFr h0).2
  rw [p6] at this
  exact this
theorem Mps.take {ob : List (Nat × OV × List Nat)} : ∀ {bs : List Nat} {xs : List MC} (n : Nat), Mps ob bs xs → Mps ob (bs.take n) (xs.take n)
  | [], _, n, h => by rw [show _ = [] from h]; simp [Mps]
  | b :: bs, _, 0, _ => by simp [Mps]
  | b :: bs, _, n + 1, ⟨c, cs, rfl, h2, h3⟩ => ⟨c, _, by simp, h2, Mps.take n h3⟩
theorem Mps.at {ob : List (Nat × OV × List Nat)} : ∀ {bs : List Nat} {xs : List MC} {n j : Nat} {c : MC}, Mps ob bs xs → bs[n]? = some j → xs[n]? = some c → olook ob j = some (.mp c, [j])
  | [], _, n, j, c, _, h, _ => by simp at h
  | b :: bs, _, 0, j, c, ⟨d, ds, rfl, h2, h3⟩, h, h' => by
    simp at h h'; subst h; subst h'; exact h2
  | b :: bs, _, n + 1, j, c, ⟨d, ds, rfl, h2, h3⟩, h, h' => Mps.at h3 (by simpa using h) (by simpa using h')
theorem last_at {xs : List MT} {n : Nat} {c : MT} (hn : n + 1 = xs.length) (h : xs.getLast? = some c) : xs[n]? = some c := by
  rw [List.getLast?_eq_getElem?] at h
  rw [← h]; congr 1; omega
def c61 (_ : Unit) : MM (Option MT × Unit) := fun _ s => if s.2.length < 1000000 then match s.2.getLast? with
  | some m => some (some ((some m, ()), s.1, s.2.dropLast))
  | none => none else none
set_option maxRecDepth 100000 in
theorem ok61 : CPOk CC Tryz.prog syn 61 (cM [] [.mpo] c61) := by
  refine cpM_ok fun l i xs a o ho st vx va r1 r2 h1 h2 hn => ?_
  simp only [c61] at ho
  split at ho
  rotate_left
  · cases ho
  rename_i hlen
  cases hl : xs.getLast? with
  | none => rw [hl] at ho; cases ho
  | some c =>
  rw [hl] at ho
  injection ho with ho
  subst ho
  obtain ⟨b0, b, cap, fp, m, rfl, k1, k2, rfl⟩ := parK_open h1
  simp only [VKs] at h2
  obtain ⟨rfl, rfl⟩ := h2
  have e1 := (look_subS st ([.inr b0, .ob b] ++ []) b0).1 (by simp)
  have e2 := (olook_subS st ([.inr b0, .ob b] ++ []) b).1 (by simp)
  rw [k1] at e1; rw [k2] at e2
  generalize subS st ([.inr b0, .ob b] ++ []) = s0 at e1 e2 ⊢
  refine unpackK e1 e2 fun bs s1 hnd hbl hcap hm2 hm3 l1 l2 l3 l4 => ?_
  rw [List.length_map] at hbl
  have hxl : 0 < xs.length := by cases xs <;> simp at hl ⊢
  refine FnC_introU Tryz.func61 rfl Tryz.ntmps61 Tryz.results61 (by show 1 ≤ 31; decide) fun B => ?_
  have hb1 : ¬ b = b0 := Ne.symm hm2
  simp only [List.cons_append, List.nil_append, List.append_nil, argsE, Nat.reduceAdd]
  obtain ⟨n, hn1⟩ : ∃ n, n + 1 = xs.length := ⟨xs.length - 1, by omega⟩
  have hsub : IntKind.i64.wrap ((xs.length : Int) - 1) = (n : Int) := by rw [IntWalk.i64_in _ (by omega)]; omega
  have z1 : 0 + ((n : Int).toNat) * 1 = n := by omega
  obtain ⟨bl, hbl2⟩ : ∃ bl, bs[n]? = some bl := ⟨bs[n]'(by omega), by simp⟩
  have hp1 : partOk Tryz.prog 63 (mcs bs) n := ⟨hasT63, by rw [cells63]; simp only [mcs, List.length_map]; omega, fun _ => cells63⟩
  have hp2 : (mcs bs).getD n .any = .at (.map (some bl)) := by
    rw [List.getD_eq_getElem?_getD]
    simp [mcs, hbl2]
  (repeat (first | (refine awp_seq ?_) | (refine awp_skip ?_; simp -failIfUnchanged only [thenE_normal, blockE_normal]) | (refine awp_ret ?_; simp -failIfUnchanged only [thenE_ret, blockE_ret, retE_ret, retER_ret]) | (refine awp_exit ?_; simp -failIfUnchanged only [thenE_exit, blockE_exit, thenE_normal, blockE_normal, reduceIte]) | (refine awp_block ?_) | ((first | (refine awp_reg polN ks61 _ rfl rfl ?_) | (refine awp_draw polN mixed ks61 _ rfl rfl (by kernel_rfl) (by kernel_rfl) ?_)); simp only [↓AL_nil, ↓AL_move, ↓AL_assign, ↓AL_bin, ↓AL_fieldAddr, ↓AL_indexAddr, ↓AL_load, ↓AL_nilCheck, ↓AL_len, thenE_normal, putO_some, get_cons, get_nil, ev_tmp, ev_const, cV_int, keepE_cons, keepE_nil, aBin_int, aInt_sub, aLen_slice, aNilCheck_ptr, aLoad_ptr, sLoad_some, aFieldAddr_ptr, sFieldP_some, aIndexAddr_slice, sIndexM_some, implies_true, and_self, partOk, partV, List.length_cons, List.length_nil, List.drop_zero, List.drop_succ_cons, List.take_succ_cons, List.take_zero, List.getD_cons_zero, List.getD_cons_succ, Bool.and_true, Bool.true_and, Bool.and_self, Option.isSome_some, if_true, if_false, and_true, true_and, Nat.reduceAdd, Nat.reduceEqDiff, Nat.reduceLeDiff, reduceCtorEq, Bool.false_eq_true, Nat.zero_add, Nat.lt_add_one, hasT63, aggT63, cells63, hasT64, aggT64, cells64, elT64, fld66_2, ks61, l1, l2, aBinI_int, hsub, z1, hp2])))
  refine ⟨⟨by omega, by omega⟩, by simp only [mcs, List.length_map]; omega, ?_⟩
  (repeat (first | (refine awp_seq ?_) | (refine awp_skip ?_; simp -failIfUnchanged only [thenE_normal, blockE_normal]) | (refine awp_ret ?_; simp -failIfUnchanged only [thenE_ret, blockE_ret, retE_ret, retER_ret]) | (refine awp_exit ?_; simp -failIfUnchanged only [thenE_exit, blockE_exit, thenE_normal, blockE_normal, reduceIte]) | (refine awp_block ?_) | ((first | (refine awp_reg polN ks61 _ rfl rfl ?_) | (refine awp_draw polN mixed ks61 _ rfl rfl (by kernel_rfl) (by kernel_rfl) ?_)); simp only [↓AL_nil, ↓AL_move, ↓AL_bin, ↓AL_fieldAddr, ↓AL_load, ↓AL_store, ↓AL_nilCheck, ↓AL_slice, ↓AL_len, thenE_normal, putO_some, putO_none, get_cons, get_nil, ev_tmp, ev_const, cV_int, keepE_cons, keepE_nil, aBin_int, aInt_sub, aLen_slice, aNilCheck_ptr, aLoad_ptr, sLoad_some, aStore_ptr, sStore_some, aFieldAddr_ptr, sFieldP_some, spl, Option.map_some, implies_true, List.cons_append, List.nil_append, and_self, partOk, partV, allOne, V.isOne, V.flat, List.all_cons, List.all_nil, List.length_cons, List.length_nil, List.drop_zero, List.drop_succ_cons, List.take_succ_cons, List.take_zero, List.getD_cons_zero, List.getD_cons_succ, Bool.true_and, Bool.and_self, Option.isSome_some, if_true, if_false, true_and, Nat.reduceAdd, Nat.reduceEqDiff, Nat.reduceLeDiff, reduceCtorEq, Bool.false_eq_true, Nat.zero_add, Nat.lt_add_one, aSlice_box_hi, sSliceB_some, Option.map_none, hasT63, hasT64, aggT64, cells64, elT64, fld66_2, ks61, l1, aBinI_int, hsub, Int.toNat_natCast])))
  refine ⟨⟨by omega, by omega⟩, ?_⟩
  (repeat (first | (refine awp_seq ?_) | (refine awp_skip ?_; simp -failIfUnchanged only [thenE_normal, blockE_normal]) | (refine awp_ret ?_; simp -failIfUnchanged only [thenE_ret, blockE_ret, retE_ret, retER_ret]) | (refine awp_exit ?_; simp -failIfUnchanged only [thenE_exit, blockE_exit, thenE_normal, blockE_normal, reduceIte]) | (refine awp_block ?_) | ((first | (refine awp_reg polN ks61 _ rfl rfl ?_) | (refine awp_draw polN mixed ks61 _ rfl rfl (by kernel_rfl) (by kernel_rfl) ?_)); simp only [↓AL_nil, ↓AL_move, ↓AL_assign, thenE_normal, putO_some, get_cons, get_nil, ev_tmp, keepE_cons, keepE_nil, if_true, if_false, Nat.reduceEqDiff, ks61])))
  refine ⟨rfl, ?_⟩
  have hbl1 : bl ∉ bs.take n := fun hm => by
    have h1 := (List.nodup_cons.1 hnd).2
    obtain ⟨j, hj, e⟩ := List.getElem_of_mem hm
    have hjn : j < n := by rw [List.length_take] at hj; omega
    rw [List.getElem_take] at e
    have h2 : bs[j]? = some bl := by rw [← e]; simp
    have h3 := (List.getElem?_inj (i := j) (j := n) (by omega) h1).1 (h2.trans hbl2.symm)
    omega
  have hc := Mps.at l3 hbl2 (c := trMC c) (by rw [List.getElem?_map, last_at hn1 hl]; rfl)
  have hcb : b ≠ bl := fun e => (List.nodup_cons.1 hnd).1 (by rw [e]; exact List.mem_of_getElem? hbl2)
  have htk : (mcs bs).take n = mcs (bs.take n) := by simp [mcs]
  have hT : ∀ (cs : List V × Nat) {B : Nat} {g : Gh} {w : World}, Al.Inv B g ⟨lay s1.box b0 cs, s1.tg, s1.nx, s1.ob⟩ w → Al.Inv B g ⟨lay (lay s1.box b0 cs) b (mcs (bs.take n), cap), s1.tg, s1.nx, s1.ob⟩ w := fun cs B g w hi => by
    have := Inv.trunc hi b n (cs := mcs bs) (k := cap) (by show Al.look (lay s1.box b0 _) b = _; rw [look_lay, if_neg hm2]; exact l2)
    rw [htk] at this; exact this
  refine ⟨packS ⟨lay (lay s1.box b0 _) b (mcs (bs.take n), cap), s1.tg, s1.nx, s1.ob⟩ b (bs.take n) ((xs.map trMC).take n) cap, fun B g w hi => Inv.pack (hT _ hi) ?_ ((List.nodup_cons.1 hnd).2.sublist (List.take_sublist n bs)) (Mps.take n l3), [_], [.inr b0, .ob b], [.ob bl], parK_shut (n := n) (fp := b :: bs.take n) (b := b) (cap := cap) (m := m) (by simp; omega) ?_ ?_, ⟨_, [], [.ob bl], [], rfl, rfl, ⟨bl, [bl], rfl, ?_, rfl⟩, rfl, rfl⟩, by simp [hcb], rfl⟩
  · show Al.look (lay (lay s1.box b0 _) b _) b = _
    rw [look_lay, if_pos rfl]
  · show Al.look (wipe (lay (lay s1.box b0 _) b _) b) b0 = _
    rw [look_wipe, if_neg hb1, look_lay, if_neg hb1, look_lay, if_pos rfl]
  · rw [olook_pack, if_pos rfl]
    congr 2
    congr 1
    rw [List.dropLast_eq_take, List.map_take]; congr 1; omega
  · rw [olook_pack, if_neg hcb, if_neg hbl1]; exact hc
def mtGet : MT → Str → Option Int
  | [], _ => none
  | (k, v) :: r, s => if s = k then some v else mtGet r s
def mtPut : MT → Str → Int → MT
  | [], s, v => [(s, v)]
  | (k, u) :: r, s, v => if s = k then (s, v) :: r else (k, u) :: mtPut r s v
theorem ba_beq (s k : Str) : ((⟨s.toArray⟩ : ByteArray) == ⟨k.toArray⟩) = decide (s = k) := by
  by_cases h : s = k
  · subst h; rw [ba_self]; simp
  · cases e : ((⟨s.toArray⟩ : ByteArray) == ⟨k.toArray⟩) with
    | false => simp [h]
    | true =>
      have h1 := congrArg (fun x : ByteArray => x.data.toList) (ba_eq e)
      exact absurd h1 h
theorem mget_tr : ∀ (m : MT) (s : Str), mget (trMC m) ⟨s.toArray⟩ = (mtGet m s).map fun z => .at (.int .i64 z)
  | [], _ => rfl
  | (k, v) :: r, s => by
    show (if ((⟨s.toArray⟩ : ByteArray) == ⟨k.toArray⟩) = true then some _ else mget (trMC r) ⟨s.toArray⟩) = _
    rw [ba_beq, mget_tr r s]
    by_cases h : s = k <;> simp [mtGet, h]
theorem mput_tr : ∀ (m : MT) (s : Str) (z : Int), mput (trMC m) ⟨s.toArray⟩ (.at (.int .i64 z)) = trMC (mtPut m s z)
  | [], _, _ => rfl
  | (k, v) :: r, s, z => by
    show (if ((⟨s.toArray⟩ : ByteArray) == ⟨k.toArray⟩) = true then _ else _ :: mput (trMC r) ⟨s.toArray⟩ (.at (.int .i64 z))) = _
    rw [ba_beq, mput_tr r s z]
    by_cases h : s = k <;> simp [mtPut, h, trMC]
theorem AL_mapUpdate {P : Program} {L : Pol} {ds : List (Option Nat)} {KP : List PanicEntry → S → Prop} {K : Env → S → Prop} {e : Env} {st : S} {d : Option Nat} {ty : TypeId} {pos : String} {af : Array Edge} {os : List Oper} (t : TypeId) (m k y : Operand) :
    AL P L ds KP (⟨d, .mapUpdate t m k y, ty, pos, af, none⟩ :: os) K e st = aMapUpdate P st t (e.ev m) (e.ev k) (e.ev y) fun st' => AL P L ds KP os K (e.putO d .any) st' := rfl
theorem aStr_eql0 (a b : ByteArray) (K : V → Prop) : aStr .eql a b K = K (.at (.bool (a.toList == b.toList))) := rfl
theorem AL_makeInterface0 {P : Program} {L : Pol} {ds : List (Option Nat)} {KP : List PanicEntry → S → Prop} {K : Env → S → Prop} {e : Env} {st : S} {d : Option Nat} {ty : TypeId} {pos : String} {af : Array Edge} {os : List Oper} (t : TypeId) (x : Operand) :
    AL P L ds KP (⟨d, .makeInterface t x, ty, pos, af, none⟩ :: os) K e st = aMkIface P t (e.ev x) fun v => AL P L ds KP os K (e.putO d v) st := rfl
theorem AL_panic0 {P : Program} {L : Pol} {ds : List (Option Nat)} {KP : List PanicEntry → S → Prop} {K : Env → S → Prop} {e : Env} {st : S} {d : Option Nat} {ty : TypeId} {pos : String} {af : Array Edge} {os : List Oper} (x : Operand) :
    AL P L ds KP (⟨d, .panic x, ty, pos, af, none⟩ :: os) K e st = aPanic (e.ev x) fun c => KP c st := rfl
def c58 (a : Str × Bool × Unit) : MM Unit := fun _ s => if a.1 = [] then some (some ((), s)) else if s.2.length < 1000000 then match s.2.getLast? with
  | some m => some (some ((), s.1, s.2.dropLast ++ [mtPut m a.1 (if a.2.1 = true then 2 else 1)]))
  | none => none else none
set_option maxRecDepth 100000 in
theorem ok58 : CPOk CC Tryz.prog syn 58 (cM [.str, .bool] [] c58) := by
  refine cpM_ok fun l i xs a o ho st vx va r1 r2 h1 h2 hn => ?_
  obtain ⟨nm, td, ua⟩ := a
  change Str at nm
  change Bool at td
  obtain ⟨b0, b, cap, fp, m, rfl, k1, k2, rfl⟩ := parK_open h1
  simp only [VKs, VK] at h2
  obtain ⟨v1, w1, q1, q2, rfl, rfl, ⟨rfl, rfl⟩, v2, w2, q3, q4, rfl, rfl, ⟨rfl, rfl⟩, rfl, rfl⟩ := h2
  have hcell : trT CC ⟨id, id, id, id⟩ (.str nm : T UU) = .at (.string ⟨nm.toArray⟩) := rfl
  rw [hcell]
  simp only [List.append_nil] at hn ⊢
  have e1 := (look_subS st [.inr b0, .ob b] b0).1 (by simp)
  have e2 := (olook_subS st [.inr b0, .ob b] b).1 (by simp)
  rw [k1] at e1; rw [k2] at e2
  generalize subS st [.inr b0, .ob b] = s0 at e1 e2 ⊢
  simp only [c58] at ho
  by_cases hnm : nm = []
  · rw [if_pos hnm] at ho
    injection ho with ho
    subst ho
    refine FnC_introU Tryz.func58 rfl Tryz.ntmps58 Tryz.results58 (by show 3 ≤ 24; decide) fun B => ?_
    simp only [List.cons_append, List.nil_append, List.append_nil, argsE, Nat.reduceAdd]
    have hse : ((⟨nm.toArray⟩ : ByteArray).toList == (⟨#[]⟩ : ByteArray).toList) = true := by rw [hnm]; exact beq_self_eq_true _
    (repeat (first | (refine awp_seq ?_) | (refine awp_skip ?_; simp -failIfUnchanged only [thenE_normal, blockE_normal]) | (refine awp_ret ?_; simp -failIfUnchanged only [thenE_ret, blockE_ret, retE_ret, retER_ret]) | (refine awp_exit ?_; simp -failIfUnchanged only [thenE_exit, blockE_exit, thenE_normal, blockE_normal, reduceIte]) | (refine awp_block ?_) | ((first | (refine awp_reg polN ks58 _ rfl rfl ?_) | (refine awp_draw polN mixed ks58 _ rfl rfl (by kernel_rfl) (by kernel_rfl) ?_)); simp only [↓AL_nil, ↓AL_move, ↓AL_bin, thenE_normal, putO_some, get_cons, get_nil, ev_tmp, ev_const, cV_string, keepE_cons, keepE_nil, aBin_str, if_true, if_false, Nat.reduceEqDiff, reduceCtorEq, ks58, aBinI_str, aStr_eql0, hse])))
    refine awp_cond rfl (fun _ => ?_) (fun h => by cases h)
    (repeat (first | (refine awp_seq ?_) | (refine awp_skip ?_; simp -failIfUnchanged only [thenE_normal, blockE_normal]) | (refine awp_ret ?_; simp -failIfUnchanged only [thenE_ret, blockE_ret, retE_ret, retER_ret]) | (refine awp_exit ?_; simp -failIfUnchanged only [thenE_exit, blockE_exit, thenE_normal, blockE_normal, reduceIte]) | (refine awp_block ?_) | ((first | (refine awp_reg polN ks58 _ rfl rfl ?_) | (refine awp_draw polN mixed ks58 _ rfl rfl (by kernel_rfl) (by kernel_rfl) ?_)); simp only [])))
    unfold aResults
    exact ⟨[], [.inr b0, .ob b], [], parK_shut rfl e1 e2, ⟨rfl, rfl⟩, by simp, rfl⟩
  · rw [if_neg hnm] at ho
    split at ho
    rotate_left
    · cases ho
    rename_i hlen
    cases hl : xs.getLast? with
    | none => rw [hl] at ho; cases ho
    | some c =>
    rw [hl] at ho
    injection ho with ho
    subst ho
    have hse : ((⟨nm.toArray⟩ : ByteArray).toList == (⟨#[]⟩ : ByteArray).toList) = false := by
      have h1 : (⟨nm.toArray⟩ : ByteArray).toList = nm := bytes_toList nm
      have h2 : (⟨#[]⟩ : ByteArray).toList = [] := bytes_toList []
      rw [h1, h2]
      cases nm <;> first | exact absurd rfl hnm | rfl
    refine unpackK e1 e2 fun bs s1 hnd hbl hcap hm2 hm3 l1 l2 l3 l4 => ?_
    rw [List.length_map] at hbl
    have hxl : 0 < xs.length := by cases xs <;> simp at hl ⊢
    refine FnC_introU Tryz.func58 rfl Tryz.ntmps58 Tryz.results58 (by show 3 ≤ 24; decide) fun B => ?_
    have hb1 : ¬ b = b0 := Ne.symm hm2
    simp only [List.cons_append, List.nil_append, List.append_nil, argsE, Nat.reduceAdd]
    obtain ⟨n, hn1⟩ : ∃ n, n + 1 = xs.length := ⟨xs.length - 1, by omega⟩
    have hsub : IntKind.i64.wrap ((xs.length : Int) - 1) = (n : Int) := by rw [IntWalk.i64_in _ (by omega)]; omega
    have z1 : 0 + ((n : Int).toNat) * 1 = n := by omega
    obtain ⟨bl, hbl2⟩ : ∃ bl, bs[n]? = some bl := ⟨bs[n]'(by omega), by simp⟩
    have hp1 : partOk Tryz.prog 63 (mcs bs) n := ⟨hasT63, by rw [cells63]; simp only [mcs, List.length_map]; omega, fun _ => cells63⟩
    have hp2 : (mcs bs).getD n .any = .at (.map (some bl)) := by
      rw [List.getD_eq_getElem?_getD]
      simp [mcs, hbl2]
    have hc := Mps.at l3 hbl2 (c := trMC c) (by rw [List.getElem?_map, last_at hn1 hl]; rfl)
    have hmap : ∀ (z : Int) (s2 : S), s2.box = s1.box → s2.tg = s1.tg → s2.nx = s1.nx → s2.ob = (bl, .mp (mput (trMC c) ⟨nm.toArray⟩ (.at (.int .i64 z))), [bl]) :: s1.ob → z = (if td = true then 2 else 1) →
        ∃ s3, (∀ (B : Nat) (g : Gh) (w : World), Al.Inv B g s2 w → Al.Inv B g s3 w) ∧ CPost CC syn [parK] [] [V.at (Value.pointer (some { block := b0, off := 0 }))] (Option.map (fun y => (((l, y.snd.fst, y.snd.snd, (), ()), ()), y.fst)) (some ((), i, xs.dropLast ++ [mtPut c nm (if td = true then 2 else 1)]))) (Outc.ret (finV [])) s3 := by
      intro z s2 q1 q2 q3 q4 q5
      have hM : Mps s2.ob bs ((xs.dropLast ++ [mtPut c nm z]).map trMC) := by
        have key : ∀ (bs : List Nat) (ys : List MC) (n : Nat), bs.Nodup → Mps s1.ob bs ys → bs[n]? = some bl → n + 1 = ys.length → Mps s2.ob bs (ys.dropLast ++ [trMC (mtPut c nm z)]) := by
          intro bs
          induction bs with
          | nil => intro ys n _ _ h; simp at h
          | cons j bs ih =>
            rintro _ n hnd ⟨d, ds, rfl, h1, h2⟩ h3 h4
            obtain ⟨h5, h6⟩ := List.nodup_cons.1 hnd
            cases n with
            | zero =>
              have h7 : ds = [] := by cases ds <;> simp at h4 ⊢
              subst h7
              simp at h3; subst h3
              refine ⟨_, [], rfl, ?_, ?_⟩
              · rw [q4, olook_cons, if_pos rfl, mput_tr]
              · have := h2.length
                have h8 : bs = [] := by cases bs <;> simp at this ⊢
                subst h8; rfl
            | succ n =>
              have h7 : ds ≠ [] := by rintro rfl; simp at h4
              have h3' : bs[n]? = some bl := by simpa using h3
              have hne : ¬ bl = j := fun e => h5 (by rw [← e]; exact List.mem_of_getElem? h3')
              refine ⟨d, ds.dropLast ++ [trMC (mtPut c nm z)], by rw [List.dropLast_cons_of_ne_nil h7]; rfl, ?_, ih ds n h6 h2 h3' (by simpa using h4)⟩
              rw [q4, olook_cons, if_neg hne]; exact h1
        have := key bs (xs.map trMC) n (List.nodup_cons.1 hnd).2 l3 hbl2 (by simpa using hn1)
        rw [List.map_append, List.map_dropLast]
        exact this
      subst q5
      refine ⟨packS s2 b bs ((xs.dropLast ++ [mtPut c nm (if td = true then 2 else 1)]).map trMC) cap, fun B g w hi => Inv.pack hi (by rw [q1]; exact l2) (List.nodup_cons.1 hnd).2 hM, [], [.inr b0, .ob b], [], parK_shut (n := xs.length) (fp := b :: bs) (b := b) (cap := cap) (m := m) (by simp; omega) ?_ ?_, ⟨rfl, rfl⟩, by simp, rfl⟩
      · show Al.look (wipe s2.box b) b0 = _
        rw [look_wipe, if_neg hb1, q1]; exact l1
      · rw [olook_pack, if_pos rfl]
    (repeat (first | (refine awp_seq ?_) | (refine awp_skip ?_; simp -failIfUnchanged only [thenE_normal, blockE_normal]) | (refine awp_ret ?_; simp -failIfUnchanged only [thenE_ret, blockE_ret, retE_ret, retER_ret]) | (refine awp_exit ?_; simp -failIfUnchanged only [thenE_exit, blockE_exit, thenE_normal, blockE_normal, reduceIte]) | (refine awp_block ?_) | ((first | (refine awp_reg polN ks58 _ rfl rfl ?_) | (refine awp_draw polN mixed ks58 _ rfl rfl (by kernel_rfl) (by kernel_rfl) ?_)); simp only [↓AL_nil, ↓AL_move, ↓AL_bin, thenE_normal, putO_some, get_cons, get_nil, ev_tmp, ev_const, cV_string, keepE_cons, keepE_nil, aBin_str, if_true, if_false, Nat.reduceEqDiff, reduceCtorEq, ks58, aBinI_str, aStr_eql0, hse])))
    refine awp_cond rfl (fun h => by cases h) (fun _ => ?_)
    (repeat (first | (refine awp_seq ?_) | (refine awp_skip ?_; simp -failIfUnchanged only [thenE_normal, blockE_normal]) | (refine awp_ret ?_; simp -failIfUnchanged only [thenE_ret, blockE_ret, retE_ret, retER_ret]) | (refine awp_exit ?_; simp -failIfUnchanged only [thenE_exit, blockE_exit, thenE_normal, blockE_normal, reduceIte]) | (refine awp_block ?_) | ((first | (refine awp_reg polN ks58 _ rfl rfl ?_) | (refine awp_draw polN mixed ks58 _ rfl rfl (by kernel_rfl) (by kernel_rfl) ?_)); simp only [↓AL_nil, ↓AL_move, ↓AL_assign, thenE_normal, putO_some, get_cons, get_nil, ev_tmp, ev_const, cV_int, keepE_cons, keepE_nil, if_true, if_false, Nat.reduceEqDiff, reduceCtorEq, ks58])))
    refine awp_cond rfl (fun ht => ?_) (fun ht => ?_)
    · subst ht
      (repeat (first | (refine awp_seq ?_) | (refine awp_skip ?_; simp -failIfUnchanged only [thenE_normal, blockE_normal]) | (refine awp_ret ?_; simp -failIfUnchanged only [thenE_ret, blockE_ret, retE_ret, retER_ret]) | (refine awp_exit ?_; simp -failIfUnchanged only [thenE_exit, blockE_exit, thenE_normal, blockE_normal, reduceIte]) | (refine awp_block ?_) | ((first | (refine awp_reg polN ks58 _ rfl rfl ?_) | (refine awp_draw polN mixed ks58 _ rfl rfl (by kernel_rfl) (by kernel_rfl) ?_)); simp only [↓AL_nil, ↓AL_move, ↓AL_assign, ↓AL_bin, ↓AL_fieldAddr, ↓AL_indexAddr, ↓AL_load, ↓AL_nilCheck, ↓AL_len, thenE_normal, putO_some, get_cons, get_nil, ev_tmp, ev_const, cV_int, keepE_cons, keepE_nil, aBin_int, aInt_sub, aLen_slice, aNilCheck_ptr, aLoad_ptr, sLoad_some, aFieldAddr_ptr, sFieldP_some, aIndexAddr_slice, sIndexM_some, implies_true, List.map_cons, List.map_nil, and_self, partOk, partV, List.length_cons, List.length_nil, List.drop_zero, List.drop_succ_cons, List.take_succ_cons, List.take_zero, List.getD_cons_zero, List.getD_cons_succ, Bool.and_true, Bool.true_and, Bool.and_self, Option.isSome_some, if_true, if_false, and_true, true_and, Nat.reduceAdd, Nat.reduceEqDiff, Nat.reduceLeDiff, reduceCtorEq, Bool.false_eq_true, Nat.zero_add, Nat.lt_add_one, hasT63, aggT63, cells63, hasT64, aggT64, cells64, elT64, fld66_2, ks58, l1, l2, aBinI_int, hsub, hp2, Int.toNat_natCast, AL_mapUpdate, Nat.mul_one])))
      refine ⟨⟨by omega, by omega⟩, by simp only [mcs, List.length_map]; omega, ?_⟩
      unfold aMapUpdate
      rw [show mapT Tryz.prog 63 = some 3 from by kernel_rfl]
      simp only
      rw [hc]
      exact ⟨rfl, hmap 2 _ rfl rfl rfl rfl rfl⟩
    · subst ht
      (repeat (first | (refine awp_seq ?_) | (refine awp_skip ?_; simp -failIfUnchanged only [thenE_normal, blockE_normal]) | (refine awp_ret ?_; simp -failIfUnchanged only [thenE_ret, blockE_ret, retE_ret, retER_ret]) | (refine awp_exit ?_; simp -failIfUnchanged only [thenE_exit, blockE_exit, thenE_normal, blockE_normal, reduceIte]) | (refine awp_block ?_) | ((first | (refine awp_reg polN ks58 _ rfl rfl ?_) | (refine awp_draw polN mixed ks58 _ rfl rfl (by kernel_rfl) (by kernel_rfl) ?_)); simp only [↓AL_nil, ↓AL_move, ↓AL_bin, ↓AL_fieldAddr, ↓AL_indexAddr, ↓AL_load, ↓AL_nilCheck, ↓AL_len, putO_some, get_cons, get_nil, ev_tmp, ev_const, cV_int, keepE_nil, aBin_int, aInt_sub, aLen_slice, aNilCheck_ptr, aLoad_ptr, sLoad_some, aFieldAddr_ptr, sFieldP_some, aIndexAddr_slice, sIndexM_some, implies_true, List.map_cons, List.map_nil, and_self, partOk, partV, List.length_cons, List.length_nil, List.drop_zero, List.drop_succ_cons, List.take_succ_cons, List.take_zero, List.getD_cons_zero, List.getD_cons_succ, Bool.and_true, Bool.true_and, Bool.and_self, Option.isSome_some, if_true, if_false, and_true, true_and, Nat.reduceAdd, Nat.reduceEqDiff, Nat.reduceLeDiff, reduceCtorEq, Bool.false_eq_true, Nat.zero_add, Nat.lt_add_one, hasT63, aggT63, cells63, hasT64, aggT64, cells64, elT64, fld66_2, ks58, l1, l2, aBinI_int, hsub, hp2, Int.toNat_natCast, AL_mapUpdate, Nat.mul_one])))
      refine ⟨⟨by omega, by omega⟩, by simp only [mcs, List.length_map]; omega, ?_⟩
      unfold aMapUpdate
      rw [show mapT Tryz.prog 63 = some 3 from by kernel_rfl]
      simp only
      rw [hc]
      exact ⟨rfl, hmap 1 _ rfl rfl rfl rfl rfl⟩
theorem ok77 : CPOk CC Tryz.prog syn 77 cNeed := by
  intro x a R pan K r hr
  obtain ⟨b, ua⟩ := a
  change Bool at b
  replace hr : cond b (K () ()) pan = some r := hr
  have run : ∀ (s : S), FnC Tryz.prog 77 [.at (.bool b)] s (CPost CC syn ([] : LK) ([] : LK) [] (if b = true then some ((), ()) else none)) := by
    intro s
    refine FnC_introU Tryz.func77 rfl Tryz.ntmps77 Tryz.results77 (by show 1 ≤ 6; decide) fun B => ?_
    simp only [List.cons_append, List.nil_append, List.append_nil, argsE, Nat.reduceAdd]
    (repeat (first | (refine awp_seq ?_) | (refine awp_skip ?_; simp -failIfUnchanged only [thenE_normal, blockE_normal]) | (refine awp_ret ?_; simp -failIfUnchanged only [thenE_ret, blockE_ret, retE_ret, retER_ret]) | (refine awp_exit ?_; simp -failIfUnchanged only [thenE_exit, blockE_exit, thenE_normal, blockE_normal, reduceIte]) | (refine awp_block ?_) | ((first | (refine awp_reg polN ks77 _ rfl rfl ?_) | (refine awp_draw polN mixed ks77 _ rfl rfl (by kernel_rfl) (by kernel_rfl) ?_)); simp only [↓AL_nil, ↓AL_move, ↓AL_un, thenE_normal, putO_some, get_cons, get_nil, ev_tmp, keepE_cons, keepE_nil, aUn_not, if_true, if_false, Nat.reduceEqDiff, reduceCtorEq, ks77])))
    refine awp_cond rfl (fun h => ?_) (fun h => ?_)
    · have hb : b = false := by cases b <;> simp at h ⊢
      subst hb
      (repeat (first | (refine awp_seq ?_) | (refine awp_skip ?_; simp -failIfUnchanged only [thenE_normal, blockE_normal]) | (refine awp_ret ?_; simp -failIfUnchanged only [thenE_ret, blockE_ret, retE_ret, retER_ret]) | (refine awp_exit ?_; simp -failIfUnchanged only [thenE_exit, blockE_exit, thenE_normal, blockE_normal, reduceIte]) | (refine awp_block ?_) | ((first | (refine awp_reg polN ks77 _ rfl rfl ?_) | (refine awp_draw polN mixed ks77 _ rfl rfl (by kernel_rfl) (by kernel_rfl) ?_)); simp only [↓AL_build, putO_some, get_cons, get_nil, ev_tmp, keepE_nil, aBuild_eq, sBuild_some, sBuild2_some, fillV_nil, List.map_cons, List.map_nil, Bool.true_and, if_true, if_false, true_and, Nat.reduceEqDiff, Bool.false_eq_true, structT61, zero61, ks77, AL_makeInterface0, AL_panic0])))
      refine ⟨by kernel_rfl, ?_⟩
      rfl
    · have hb : b = true := by cases b <;> simp at h ⊢
      subst hb
      refine awp_skip ?_
      exact ⟨[], [], [], ⟨rfl, rfl⟩, ⟨rfl, rfl⟩, by simp, rfl⟩
  cases b with
  | true =>
    refine ⟨some ((), ()), hr, fun s vx va r1 r2 h1 h2 hn => ?_⟩
    simp only [VKs, VK] at h1 h2
    obtain ⟨rfl, rfl⟩ := h1
    obtain ⟨v, w, q1, q2, rfl, rfl, ⟨rfl, rfl⟩, rfl, rfl⟩ := h2
    exact run _
  | false =>
    refine ⟨none, hr, fun s vx va r1 r2 h1 h2 hn => ?_⟩
    simp only [VKs, VK] at h1 h2
    obtain ⟨rfl, rfl⟩ := h1
    obtain ⟨v, w, q1, q2, rfl, rfl, ⟨rfl, rfl⟩, rfl, rfl⟩ := h2
    exact run _
theorem ok41 : ConOk CC Tryz.prog 41 ⟨as41, rs41, fun x => some (Nd.mk x.1 0 x.2.1, ())⟩ := con41 0
abbrev pol38 : Pol := ⟨fun f => f == 41, fun _ => false, fun _ => false, fun _ => false, [], fun _ => []⟩
set_option maxRecDepth 100000 in
theorem ok38 : CROk CC Tryz.prog 38 crNode := by
  intro x R K r hr
  obtain ⟨⟨pts, u⟩, k, u'⟩ := x
  change List Nd at pts
  change Int at k
  refine ⟨(Nd.mk k 0 pts, ()), hr, fun s va q hv hn => ?_⟩
  simp only [VKs, VK] at hv
  obtain ⟨v, w, q1, q2, rfl, rfl, ⟨b0, cs, q3, rfl, e1, ⟨v2, w2, q4, q5, rfl, rfl, ⟨n, rfl, hn1, hn2, rfl⟩, rfl, rfl⟩, rfl⟩, v3, w3, q6, q7, rfl, rfl, ⟨rfl, rfl⟩, rfl, rfl⟩ := hv
  refine ⟨[encNd (Nd.mk k 0 pts)], fun s' => ⟨_, [], [], [], rfl, rfl, ⟨rfl, rfl⟩, rfl, rfl⟩, ?_⟩
  have e2 := (look_subS s [.inr b0, .inl n] b0).1 (by simp)
  rw [e1] at e2
  show FnC Tryz.prog 38 _ (subS s [.inr b0, .inl n]) fun oc s' => oc = .ret (finV [encNd (Nd.mk k 0 pts)]) ∧ s' = subS s [.inr b0, .inl n]
  generalize subS s [.inr b0, .inl n] = s0 at e2 ⊢
  have hp : PureF Tryz.prog 41 [.at (.int .i64 k), .lst (tagOf (pts.map (CC.encV TI.node))) (pts.map (CC.encV TI.node))] (encNd (Nd.mk k 0 pts)) := by
    have h := ok41 (k, pts, ()) (Nd.mk k 0 pts, ()) rfl [.at (.int .i64 k), .lst (tagOf (pts.map (CC.encV TI.node))) (pts.map (CC.encV TI.node))] ⟨_, _, rfl, rfl, ⟨_, _, rfl, rfl, rfl⟩⟩
    have e : finV ((argTs CC rs41 (fun _ => false) 0 (Nd.mk k 0 pts, ())).map (trT CC ⟨id, id, id, id⟩)) = encNd (Nd.mk k 0 pts) := CCok.enc _ TI.node (Nd.mk k 0 pts)
    exact e ▸ h
  refine FnC_post ?_
  refine FnC_introU Tryz.func38 rfl Tryz.ntmps38 Tryz.results38 (by show 2 ≤ 11; decide) fun B => ?_
  simp only [List.cons_append, List.nil_append, List.append_nil, argsE, Nat.reduceAdd]
  (repeat (first | (refine awp_seq ?_) | (refine awp_skip ?_; simp -failIfUnchanged only [thenE_normal, blockE_normal]) | (refine awp_ret ?_; simp -failIfUnchanged only [thenE_ret, blockE_ret, retE_ret, retER_ret]) | (refine awp_exit ?_; simp -failIfUnchanged only [thenE_exit, blockE_exit, thenE_normal, blockE_normal, reduceIte]) | (refine awp_block ?_) | ((first | (refine awp_reg pol38 ks38 _ rfl rfl ?_) | (refine awp_draw pol38 mixed ks38 _ rfl rfl (by kernel_rfl) (by kernel_rfl) ?_)); simp only [↓AL_nil, ↓AL_alloc, thenE_normal, putO_some, get_cons, get_nil, keepE_cons, keepE_nil, aAlloc_eq, sAlloc_some, if_true, if_false, Nat.reduceEqDiff, reduceCtorEq, zero29, ks38])))
  refine ⟨rfl, fun b hb => ?_⟩
  have hbb : ¬ b = b0 := fun e => by rw [e, e2] at hb; cases hb
  have hbb' : ¬ b0 = b := fun e => hbb e.symm
  (repeat (first | (refine awp_seq ?_) | (refine awp_skip ?_; simp -failIfUnchanged only [thenE_normal, blockE_normal]) | (refine awp_ret ?_; simp -failIfUnchanged only [thenE_ret, blockE_ret, retE_ret, retER_ret]) | (refine awp_exit ?_; simp -failIfUnchanged only [thenE_exit, blockE_exit, thenE_normal, blockE_normal, reduceIte]) | (refine awp_block ?_) | ((first | (refine awp_reg pol38 ks38 _ rfl rfl ?_) | (refine awp_draw pol38 mixed ks38 _ rfl rfl (by kernel_rfl) (by kernel_rfl) ?_)); simp only [↓AL_move, ↓AL_fieldAddr, ↓AL_load, ↓AL_nilCheck, thenE_normal, thenE_panic, putO_some, get_cons, get_nil, ev_tmp, keepE_cons, keepE_nil, aNilCheck_ptr, aLoad_ptr, sLoad_some, aFieldAddr_ptr, sFieldP_some, implies_true, List.map_cons, List.map_nil, and_self, partOk, partV, List.length_cons, List.length_nil, List.drop_zero, List.take_succ_cons, List.take_nil, List.getD_cons_zero, Bool.true_and, Bool.and_self, if_true, if_false, true_and, Nat.reduceAdd, Nat.reduceEqDiff, reduceCtorEq, Bool.false_eq_true, Nat.zero_add, Nat.add_zero, Nat.le_refl, Nat.lt_add_one, look_lay, hasT27, aggT27, cells27, fld68_0, ks38, e2, hbb])))
  (refine AL_callp hp rfl code41 (by simp only [List.map_cons, List.map_nil, ev_tmp, ev_const, cV_int, cV_bool, cV_string, cV_nil, putO_some, putO_none, get_cons, get_nil, if_true, if_false, Nat.reduceEqDiff, reduceIte, reduceCtorEq, untag_tagOf, untag_at, untag_rptr, untag_own, untag_ownf, untag_no, untag_nil, untag_agg, untag1_tagOf, untag1_at, untag1_own, untag1_no, untag1_nil]) (by simp only [List.map_cons, List.map_nil, List.all_cons, List.all_nil, ev_tmp, ev_const, cV_int, cV_bool, cV_string, cV_nil, putO_some, putO_none, get_cons, get_nil, if_true, if_false, Nat.reduceEqDiff, reduceIte, reduceCtorEq, flat_one_at, flat_one_lst, flat_one_rptr, flat_one_agg, V.isOne, Bool.and_self, Bool.and_true]) ?_; simp only [↓AL_nil, ↓AL_store, putO_some, putO_none, get_cons, get_nil, ev_tmp, aStore_ptr, sStore_some, spl, List.nil_append, allOne, V.flat, List.length_cons, List.length_nil, List.take_zero, Bool.true_and, if_true, if_false, true_and, Nat.reduceAdd, Nat.reduceEqDiff, reduceCtorEq, Nat.zero_add, look_lay, hasT29, cells29])
  simp only [encNd_mk, sl]
  refine ⟨rfl, rfl, Nat.le_refl _, ?_⟩
  (repeat (first | (refine awp_seq ?_) | (refine awp_skip ?_; simp -failIfUnchanged only [thenE_normal, blockE_normal]) | (refine awp_ret ?_; simp -failIfUnchanged only [thenE_ret, blockE_ret, retE_ret, retER_ret]) | (refine awp_exit ?_; simp -failIfUnchanged only [thenE_exit, blockE_exit, thenE_normal, blockE_normal, reduceIte]) | (refine awp_block ?_) | ((first | (refine awp_reg pol38 ks38 _ rfl rfl ?_) | (refine awp_draw pol38 mixed ks38 _ rfl rfl (by kernel_rfl) (by kernel_rfl) ?_)); simp only [])))
  unfold aResults
  rw [show Env.get [(4, V.at (Value.pointer (some ⟨b, 0, none⟩)))] 4 = V.at (Value.pointer (some ⟨b, 0, none⟩)) from rfl, aLoad_ptr, look_lay, if_pos rfl, sLoad_some]
  refine ⟨⟨hasT29, by rw [cells29]; exact Nat.le_refl _, fun h => by rw [aggT29] at h; cases h⟩, ?_⟩
  have hpv : ∀ a b c : V, partV Tryz.prog 29 [a, b, c] 0 = .agg [a, b, c] := fun a b c => by
    unfold partV
    rw [if_pos aggT29, cells29]; rfl
  simp only [List.cons_append, List.nil_append, List.length_cons, List.length_nil, List.drop_succ_cons, List.drop_zero, List.append_nil, List.drop_nil, Nat.zero_add, Nat.reduceAdd, hpv]
  refine ⟨rfl, ?_⟩
  unfold aResults
  refine ⟨s0, fun B g w hi => hi.weaken ⟨fun j c hj => ?_, fun _ hm => hm, fun hn => hn, fun j hj => ?_, Nat.le_refl _, fun _ _ h => h⟩, ?_, rfl⟩
  · have : ¬ b = j := fun e => by rw [← e, hb] at hj; cases hj
    show Al.look (lay (lay s0.box b _) b _) j = _
    rw [look_lay, if_neg this, look_lay, if_neg this]; exact hj
  · replace hj : Al.look (lay (lay s0.box b _) b _) j = none := hj
    rw [look_lay] at hj
    split at hj
    · cases hj
    · rename_i h; rw [look_lay, if_neg h] at hj; exact hj
  · simp only [finV, V.untag, List.map_cons, List.map_nil, untag_dl]
    rfl
end Go.Proofs.YtnamdpbcpnnhaaaGreatDoor
end
section
set_option linter.unusedVariables false
set_option linter.unusedSimpArgs false
namespace Go.Proofs.YtnamdpbcpnnhaaaGreatDoor
open Go.Al Go.Den
def byteO (s : Str) (n : Int) : Int := if n < s.length then byteAt s n else 0
def c88 (a : Int × Unit) (s : Str) (i : Int) : Option (Int × Unit) := if 0 ≤ i + a.1 ∧ i + a.1 < 9223372036854775808 ∧ s.length < 9223372036854775808 then some (byteO s (i + a.1), ()) else none
set_option maxRecDepth 100000 in
theorem ok88 : CROk CC Tryz.prog 88 (cRD [.int .i64] [.int .u8] c88) := by
  intro x R K r hr
  obtain ⟨⟨s0, i, u⟩, k, u'⟩ := x
  change Str at s0
  change Int at i
  change Int at k
  replace hr : Option.bind (c88 (k, ()) s0 i) (fun y => K y) = some r := hr
  unfold c88 at hr
  split at hr
  rotate_left
  · cases hr
  rename_i h
  replace hr : K (byteO s0 (i + k), ()) = some r := hr
  replace h : 0 ≤ i + k ∧ i + k < 9223372036854775808 ∧ s0.length < 9223372036854775808 := h
  refine ⟨_, hr, fun s va q hv hn => ?_⟩
  simp only [VKs, VK] at hv
  obtain ⟨v, w, q1, q2, rfl, rfl, ⟨b0, cs, q3, rfl, e1, ⟨v2, w2, q4, q5, rfl, rfl, ⟨rfl, rfl⟩, v4, w4, q8, q9, rfl, rfl, ⟨rfl, rfl⟩, rfl, rfl⟩, rfl⟩, v3, w3, q6, q7, rfl, rfl, ⟨rfl, rfl⟩, rfl, rfl⟩ := hv
  refine ⟨[.at (.int .u8 (byteO s0 (i + k)))], fun s' => ⟨_, [], [], [], rfl, rfl, ⟨rfl, rfl⟩, rfl, rfl⟩, ?_⟩
  simp only [List.nil_append, List.append_nil, List.cons_append]
  have e2 := (look_subS s [.inr b0] b0).1 (by simp)
  rw [e1] at e2
  show FnC Tryz.prog 88 _ (subS s [.inr b0]) fun oc s' => oc = .ret (finV [.at (.int .u8 (byteO s0 (i + k)))]) ∧ s' = subS s [.inr b0]
  generalize subS s [.inr b0] = s1 at e2 ⊢
  refine FnC_introU Tryz.func88 rfl Tryz.ntmps88 Tryz.results88 (by show 2 ≤ 28; decide) fun B => ?_
  simp only [List.cons_append, List.nil_append, List.append_nil, argsE, Nat.reduceAdd]
  replace e2 : Al.look s1.box b0 = some ([.at (.string ⟨List.toArray s0⟩), .at (.int .i64 i)], 2) := e2
  have hw : IntKind.i64.wrap (i + k) = i + k := IntWalk.i64_in _ (by omega)
  have hsz : (⟨List.toArray s0⟩ : ByteArray).size = s0.length := by simp [ByteArray.size]
  (repeat (first | (refine awp_seq ?_) | (refine awp_skip ?_; simp -failIfUnchanged only [thenE_normal, blockE_normal]) | (refine awp_ret ?_; simp -failIfUnchanged only [thenE_ret, blockE_ret, retE_ret, retER_ret]) | (refine awp_exit ?_; simp -failIfUnchanged only [thenE_exit, blockE_exit, thenE_normal, blockE_normal, reduceIte]) | (refine awp_block ?_) | ((first | (refine awp_reg polN ks88 _ rfl rfl ?_) | (refine awp_draw polN mixed ks88 _ rfl rfl (by kernel_rfl) (by kernel_rfl) ?_)); simp only [↓AL_nil, ↓AL_move, ↓AL_assign, ↓AL_bin, ↓AL_fieldAddr, ↓AL_load, ↓AL_nilCheck, ↓AL_len, thenE_normal, putO_some, get_cons, get_nil, ev_tmp, ev_const, cV_int, keepE_cons, keepE_nil, aBin_int, aInt_add, aInt_geq, aLen_str, aNilCheck_ptr, aLoad_ptr, sLoad_some, aFieldAddr_ptr, sFieldP_some, implies_true, and_self, partOk, partV, List.length_cons, List.length_nil, List.drop_zero, List.drop_succ_cons, List.take_succ_cons, List.take_zero, List.take_nil, List.getD_cons_zero, List.getD_cons_succ, Bool.true_and, Bool.and_self, if_true, if_false, true_and, Nat.reduceAdd, Nat.reduceEqDiff, Nat.reduceLeDiff, reduceCtorEq, Bool.false_eq_true, Nat.zero_add, Nat.add_zero, Nat.le_refl, Nat.lt_add_one, hasT3, aggT3, cells3, hasT9, aggT9, cells9, strT9, fld104_0, fld104_1, ks88, e2, aBinI_int, hw, hsz])))
  refine awp_cond rfl (fun h1 => ?_) (fun h1 => ?_)
  · have h2 : i + k ≥ s0.length := of_decide_eq_true h1
    have h3 : byteO s0 (i + k) = 0 := if_neg (by omega)
    (repeat (first | (refine awp_seq ?_) | (refine awp_skip ?_; simp -failIfUnchanged only [thenE_normal, blockE_normal]) | (refine awp_ret ?_; simp -failIfUnchanged only [thenE_ret, blockE_ret, retE_ret, retER_ret]) | (refine awp_exit ?_; simp -failIfUnchanged only [thenE_exit, blockE_exit, thenE_normal, blockE_normal, reduceIte]) | (refine awp_block ?_) | ((first | (refine awp_reg polN ks88 _ rfl rfl ?_) | (refine awp_draw polN mixed ks88 _ rfl rfl (by kernel_rfl) (by kernel_rfl) ?_)); simp only [↓AL_nil, ↓AL_assign, thenE_normal, putO_some, get_cons, get_nil, ev_const, cV_int, keepE_cons, keepE_nil, if_true, if_false, Nat.reduceEqDiff, reduceCtorEq, ks88])))
    simp only [aResults]
    rw [h3]
    exact ⟨rfl, rfl, trivial⟩
  · have h2 : ¬ i + k ≥ s0.length := of_decide_eq_false h1
    have h3 : byteO s0 (i + k) = byteAt s0 (i + k) := if_pos (by omega)
    refine awp_skip ?_
    simp -failIfUnchanged only [thenE_normal, blockE_normal]
    have hin : 0 ≤ i + k ∧ i + k < (s0.length : Int) := by omega
    (repeat (first | (refine awp_seq ?_) | (refine awp_skip ?_; simp -failIfUnchanged only [thenE_normal, blockE_normal]) | (refine awp_ret ?_; simp -failIfUnchanged only [thenE_ret, blockE_ret, retE_ret, retER_ret]) | (refine awp_exit ?_; simp -failIfUnchanged only [thenE_exit, blockE_exit, thenE_normal, blockE_normal, reduceIte]) | (refine awp_block ?_) | ((first | (refine awp_reg polN ks88 _ rfl rfl ?_) | (refine awp_draw polN mixed ks88 _ rfl rfl (by kernel_rfl) (by kernel_rfl) ?_)); simp only [↓AL_nil, ↓AL_move, ↓AL_assign, ↓AL_bin, ↓AL_fieldAddr, ↓AL_index, ↓AL_load, ↓AL_nilCheck, thenE_normal, putO_some, get_cons, get_nil, ev_tmp, keepE_cons, keepE_nil, aBin_int, aInt_add, aNilCheck_ptr, aLoad_ptr, sLoad_some, aFieldAddr_ptr, sFieldP_some, aIndex_str, implies_true, and_self, partOk, partV, List.length_cons, List.length_nil, List.drop_zero, List.drop_succ_cons, List.take_succ_cons, List.take_zero, List.take_nil, List.getD_cons_zero, List.getD_cons_succ, Bool.true_and, Bool.and_self, if_true, if_false, true_and, Nat.reduceAdd, Nat.reduceEqDiff, Nat.reduceLeDiff, reduceCtorEq, Bool.false_eq_true, Nat.zero_add, Nat.add_zero, Nat.le_refl, Nat.lt_add_one, hasT3, aggT3, cells3, hasT9, aggT9, cells9, strT9, fld104_0, fld104_1, ks88, e2, aBinI_int, hw, hsz, hin])))
    have hg : (List.toArray s0).getD (i + k).toNat 0 = s0.getD (i + k).toNat 0 := by simp [Array.getD_eq_getD_getElem?, List.getD_eq_getElem?_getD]
    simp only [aResults]
    rw [h3, hg]
    exact ⟨rfl, rfl, trivial⟩
end Go.Proofs.YtnamdpbcpnnhaaaGreatDoor
end
section
set_option linter.unusedVariables false
set_option linter.unusedSimpArgs false
namespace Go.Proofs.YtnamdpbcpnnhaaaGreatDoor
open Go.Al Go.Den
def kf17 : Nat → List Nat
  | 0 => [0, 2, 3, 4]
  | 1 => [0, 2, 3, 4, 8]
  | 2 => [0, 2, 3, 4]
  | 3 => [0, 2, 3]
  | 4 => [0, 2, 3, 4]
  | 5 => [0, 2, 3, 4, 5]
  | 6 => [0, 2, 3, 4, 5, 22]
  | 7 => [0, 2, 3, 4, 5]
  | 8 => [0, 2, 3, 4]
  | _ => []
def hd17 : List (Nat × Head UU) := [(6, ⟨[0, 2, 3, 4, 5], [], [(4, parK), (5, ptsK)]⟩)]
def jn17 : List (Nat × Head UU) := []
noncomputable def fd17 : FD UU := ⟨⟨fun d => hasN [] d, fun d => hasN [] d, kf17, findF hd17, findF jn17, findL []⟩, bodyOf Tryz.f17, 28, [.cell 2 29, .cell 3 30]⟩
noncomputable def rest17 : Code := match bodyOf Tryz.f17 with
  | .seq _ (.seq _ (.seq _ (.seq _ (.seq _ (.seq (.block _ c) _))))) => c
  | _ => .skip
abbrev k17 : LK := [.dl TI.tok, parK, ptsK]
noncomputable def run17 (fu : Nat) (v2 v3 : Value) (c37 : denKs ([.bool] : LK) → MM (denKs ([.st TI.node] : LK))) (x : denKs k17) : Option (Option (denKs ([parK, ptsK] : LK))) :=
  runQ CC Tb fu 3 (findF [(36, fd36)]) (findF []) (findF [(38, crNode)]) (findF [(37, cM ([.bool] : LK) ([.st TI.node] : LK) c37)]) fd17.fi rest17 [(2, v2), (3, v3)] false [0, 4, 5] [4, 5] k17 ([parK, ptsK] : LK) x
noncomputable def rest17b : Code := match bodyOf Tryz.f17 with
  | .seq _ (.seq _ (.seq _ (.seq _ (.seq _ (.seq _ c))))) => c
  | _ => .skip
abbrev k17b : LK := [.box [.int .i64, .int .i64, .dl TI.node], .box [.int .i64], ptsK]
abbrev k17c : LK := [.box [.int .i64, .int .i64, .dl TI.node], .box [.int .i64]]
noncomputable def run17r (x : denKs k17b) : Option (Option (denKs k17c)) :=
  runQ CC Tb 0 2 (findF []) (findF []) (findF [(38, crNode)]) (findF []) fd17.fi rest17b [] true [2, 3, 5] [2, 3] k17b k17c x
theorem fdok36_17 : FDOk Tryz.prog (hasN []) (hasN [38]) 36 fd36 := ⟨⟨Tryz.f36, Tryz.func36, by kernel_rfl, Tryz.ntmps36, Tryz.results36⟩, by kernel_rfl, by kernel_rfl, by kernel_rfl⟩
end Go.Proofs.YtnamdpbcpnnhaaaGreatDoor
end
section
set_option linter.unusedVariables false
set_option linter.unusedSimpArgs false
namespace Go.Proofs.YtnamdpbcpnnhaaaGreatDoor
open Go.Al Go.Den
def sh17 (fu : Nat) (v2 : Go.Value) (v3 : Go.Value) (c37 : (Bool × Unit) → MM (Nd × Unit)) (x : ((List TokT) × (ParT × (NdsT × Unit)))) : (Option (Option (ParT × (NdsT × Unit)))) := iter fu (fun (rec1 : (Unit × (ParT × (NdsT × Unit))) → Option (Option (ParT × (NdsT × Unit)))) (s1 : (Unit × (ParT × (NdsT × Unit)))) => cond (ilt s1.2.1.2.1 (lenI x.1)) (bo (c37 (true, ()) s1.2.1.1 (s1.2.1.2.1, s1.2.1.2.2.1)) fun y1 => cond (okN 40 ((List.length s1.2.2.1.1) + (List.length [(ndE y1.1.1)]))) (rec1 ((), ((s1.2.1.1, (y1.2.1, (y1.2.2, ((), ())))), (((s1.2.2.1.1 ++ [(ndE y1.1.1)]), ()), ())))) (none)) (some (Option.some ((s1.2.1.1, (s1.2.1.2.1, (s1.2.1.2.2.1, ((), ())))), ((s1.2.2.1.1, ()), ()))))) ((), ((x.2.1.1, (x.2.1.2.1, (x.2.1.2.2.1, ((), ())))), ((x.2.2.1.1, ()), ())))
theorem eq17 : @run17 = @sh17 := by kernel_rfl
def sh17r (x : ((Int × (Int × NdsT)) × ((Int × Unit) × (NdsT × Unit)))) : (Option (Option ((Int × (Int × NdsT)) × ((Int × Unit) × Unit)))) := some (Option.some (((Nd.kind (Nd.mk 1 0 x.2.2.1.1)), ((Nd.tok (Nd.mk 1 0 x.2.2.1.1)), ((Nd.kids (Nd.mk 1 0 x.2.2.1.1)), ()))), ((0, ()), ())))
theorem eq17r : @run17r = @sh17r := by kernel_rfl
end Go.Proofs.YtnamdpbcpnnhaaaGreatDoor
end
