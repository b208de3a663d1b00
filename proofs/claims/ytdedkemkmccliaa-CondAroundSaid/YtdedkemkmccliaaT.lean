/-
  The types of the elements, their codecs, the table of types.
-/
import Derived.Test.YtdedkemkmccliaaDB
import Derived.Test.YtdedkemkmccliaaData
import Derived.Test.YtdedkemkmccliaaFacts
set_option linter.unusedVariables false
set_option linter.unusedSimpArgs false
namespace Go.Proofs.Ytdedkemkmccliaa
open Go.Al Go.Den

def It.line : It → Int
  | .mk l _ _ => l
def It.fin : It → Int
  | .mk _ e _ => e
def It.brs : It → List Br
  | .mk _ _ b => b
def Br.line : Br → Int
  | .mk l _ => l
def Br.items : Br → List It
  | .mk _ i => i

structure TokT where
  kind : Int
  text : List UInt8
  file : Int
  ffrom : Int
  fto : Int
  blank : Bool

structure LineT where
  kind : Int
  first : Int
  n : Int
  toks : List TokT

inductive TI where
  | int
  | bool
  | tok
  | line
  | item
  | br

def TI.no : TI → Nat
  | .int => 0
  | .bool => 1
  | .tok => 2
  | .line => 3
  | .item => 4
  | .br => 5

theorem TI.no_inj : ∀ a b : TI, a.no = b.no → a = b := by intro a b h; cases a <;> cases b <;> first | rfl | (simp [TI.no] at h)

instance : DecidableEq TI := fun a b => if h : a.no = b.no then isTrue (TI.no_inj a b h) else isFalse (fun e => h (by rw [e]))

def denI : TI → Type
  | .int => Int
  | .bool => Bool
  | .tok => TokT
  | .line => LineT
  | .item => It
  | .br => Br

abbrev UU : TyU := { I := TI, den := denI }

def dec_tok {R : Type} (v : T UU) (K : TokT → Option R) : Option R :=
  match v with
  | .agg fs => (match fs with
    | [v0, v1, v2, v3, v4, v5] => pInt .i64 v0 fun x0 => pStr v1 fun x1 => pInt .i64 v2 fun x2 => pInt .i64 v3 fun x3 => pInt .i64 v4 fun x4 => pBool v5 fun x5 => K (TokT.mk x0 x1 x2 x3 x4 x5)
    | _ => none)
  | _ => none

def tokD : TokT := TokT.mk 0 [] 0 0 0 false

def dec_line {R : Type} (v : T UU) (K : LineT → Option R) : Option R :=
  match v with
  | .agg fs => (match fs with
    | [v0, v1, v2, v3] => pInt .i64 v0 fun x0 => pInt .i64 v1 fun x1 => pInt .i64 v2 fun x2 => pDl (U := UU) TI.tok v3 fun x3 => K (LineT.mk x0 x1 x2 x3)
    | _ => none)
  | _ => none

def lineD : LineT := LineT.mk 0 0 0 []

def dec_item {R : Type} (v : T UU) (K : It → Option R) : Option R :=
  match v with
  | .agg fs => (match fs with
    | [v0, v1, v2] => pInt .i64 v0 fun x0 => pInt .i64 v1 fun x1 => pDl (U := UU) TI.br v2 fun x2 => K (It.mk x0 x1 x2)
    | _ => none)
  | _ => none

def itemD : It := It.mk 0 0 []

def dec_br {R : Type} (v : T UU) (K : Br → Option R) : Option R :=
  match v with
  | .agg fs => (match fs with
    | [v0, v1] => pInt .i64 v0 fun x0 => pDl (U := UU) TI.item v1 fun x1 => K (Br.mk x0 x1)
    | _ => none)
  | _ => none

def brD : Br := Br.mk 0 []

def eV_int (x : Int) : V := .at (.int .i64 x)

def eV_bool (x : Bool) : V := .at (.bool x)

def eV_tok (x : TokT) : V := .agg [.at (.int .i64 (TokT.kind x)), .at (.string ⟨List.toArray (TokT.text x)⟩), .at (.int .i64 (TokT.file x)), .at (.int .i64 (TokT.ffrom x)), .at (.int .i64 (TokT.fto x)), .at (.bool (TokT.blank x))]

def eV_line (x : LineT) : V := .agg [.at (.int .i64 (LineT.kind x)), .at (.int .i64 (LineT.first x)), .at (.int .i64 (LineT.n x)), .lst (tagOf ((LineT.toks x).map eV_tok)) ((LineT.toks x).map eV_tok)]

def eV_item (x : It) : V := encIt x

def eV_br (x : Br) : V := encBr x

def encVI : (i : TI) → denI i → V
  | .int, x => eV_int x
  | .bool, x => eV_bool x
  | .tok, x => eV_tok x
  | .line, x => eV_line x
  | .item, x => eV_item x
  | .br, x => eV_br x

def encI : (i : TI) → denI i → T UU
  | .int, x => .int .i64 x
  | .bool, x => .bool x
  | .tok, x => .agg [(.int .i64 (TokT.kind x)), (.str (TokT.text x)), (.int .i64 (TokT.file x)), (.int .i64 (TokT.ffrom x)), (.int .i64 (TokT.fto x)), (.bool (TokT.blank x))]
  | .line, x => .agg [(.int .i64 (LineT.kind x)), (.int .i64 (LineT.first x)), (.int .i64 (LineT.n x)), (.lst .dl TI.tok (LineT.toks x))]
  | .item, x => .agg [(.int .i64 (It.line x)), (.int .i64 (It.fin x)), (.lst .dl TI.br (It.brs x))]
  | .br, x => .agg [(.int .i64 (Br.line x)), (.lst .dl TI.item (Br.items x))]

def decI : (i : TI) → {R : Type} → T UU → (denI i → Option R) → Option R
  | .int, _, v, K => pInt .i64 v K
  | .bool, _, v, K => pBool v K
  | .tok, _, v, K => dec_tok v K
  | .line, _, v, K => dec_line v K
  | .item, _, v, K => dec_item v K
  | .br, _, v, K => dec_br v K

def dfltI : (i : TI) → denI i
  | .int => (0 : Int)
  | .bool => false
  | .tok => tokD
  | .line => lineD
  | .item => itemD
  | .br => brD

def cellsI : TI → Nat
  | .int => 1
  | .bool => 1
  | .tok => 6
  | .line => 4
  | .item => 3
  | .br => 2

def aggI : TI → Bool
  | .int => false
  | .bool => false
  | .tok => true
  | .line => true
  | .item => true
  | .br => true

def plainI : TI → Bool
  | .int => true
  | .bool => true
  | .tok => true
  | .line => false
  | .item => false
  | .br => false

def CC : Cod UU := ⟨encI, encVI, decI, dfltI, cellsI, aggI, plainI⟩

theorem dec_tok_ok {R : Type} {v : T UU} {K : TokT → Option R} {r : R} (h : dec_tok v K = some r) : ∃ x, K x = some r ∧ ∀ N, (trT CC N v).untag = eV_tok x := by
  unfold dec_tok at h
  split at h
  · split at h
    · obtain ⟨x0, h, _, e0⟩ := pInt_ok (C := CC) h
      obtain ⟨x1, h, _, e1⟩ := pStr_ok (C := CC) h
      obtain ⟨x2, h, _, e2⟩ := pInt_ok (C := CC) h
      obtain ⟨x3, h, _, e3⟩ := pInt_ok (C := CC) h
      obtain ⟨x4, h, _, e4⟩ := pInt_ok (C := CC) h
      obtain ⟨x5, h, _, e5⟩ := pBool_ok (C := CC) h
      refine ⟨_, h, fun N => ?_⟩
      simp only [trT, trTs, V.untag, List.map_cons, List.map_nil, e0 N, e1 N, e2 N, e3 N, e4 N, e5 N]
      rfl
    · cases h
  · cases h

theorem dec_tok_okP {R : Type} {v : T UU} {K : TokT → Option R} {r : R} (h : dec_tok v K = some r) : ∃ x, K x = some r ∧ ∀ N, trT CC N v = eV_tok x := by
  unfold dec_tok at h
  split at h
  · split at h
    · obtain ⟨x0, h, e0, _⟩ := pInt_ok (C := CC) h
      obtain ⟨x1, h, e1, _⟩ := pStr_ok (C := CC) h
      obtain ⟨x2, h, e2, _⟩ := pInt_ok (C := CC) h
      obtain ⟨x3, h, e3, _⟩ := pInt_ok (C := CC) h
      obtain ⟨x4, h, e4, _⟩ := pInt_ok (C := CC) h
      obtain ⟨x5, h, e5, _⟩ := pBool_ok (C := CC) h
      refine ⟨_, h, fun N => ?_⟩
      simp only [trT, trTs, e0 N, e1 N, e2 N, e3 N, e4 N, e5 N]
      rfl
    · cases h
  · cases h

theorem eV_tok_eq (x : TokT) : eV_tok x = .agg [.at (.int .i64 (TokT.kind x)), .at (.string ⟨List.toArray (TokT.text x)⟩), .at (.int .i64 (TokT.file x)), .at (.int .i64 (TokT.ffrom x)), .at (.int .i64 (TokT.fto x)), .at (.bool (TokT.blank x))] := by
  rfl

theorem dec_line_ok {R : Type} {v : T UU} {K : LineT → Option R} {r : R} (h : dec_line v K = some r) : ∃ x, K x = some r ∧ ∀ N, (trT CC N v).untag = eV_line x := by
  unfold dec_line at h
  split at h
  · split at h
    · obtain ⟨x0, h, _, e0⟩ := pInt_ok (C := CC) h
      obtain ⟨x1, h, _, e1⟩ := pInt_ok (C := CC) h
      obtain ⟨x2, h, _, e2⟩ := pInt_ok (C := CC) h
      obtain ⟨x3, h, e3⟩ := pDl_ok (C := CC) h
      refine ⟨_, h, fun N => ?_⟩
      simp only [trT, trTs, V.untag, List.map_cons, List.map_nil, e0 N, e1 N, e2 N, e3 N]
      rfl
    · cases h
  · cases h

theorem eV_line_eq (x : LineT) : eV_line x = .agg [.at (.int .i64 (LineT.kind x)), .at (.int .i64 (LineT.first x)), .at (.int .i64 (LineT.n x)), .lst (tagOf ((LineT.toks x).map (encVI TI.tok))) ((LineT.toks x).map (encVI TI.tok))] := by
  rfl

theorem dec_item_ok {R : Type} {v : T UU} {K : It → Option R} {r : R} (h : dec_item v K = some r) : ∃ x, K x = some r ∧ ∀ N, (trT CC N v).untag = eV_item x := by
  unfold dec_item at h
  split at h
  · split at h
    · obtain ⟨x0, h, _, e0⟩ := pInt_ok (C := CC) h
      obtain ⟨x1, h, _, e1⟩ := pInt_ok (C := CC) h
      obtain ⟨x2, h, e2⟩ := pDl_ok (C := CC) h
      refine ⟨_, h, fun N => ?_⟩
      simp only [trT, trTs, V.untag, List.map_cons, List.map_nil, e0 N, e1 N, e2 N]
      exact (encIt_mk x0 x1 x2).symm
    · cases h
  · cases h

theorem eV_item_eq (x : It) : eV_item x = .agg [.at (.int .i64 (It.line x)), .at (.int .i64 (It.fin x)), .lst (tagOf ((It.brs x).map (encVI TI.br))) ((It.brs x).map (encVI TI.br))] := by
  cases x; exact encIt_mk _ _ _

theorem dec_br_ok {R : Type} {v : T UU} {K : Br → Option R} {r : R} (h : dec_br v K = some r) : ∃ x, K x = some r ∧ ∀ N, (trT CC N v).untag = eV_br x := by
  unfold dec_br at h
  split at h
  · split at h
    · obtain ⟨x0, h, _, e0⟩ := pInt_ok (C := CC) h
      obtain ⟨x1, h, e1⟩ := pDl_ok (C := CC) h
      refine ⟨_, h, fun N => ?_⟩
      simp only [trT, trTs, V.untag, List.map_cons, List.map_nil, e0 N, e1 N]
      exact (encBr_mk x0 x1).symm
    · cases h
  · cases h

theorem eV_br_eq (x : Br) : eV_br x = .agg [.at (.int .i64 (Br.line x)), .lst (tagOf ((Br.items x).map (encVI TI.item))) ((Br.items x).map (encVI TI.item))] := by
  cases x; exact encBr_mk _ _

theorem sz_tok (x : TokT) : (eV_tok x).size = 6 := by rw [eV_tok_eq]; rfl

theorem ag_tok (x : TokT) : (eV_tok x).isAgg = true := by rw [eV_tok_eq]; rfl

theorem on_tok (x : TokT) : allOne (eV_tok x).flat := by rw [eV_tok_eq]; rfl

theorem un_tok (x : TokT) : (eV_tok x).untag = eV_tok x := by rw [eV_tok_eq]; simp only [V.untag, List.map_cons, List.map_nil, untag_at', untag_dl]

theorem sz_line (x : LineT) : (eV_line x).size = 4 := by rw [eV_line_eq]; rfl

theorem ag_line (x : LineT) : (eV_line x).isAgg = true := by rw [eV_line_eq]; rfl

theorem on_line (x : LineT) : allOne (eV_line x).flat := by rw [eV_line_eq]; rfl

theorem un_line (x : LineT) : (eV_line x).untag = eV_line x := by rw [eV_line_eq]; simp only [V.untag, List.map_cons, List.map_nil, untag_at', untag_dl]

theorem sz_item (x : It) : (eV_item x).size = 3 := by rw [eV_item_eq]; rfl

theorem ag_item (x : It) : (eV_item x).isAgg = true := by rw [eV_item_eq]; rfl

theorem on_item (x : It) : allOne (eV_item x).flat := by rw [eV_item_eq]; rfl

theorem un_item (x : It) : (eV_item x).untag = eV_item x := by rw [eV_item_eq]; simp only [V.untag, List.map_cons, List.map_nil, untag_at', untag_dl]

theorem sz_br (x : Br) : (eV_br x).size = 2 := by rw [eV_br_eq]; rfl

theorem ag_br (x : Br) : (eV_br x).isAgg = true := by rw [eV_br_eq]; rfl

theorem on_br (x : Br) : allOne (eV_br x).flat := by rw [eV_br_eq]; rfl

theorem un_br (x : Br) : (eV_br x).untag = eV_br x := by rw [eV_br_eq]; simp only [V.untag, List.map_cons, List.map_nil, untag_at', untag_dl]

theorem CCok : CodOk CC := by
  refine ⟨?_, ?_, ?_, ?_, ?_, ?_, ?_, ?_, ?_, ?_⟩
  · intro N i x
    cases i with
    | int => rfl
    | bool => rfl
    | tok => exact (eV_tok_eq x).symm
    | line => exact (eV_line_eq x).symm
    | item => exact (eV_item_eq x).symm
    | br => exact (eV_br_eq x).symm
  · intro i x
    cases i <;> rfl
  · intro i R v k r h
    cases i with
    | int => obtain ⟨x, h1, _, h2⟩ := pInt_ok (C := CC) h; exact ⟨x, h1, fun N => by have := h2 N; exact untag_of1 this⟩
    | bool => obtain ⟨x, h1, _, h2⟩ := pBool_ok (C := CC) h; exact ⟨x, h1, fun N => by have := h2 N; exact untag_of1 this⟩
    | tok => exact dec_tok_ok h
    | line => exact dec_line_ok h
    | item => exact dec_item_ok h
    | br => exact dec_br_ok h
  · intro i R v k r hp h
    cases i with
    | int => obtain ⟨x, h1, h2, _⟩ := pInt_ok (C := CC) h; exact ⟨x, h1, h2⟩
    | bool => obtain ⟨x, h1, h2, _⟩ := pBool_ok (C := CC) h; exact ⟨x, h1, h2⟩
    | tok => exact dec_tok_okP h
    | line => cases hp
    | item => cases hp
    | br => cases hp
  · intro i x
    cases i with
    | int => rfl
    | bool => rfl
    | tok => exact sz_tok x
    | line => exact sz_line x
    | item => exact sz_item x
    | br => exact sz_br x
  · intro i x
    cases i with
    | int => rfl
    | bool => rfl
    | tok => exact ag_tok x
    | line => exact ag_line x
    | item => exact ag_item x
    | br => exact ag_br x
  · intro i x
    cases i with
    | int => rfl
    | bool => rfl
    | tok => exact on_tok x
    | line => exact on_line x
    | item => exact on_item x
    | br => exact on_br x
  · intro i x
    cases i with
    | int => rfl
    | bool => rfl
    | tok => exact un_tok x
    | line => exact un_line x
    | item => exact un_item x
    | br => exact un_br x
  · intro i h
    cases i <;> first | rfl | cases h
  · intro i
    cases i <;> decide


def td3 : TD UU := { has := true, agg := false, cells := 1, bytes := 8, code := some TI.int, zero := some [.int .i64 0] }
theorem td3_ok : Facts CC Try.prog 3 td3 := ⟨by kernel_rfl, by kernel_rfl, by kernel_rfl, by kernel_rfl, by kernel_rfl, by kernel_rfl, by kernel_rfl, by kernel_rfl, by kernel_rfl, fun N => by kernel_rfl, fun i h => by first | (injection h with h; subst h; exact ⟨rfl, rfl⟩) | cases h⟩
def td4 : TD UU := { has := true, agg := false, cells := 1, bytes := 1, code := some TI.bool, isBool := true, zero := some [.bool false] }
theorem td4_ok : Facts CC Try.prog 4 td4 := ⟨by kernel_rfl, by kernel_rfl, by kernel_rfl, by kernel_rfl, by kernel_rfl, by kernel_rfl, by kernel_rfl, by kernel_rfl, by kernel_rfl, fun N => by kernel_rfl, fun i h => by first | (injection h with h; subst h; exact ⟨rfl, rfl⟩) | cases h⟩
def td9 : TD UU := { has := true, agg := false, cells := 1, bytes := 16, isStr := true, zero := some [.str []] }
theorem td9_ok : Facts CC Try.prog 9 td9 := ⟨by kernel_rfl, by kernel_rfl, by kernel_rfl, by kernel_rfl, by kernel_rfl, by kernel_rfl, by kernel_rfl, by kernel_rfl, by kernel_rfl, fun N => by kernel_rfl, fun i h => by first | (injection h with h; subst h; exact ⟨rfl, rfl⟩) | cases h⟩
def td22 : TD UU := { has := true, agg := false, cells := 1, bytes := 24, el := some 3, zero := some [.nil] }
theorem td22_ok : Facts CC Try.prog 22 td22 := ⟨by kernel_rfl, by kernel_rfl, by kernel_rfl, by kernel_rfl, by kernel_rfl, by kernel_rfl, by kernel_rfl, by kernel_rfl, by kernel_rfl, fun N => by kernel_rfl, fun i h => by first | (injection h with h; subst h; exact ⟨rfl, rfl⟩) | cases h⟩
def td24 : TD UU := { has := true, agg := false, cells := 1, bytes := 24, el := some 39, zero := some [.nil] }
theorem td24_ok : Facts CC Try.prog 24 td24 := ⟨by kernel_rfl, by kernel_rfl, by kernel_rfl, by kernel_rfl, by kernel_rfl, by kernel_rfl, by kernel_rfl, by kernel_rfl, by kernel_rfl, fun N => by kernel_rfl, fun i h => by first | (injection h with h; subst h; exact ⟨rfl, rfl⟩) | cases h⟩
def td25 : TD UU := { has := true, agg := false, cells := 1, bytes := 8, code := some TI.int, zero := some [.int .i64 0] }
theorem td25_ok : Facts CC Try.prog 25 td25 := ⟨by kernel_rfl, by kernel_rfl, by kernel_rfl, by kernel_rfl, by kernel_rfl, by kernel_rfl, by kernel_rfl, by kernel_rfl, by kernel_rfl, fun N => by kernel_rfl, fun i h => by first | (injection h with h; subst h; exact ⟨rfl, rfl⟩) | cases h⟩
def td28 : TD UU := { has := true, agg := false, cells := 1, bytes := 24, el := some 47, zero := some [.nil] }
theorem td28_ok : Facts CC Try.prog 28 td28 := ⟨by kernel_rfl, by kernel_rfl, by kernel_rfl, by kernel_rfl, by kernel_rfl, by kernel_rfl, by kernel_rfl, by kernel_rfl, by kernel_rfl, fun N => by kernel_rfl, fun i h => by first | (injection h with h; subst h; exact ⟨rfl, rfl⟩) | cases h⟩
def td37 : TD UU := { has := true, agg := false, cells := 1, bytes := 24, el := some 41, zero := some [.nil] }
theorem td37_ok : Facts CC Try.prog 37 td37 := ⟨by kernel_rfl, by kernel_rfl, by kernel_rfl, by kernel_rfl, by kernel_rfl, by kernel_rfl, by kernel_rfl, by kernel_rfl, by kernel_rfl, fun N => by kernel_rfl, fun i h => by first | (injection h with h; subst h; exact ⟨rfl, rfl⟩) | cases h⟩
def td39 : TD UU := { has := true, agg := true, cells := 3, bytes := 40, code := some TI.item, flds := [(0, 3), (1, 3), (2, 37)], isStruct := true, zero := some [.int .i64 0, .int .i64 0, .nil] }
theorem td39_ok : Facts CC Try.prog 39 td39 := ⟨by kernel_rfl, by kernel_rfl, by kernel_rfl, by kernel_rfl, by kernel_rfl, by kernel_rfl, by kernel_rfl, by kernel_rfl, by kernel_rfl, fun N => by kernel_rfl, fun i h => by first | (injection h with h; subst h; exact ⟨rfl, rfl⟩) | cases h⟩
def td41 : TD UU := { has := true, agg := true, cells := 2, bytes := 32, code := some TI.br, flds := [(0, 3), (1, 24)], isStruct := true, zero := some [.int .i64 0, .nil] }
theorem td41_ok : Facts CC Try.prog 41 td41 := ⟨by kernel_rfl, by kernel_rfl, by kernel_rfl, by kernel_rfl, by kernel_rfl, by kernel_rfl, by kernel_rfl, by kernel_rfl, by kernel_rfl, fun N => by kernel_rfl, fun i h => by first | (injection h with h; subst h; exact ⟨rfl, rfl⟩) | cases h⟩
def td42 : TD UU := { has := true, agg := false, cells := 1, bytes := 24, el := some 50, zero := some [.nil] }
theorem td42_ok : Facts CC Try.prog 42 td42 := ⟨by kernel_rfl, by kernel_rfl, by kernel_rfl, by kernel_rfl, by kernel_rfl, by kernel_rfl, by kernel_rfl, by kernel_rfl, by kernel_rfl, fun N => by kernel_rfl, fun i h => by first | (injection h with h; subst h; exact ⟨rfl, rfl⟩) | cases h⟩
def td44 : TD UU := { has := true, agg := true, cells := 1, bytes := 24, flds := [(0, 42)], isStruct := true, zero := some [.nil] }
theorem td44_ok : Facts CC Try.prog 44 td44 := ⟨by kernel_rfl, by kernel_rfl, by kernel_rfl, by kernel_rfl, by kernel_rfl, by kernel_rfl, by kernel_rfl, by kernel_rfl, by kernel_rfl, fun N => by kernel_rfl, fun i h => by first | (injection h with h; subst h; exact ⟨rfl, rfl⟩) | cases h⟩
def td45 : TD UU := { has := true, agg := false, cells := 1, bytes := 24, el := some 79, zero := some [.nil] }
theorem td45_ok : Facts CC Try.prog 45 td45 := ⟨by kernel_rfl, by kernel_rfl, by kernel_rfl, by kernel_rfl, by kernel_rfl, by kernel_rfl, by kernel_rfl, by kernel_rfl, by kernel_rfl, fun N => by kernel_rfl, fun i h => by first | (injection h with h; subst h; exact ⟨rfl, rfl⟩) | cases h⟩
def td47 : TD UU := { has := true, agg := true, cells := 4, bytes := 48, code := some TI.line, flds := [(0, 3), (1, 3), (2, 3), (3, 45)], isStruct := true, zero := some [.int .i64 0, .int .i64 0, .int .i64 0, .nil] }
theorem td47_ok : Facts CC Try.prog 47 td47 := ⟨by kernel_rfl, by kernel_rfl, by kernel_rfl, by kernel_rfl, by kernel_rfl, by kernel_rfl, by kernel_rfl, by kernel_rfl, by kernel_rfl, fun N => by kernel_rfl, fun i h => by first | (injection h with h; subst h; exact ⟨rfl, rfl⟩) | cases h⟩
def td50 : TD UU := { has := true, agg := true, cells := 4, bytes := 64, flds := [(0, 3), (1, 37), (2, 4), (3, 24)], isStruct := true, zero := some [.int .i64 0, .nil, .bool false, .nil] }
theorem td50_ok : Facts CC Try.prog 50 td50 := ⟨by kernel_rfl, by kernel_rfl, by kernel_rfl, by kernel_rfl, by kernel_rfl, by kernel_rfl, by kernel_rfl, by kernel_rfl, by kernel_rfl, fun N => by kernel_rfl, fun i h => by first | (injection h with h; subst h; exact ⟨rfl, rfl⟩) | cases h⟩
def td51 : TD UU := { has := true, agg := false, cells := 1, bytes := 8, zero := some [.con (.pointer none)] }
theorem td51_ok : Facts CC Try.prog 51 td51 := ⟨by kernel_rfl, by kernel_rfl, by kernel_rfl, by kernel_rfl, by kernel_rfl, by kernel_rfl, by kernel_rfl, by kernel_rfl, by kernel_rfl, fun N => by kernel_rfl, fun i h => by first | (injection h with h; subst h; exact ⟨rfl, rfl⟩) | cases h⟩
def td60 : TD UU := { has := true, agg := false, cells := 1, bytes := 8, zero := some [.con (.pointer none)] }
theorem td60_ok : Facts CC Try.prog 60 td60 := ⟨by kernel_rfl, by kernel_rfl, by kernel_rfl, by kernel_rfl, by kernel_rfl, by kernel_rfl, by kernel_rfl, by kernel_rfl, by kernel_rfl, fun N => by kernel_rfl, fun i h => by first | (injection h with h; subst h; exact ⟨rfl, rfl⟩) | cases h⟩
def td61 : TD UU := { has := true, agg := false, cells := 1, bytes := 24, el := some 4, zero := some [.nil] }
theorem td61_ok : Facts CC Try.prog 61 td61 := ⟨by kernel_rfl, by kernel_rfl, by kernel_rfl, by kernel_rfl, by kernel_rfl, by kernel_rfl, by kernel_rfl, by kernel_rfl, by kernel_rfl, fun N => by kernel_rfl, fun i h => by first | (injection h with h; subst h; exact ⟨rfl, rfl⟩) | cases h⟩
def td79 : TD UU := { has := true, agg := true, cells := 6, bytes := 56, code := some TI.tok, flds := [(0, 3), (1, 9), (2, 3), (3, 3), (4, 3), (5, 4)], isStruct := true, zero := some [.int .i64 0, .str [], .int .i64 0, .int .i64 0, .int .i64 0, .bool false] }
theorem td79_ok : Facts CC Try.prog 79 td79 := ⟨by kernel_rfl, by kernel_rfl, by kernel_rfl, by kernel_rfl, by kernel_rfl, by kernel_rfl, by kernel_rfl, by kernel_rfl, by kernel_rfl, fun N => by kernel_rfl, fun i h => by first | (injection h with h; subst h; exact ⟨rfl, rfl⟩) | cases h⟩
def tdL : List (Nat × TD UU) := [(3, td3), (4, td4), (9, td9), (22, td22), (24, td24), (25, td25), (28, td28), (37, td37), (39, td39), (41, td41), (42, td42), (44, td44), (45, td45), (47, td47), (50, td50), (51, td51), (60, td60), (61, td61), (79, td79)]
def Tb : Nat → TD UU := findD tdL
theorem Tb_ok : TbOk CC Try.prog Tb := findD_ok (by
  intro p hp
  simp only [tdL, List.mem_cons, List.not_mem_nil, or_false] at hp
  rcases hp with rfl | rfl | rfl | rfl | rfl | rfl | rfl | rfl | rfl | rfl | rfl | rfl | rfl | rfl | rfl | rfl | rfl | rfl | rfl
  · exact td3_ok
  · exact td4_ok
  · exact td9_ok
  · exact td22_ok
  · exact td24_ok
  · exact td25_ok
  · exact td28_ok
  · exact td37_ok
  · exact td39_ok
  · exact td41_ok
  · exact td42_ok
  · exact td44_ok
  · exact td45_ok
  · exact td47_ok
  · exact td50_ok
  · exact td51_ok
  · exact td60_ok
  · exact td61_ok
  · exact td79_ok)
end Go.Proofs.Ytdedkemkmccliaa
