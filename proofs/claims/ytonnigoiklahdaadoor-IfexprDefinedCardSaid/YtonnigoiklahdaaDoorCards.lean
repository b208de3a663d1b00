/-
  DERIVED. GIVEN WITH THE SEED: THE CARDS: each row of YtonnigoiklahdaaDoorRows.lean that lists a variable, with what it lists TIED to the program's text (the seventh form; the later family's looks); each row that meets fmt, with fmt's text TOLD by the authors' own Lean function (tested against real Go, not proved from fmt's source: count such statements apart). THE CARD IS WHAT COUNTS. Prove the row's statement (the work); the ties are given (YtonnigoiklahdaaDoorTie.lean); close each card by the builder's one call (the guide's Derived/Test/ToyasCard.lean, 'card_holds'). Laid BY PROGRAM, IN A SANDBOX (cutbox-door.mjs). By AI agents, Wed Nov 11 2026. No macro, syntax, notation, axiom, sorry.
-/
import Derived.Test.YtonnigoiklahdaaDoorRows
import GoSem.ClaimSeven
namespace Go.Proofs.YtonnigoiklahdaaDoor
namespace Rows

/-- THE TIED CARD OF 'emendlaw09.IfexprPlays'. -/
def ifexprPlaysCard : Claim7 := { stood := { row := ifexprPlaysRow, standIns := [], harness := (true, "9147890bc36f5da7ddbf85365800fa2858e58f193b221afb2dd99ffeef9cecf5"), looks := false }, kinds := [], alts := [], laidByText := true, laidKinds := [.listed, .data, .data], laidTests := true, laidLooks := .later }
def IfexprPlaysCardSaid : Prop := Claim7.holds Tryd.pinned (.plain (OpenSpec.ofChange ifexprPlaysSpec)) ifexprPlaysCard

/-- THE TIED CARD OF 'emendlaw09.IfexprAtoms'. -/
def ifexprAtomsCard : Claim7 := { stood := { row := ifexprAtomsRow, standIns := [], harness := (true, "9147890bc36f5da7ddbf85365800fa2858e58f193b221afb2dd99ffeef9cecf5"), looks := false }, kinds := [], alts := [], laidByText := true, laidKinds := [.listed, .data, .data], laidTests := true, laidLooks := .later }
def IfexprAtomsCardSaid : Prop := Claim7.holds Tryd.pinned (.plain (OpenSpec.ofChange ifexprAtomsSpec)) ifexprAtomsCard

/-- THE TIED CARD OF 'emendlaw09.IfexprTwo'. -/
def ifexprTwoCard : Claim7 := { stood := { row := ifexprTwoRow, standIns := [], harness := (true, "9147890bc36f5da7ddbf85365800fa2858e58f193b221afb2dd99ffeef9cecf5"), looks := false }, kinds := [], alts := [], laidByText := true, laidKinds := [.listed, .data, .data], laidTests := true, laidLooks := .later }
def IfexprTwoCardSaid : Prop := Claim7.holds Tryd.pinned (.plain (OpenSpec.ofChange ifexprTwoSpec)) ifexprTwoCard

/-- THE TIED CARD OF 'emendlaw09.IfexprLazy'. -/
def ifexprLazyCard : Claim7 := { stood := { row := ifexprLazyRow, standIns := [], harness := (true, "9147890bc36f5da7ddbf85365800fa2858e58f193b221afb2dd99ffeef9cecf5"), looks := false }, kinds := [], alts := [], laidByText := true, laidKinds := [.listed, .data, .data], laidTests := true, laidLooks := .later }
def IfexprLazyCardSaid : Prop := Claim7.holds Tryd.pinned (.plain (OpenSpec.ofChange ifexprLazySpec)) ifexprLazyCard

/-- THE TIED CARD OF 'emendlaw09.IfexprDefined'. -/
def ifexprDefinedCard : Claim7 := { stood := { row := ifexprDefinedRow, standIns := [], harness := (true, "9147890bc36f5da7ddbf85365800fa2858e58f193b221afb2dd99ffeef9cecf5"), looks := false }, kinds := [], alts := [], laidByText := true, laidKinds := [.listed, .data, .data], laidTests := true, laidLooks := .later }
def IfexprDefinedCardSaid : Prop := Claim7.holds Tryd.pinned (.plain (OpenSpec.ofChange ifexprDefinedSpec)) ifexprDefinedCard

/-- THE SECOND FORM's CARD OF 'emendlaw09.IfexprPlays'. -/
def ifexprPlaysUptoCard : Claim7 := { stood := { row := ifexprPlaysUptoRow, standIns := [], harness := (true, "9147890bc36f5da7ddbf85365800fa2858e58f193b221afb2dd99ffeef9cecf5"), looks := false }, kinds := [], alts := [], laidByText := true, laidKinds := [.listed, .data, .data], laidTests := true, laidLooks := .later }
def IfexprPlaysUptoCardSaid : Prop := Claim7.holds Tryd.pinned (.plain (OpenSpec.upto ifexprPlaysSpec)) ifexprPlaysUptoCard

/-- THE SECOND FORM's CARD OF 'emendlaw09.IfexprAtoms'. -/
def ifexprAtomsUptoCard : Claim7 := { stood := { row := ifexprAtomsUptoRow, standIns := [], harness := (true, "9147890bc36f5da7ddbf85365800fa2858e58f193b221afb2dd99ffeef9cecf5"), looks := false }, kinds := [], alts := [], laidByText := true, laidKinds := [.listed, .data, .data], laidTests := true, laidLooks := .later }
def IfexprAtomsUptoCardSaid : Prop := Claim7.holds Tryd.pinned (.plain (OpenSpec.upto ifexprAtomsSpec)) ifexprAtomsUptoCard

/-- THE SECOND FORM's CARD OF 'emendlaw09.IfexprTwo'. -/
def ifexprTwoUptoCard : Claim7 := { stood := { row := ifexprTwoUptoRow, standIns := [], harness := (true, "9147890bc36f5da7ddbf85365800fa2858e58f193b221afb2dd99ffeef9cecf5"), looks := false }, kinds := [], alts := [], laidByText := true, laidKinds := [.listed, .data, .data], laidTests := true, laidLooks := .later }
def IfexprTwoUptoCardSaid : Prop := Claim7.holds Tryd.pinned (.plain (OpenSpec.upto ifexprTwoSpec)) ifexprTwoUptoCard

/-- THE SECOND FORM's CARD OF 'emendlaw09.IfexprLazy'. -/
def ifexprLazyUptoCard : Claim7 := { stood := { row := ifexprLazyUptoRow, standIns := [], harness := (true, "9147890bc36f5da7ddbf85365800fa2858e58f193b221afb2dd99ffeef9cecf5"), looks := false }, kinds := [], alts := [], laidByText := true, laidKinds := [.listed, .data, .data], laidTests := true, laidLooks := .later }
def IfexprLazyUptoCardSaid : Prop := Claim7.holds Tryd.pinned (.plain (OpenSpec.upto ifexprLazySpec)) ifexprLazyUptoCard

/-- THE SECOND FORM's CARD OF 'emendlaw09.IfexprDefined'. -/
def ifexprDefinedUptoCard : Claim7 := { stood := { row := ifexprDefinedUptoRow, standIns := [], harness := (true, "9147890bc36f5da7ddbf85365800fa2858e58f193b221afb2dd99ffeef9cecf5"), looks := false }, kinds := [], alts := [], laidByText := true, laidKinds := [.listed, .data, .data], laidTests := true, laidLooks := .later }
def IfexprDefinedUptoCardSaid : Prop := Claim7.holds Tryd.pinned (.plain (OpenSpec.upto ifexprDefinedSpec)) ifexprDefinedUptoCard
end Rows
end Go.Proofs.YtonnigoiklahdaaDoor
