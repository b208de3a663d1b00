/-
  DERIVED. GIVEN WITH THE SEED: THE CARDS: each row of YtnamdpbcpnnhaaaGreatDoorRows.lean that lists a variable, with what it lists TIED to the program's text (the seventh form; the later family's looks); each row that meets fmt, with fmt's text TOLD by the authors' own Lean function (tested against real Go, not proved from fmt's source: count such statements apart). THE CARD IS WHAT COUNTS. Prove the row's statement (the work); the ties are given (YtnamdpbcpnnhaaaGreatDoorTie.lean); close each card by the builder's one call (the guide's Derived/Test/ToyasCard.lean, 'card_holds'). Laid BY PROGRAM, IN A SANDBOX (cutbox-door.mjs). By AI agents, Wed Nov 11 2026. No macro, syntax, notation, axiom, sorry.
-/
import Derived.Test.YtnamdpbcpnnhaaaGreatDoorRows
import GoSem.ClaimSeven
namespace Go.Proofs.YtnamdpbcpnnhaaaGreatDoor
namespace Rows

/-- THE TIED CARD OF 'emendlaw16.ParseWords'. -/
def parseWordsCard : Claim7 := { stood := { row := parseWordsRow, standIns := [], harness := (true, "7c58562b21b618913f75bececb98783b54f88d308e840749b21184127f6feb62"), looks := true }, kinds := [], alts := [], laidByText := true, laidKinds := [.data, .data, .data, .data, .widerDeep, .widerDeep, .widerDeep], laidTests := true, laidLooks := .later }
def ParseWordsCardSaid : Prop := Claim7.holds Tryz.pinned (.plain (OpenSpec.ofChange parseWordsSpec)) parseWordsCard

/-- THE TIED CARD OF 'emendlaw16.ParseBlind'. -/
def parseBlindCard : Claim7 := { stood := { row := parseBlindRow, standIns := [], harness := (true, "7c58562b21b618913f75bececb98783b54f88d308e840749b21184127f6feb62"), looks := true }, kinds := [], alts := [], laidByText := true, laidKinds := [.data, .data, .data, .data, .widerDeep, .widerDeep, .widerDeep], laidTests := true, laidLooks := .later }
def ParseBlindCardSaid : Prop := Claim7.holds Tryz.pinned (.plain (OpenSpec.ofChange parseBlindSpec)) parseBlindCard

/-- THE TIED CARD OF 'emendlaw16.ParseNames'. -/
def parseNamesCard : Claim7 := { stood := { row := parseNamesRow, standIns := [], harness := (true, "7c58562b21b618913f75bececb98783b54f88d308e840749b21184127f6feb62"), looks := true }, kinds := [], alts := [], laidByText := true, laidKinds := [.data, .data, .data, .data, .widerDeep, .widerDeep, .widerDeep], laidTests := true, laidLooks := .later }
def ParseNamesCardSaid : Prop := Claim7.holds Tryz.pinned (.plain (OpenSpec.ofChange parseNamesSpec)) parseNamesCard

/-- THE TIED CARD OF 'emendlaw16.ParseBoth'. -/
def parseBothCard : Claim7 := { stood := { row := parseBothRow, standIns := [], harness := (true, "7c58562b21b618913f75bececb98783b54f88d308e840749b21184127f6feb62"), looks := true }, kinds := [], alts := [], laidByText := true, laidKinds := [.data, .data, .data, .data, .widerDeep, .widerDeep, .widerDeep], laidTests := true, laidLooks := .later }
def ParseBothCardSaid : Prop := Claim7.holds Tryz.pinned (.plain (OpenSpec.ofChange parseBothSpec)) parseBothCard

/-- THE TIED CARD OF 'emendlaw16.ParseBrackets'. -/
def parseBracketsCard : Claim7 := { stood := { row := parseBracketsRow, standIns := [], harness := (true, "7c58562b21b618913f75bececb98783b54f88d308e840749b21184127f6feb62"), looks := true }, kinds := [], alts := [], laidByText := true, laidKinds := [.data, .data, .data, .data, .widerDeep, .widerDeep, .widerDeep], laidTests := true, laidLooks := .later }
def ParseBracketsCardSaid : Prop := Claim7.holds Tryz.pinned (.plain (OpenSpec.ofChange parseBracketsSpec)) parseBracketsCard

/-- THE TIED CARD OF 'emendlaw16.ParseWhole'. -/
def parseWholeCard : Claim7 := { stood := { row := parseWholeRow, standIns := [], harness := (true, "7c58562b21b618913f75bececb98783b54f88d308e840749b21184127f6feb62"), looks := true }, kinds := [], alts := [], laidByText := true, laidKinds := [.data, .data, .data, .data, .widerDeep, .widerDeep, .widerDeep], laidTests := true, laidLooks := .later }
def ParseWholeCardSaid : Prop := Claim7.holds Tryz.pinned (.plain (OpenSpec.ofChange parseWholeSpec)) parseWholeCard

/-- THE TIED CARD OF 'emendlaw18.ScopeFirst'. -/
def scopeFirstCard : Claim7 := { stood := { row := scopeFirstRow, standIns := [], harness := (true, "7c58562b21b618913f75bececb98783b54f88d308e840749b21184127f6feb62"), looks := true }, kinds := [], alts := [], laidByText := true, laidKinds := [.data, .widerDeep, .widerDeep, .widerDeep], laidTests := true, laidLooks := .later }
def ScopeFirstCardSaid : Prop := Claim7.holds Tryz.pinned (.plain (OpenSpec.ofChange scopeFirstSpec)) scopeFirstCard

/-- THE TIED CARD OF 'emendlaw18.ScopeBoth'. -/
def scopeBothCard : Claim7 := { stood := { row := scopeBothRow, standIns := [], harness := (true, "7c58562b21b618913f75bececb98783b54f88d308e840749b21184127f6feb62"), looks := true }, kinds := [], alts := [], laidByText := true, laidKinds := [.data, .widerDeep, .widerDeep, .widerDeep], laidTests := true, laidLooks := .later }
def ScopeBothCardSaid : Prop := Claim7.holds Tryz.pinned (.plain (OpenSpec.ofChange scopeBothSpec)) scopeBothCard

/-- THE TIED CARD OF 'emendlaw18.ScopeGroups'. -/
def scopeGroupsCard : Claim7 := { stood := { row := scopeGroupsRow, standIns := [], harness := (true, "7c58562b21b618913f75bececb98783b54f88d308e840749b21184127f6feb62"), looks := true }, kinds := [], alts := [], laidByText := true, laidKinds := [.data, .widerDeep, .widerDeep, .widerDeep], laidTests := true, laidLooks := .later }
def ScopeGroupsCardSaid : Prop := Claim7.holds Tryz.pinned (.plain (OpenSpec.ofChange scopeGroupsSpec)) scopeGroupsCard

/-- THE TIED CARD OF 'emendlaw18.ScopeRenamed'. -/
def scopeRenamedCard : Claim7 := { stood := { row := scopeRenamedRow, standIns := [], harness := (true, "7c58562b21b618913f75bececb98783b54f88d308e840749b21184127f6feb62"), looks := true }, kinds := [], alts := [], laidByText := true, laidKinds := [.data, .widerDeep, .widerDeep, .widerDeep], laidTests := true, laidLooks := .later }
def ScopeRenamedCardSaid : Prop := Claim7.holds Tryz.pinned (.plain (OpenSpec.ofChange scopeRenamedSpec)) scopeRenamedCard

/-- THE TIED CARD OF 'emendlaw18.ScopeUses'. -/
def scopeUsesCard : Claim7 := { stood := { row := scopeUsesRow, standIns := [], harness := (true, "7c58562b21b618913f75bececb98783b54f88d308e840749b21184127f6feb62"), looks := true }, kinds := [], alts := [], laidByText := true, laidKinds := [.data, .widerDeep, .widerDeep, .widerDeep], laidTests := true, laidLooks := .later }
def ScopeUsesCardSaid : Prop := Claim7.holds Tryz.pinned (.plain (OpenSpec.ofChange scopeUsesSpec)) scopeUsesCard

/-- THE SECOND FORM's CARD OF 'emendlaw16.ParseWords'. -/
def parseWordsUptoCard : Claim7 := { stood := { row := parseWordsUptoRow, standIns := [], harness := (true, "7c58562b21b618913f75bececb98783b54f88d308e840749b21184127f6feb62"), looks := true }, kinds := [], alts := [], laidByText := true, laidKinds := [.data, .data, .data, .data, .widerDeep, .widerDeep, .widerDeep], laidTests := true, laidLooks := .later }
def ParseWordsUptoCardSaid : Prop := Claim7.holds Tryz.pinned (.plain (OpenSpec.upto parseWordsSpec)) parseWordsUptoCard

/-- THE SECOND FORM's CARD OF 'emendlaw16.ParseBlind'. -/
def parseBlindUptoCard : Claim7 := { stood := { row := parseBlindUptoRow, standIns := [], harness := (true, "7c58562b21b618913f75bececb98783b54f88d308e840749b21184127f6feb62"), looks := true }, kinds := [], alts := [], laidByText := true, laidKinds := [.data, .data, .data, .data, .widerDeep, .widerDeep, .widerDeep], laidTests := true, laidLooks := .later }
def ParseBlindUptoCardSaid : Prop := Claim7.holds Tryz.pinned (.plain (OpenSpec.upto parseBlindSpec)) parseBlindUptoCard

/-- THE SECOND FORM's CARD OF 'emendlaw16.ParseNames'. -/
def parseNamesUptoCard : Claim7 := { stood := { row := parseNamesUptoRow, standIns := [], harness := (true, "7c58562b21b618913f75bececb98783b54f88d308e840749b21184127f6feb62"), looks := true }, kinds := [], alts := [], laidByText := true, laidKinds := [.data, .data, .data, .data, .widerDeep, .widerDeep, .widerDeep], laidTests := true, laidLooks := .later }
def ParseNamesUptoCardSaid : Prop := Claim7.holds Tryz.pinned (.plain (OpenSpec.upto parseNamesSpec)) parseNamesUptoCard

/-- THE SECOND FORM's CARD OF 'emendlaw16.ParseBoth'. -/
def parseBothUptoCard : Claim7 := { stood := { row := parseBothUptoRow, standIns := [], harness := (true, "7c58562b21b618913f75bececb98783b54f88d308e840749b21184127f6feb62"), looks := true }, kinds := [], alts := [], laidByText := true, laidKinds := [.data, .data, .data, .data, .widerDeep, .widerDeep, .widerDeep], laidTests := true, laidLooks := .later }
def ParseBothUptoCardSaid : Prop := Claim7.holds Tryz.pinned (.plain (OpenSpec.upto parseBothSpec)) parseBothUptoCard

/-- THE SECOND FORM's CARD OF 'emendlaw16.ParseBrackets'. -/
def parseBracketsUptoCard : Claim7 := { stood := { row := parseBracketsUptoRow, standIns := [], harness := (true, "7c58562b21b618913f75bececb98783b54f88d308e840749b21184127f6feb62"), looks := true }, kinds := [], alts := [], laidByText := true, laidKinds := [.data, .data, .data, .data, .widerDeep, .widerDeep, .widerDeep], laidTests := true, laidLooks := .later }
def ParseBracketsUptoCardSaid : Prop := Claim7.holds Tryz.pinned (.plain (OpenSpec.upto parseBracketsSpec)) parseBracketsUptoCard

/-- THE SECOND FORM's CARD OF 'emendlaw16.ParseWhole'. -/
def parseWholeUptoCard : Claim7 := { stood := { row := parseWholeUptoRow, standIns := [], harness := (true, "7c58562b21b618913f75bececb98783b54f88d308e840749b21184127f6feb62"), looks := true }, kinds := [], alts := [], laidByText := true, laidKinds := [.data, .data, .data, .data, .widerDeep, .widerDeep, .widerDeep], laidTests := true, laidLooks := .later }
def ParseWholeUptoCardSaid : Prop := Claim7.holds Tryz.pinned (.plain (OpenSpec.upto parseWholeSpec)) parseWholeUptoCard

/-- THE SECOND FORM's CARD OF 'emendlaw18.ScopeFirst'. -/
def scopeFirstUptoCard : Claim7 := { stood := { row := scopeFirstUptoRow, standIns := [], harness := (true, "7c58562b21b618913f75bececb98783b54f88d308e840749b21184127f6feb62"), looks := true }, kinds := [], alts := [], laidByText := true, laidKinds := [.data, .widerDeep, .widerDeep, .widerDeep], laidTests := true, laidLooks := .later }
def ScopeFirstUptoCardSaid : Prop := Claim7.holds Tryz.pinned (.plain (OpenSpec.upto scopeFirstSpec)) scopeFirstUptoCard

/-- THE SECOND FORM's CARD OF 'emendlaw18.ScopeBoth'. -/
def scopeBothUptoCard : Claim7 := { stood := { row := scopeBothUptoRow, standIns := [], harness := (true, "7c58562b21b618913f75bececb98783b54f88d308e840749b21184127f6feb62"), looks := true }, kinds := [], alts := [], laidByText := true, laidKinds := [.data, .widerDeep, .widerDeep, .widerDeep], laidTests := true, laidLooks := .later }
def ScopeBothUptoCardSaid : Prop := Claim7.holds Tryz.pinned (.plain (OpenSpec.upto scopeBothSpec)) scopeBothUptoCard

/-- THE SECOND FORM's CARD OF 'emendlaw18.ScopeGroups'. -/
def scopeGroupsUptoCard : Claim7 := { stood := { row := scopeGroupsUptoRow, standIns := [], harness := (true, "7c58562b21b618913f75bececb98783b54f88d308e840749b21184127f6feb62"), looks := true }, kinds := [], alts := [], laidByText := true, laidKinds := [.data, .widerDeep, .widerDeep, .widerDeep], laidTests := true, laidLooks := .later }
def ScopeGroupsUptoCardSaid : Prop := Claim7.holds Tryz.pinned (.plain (OpenSpec.upto scopeGroupsSpec)) scopeGroupsUptoCard

/-- THE SECOND FORM's CARD OF 'emendlaw18.ScopeRenamed'. -/
def scopeRenamedUptoCard : Claim7 := { stood := { row := scopeRenamedUptoRow, standIns := [], harness := (true, "7c58562b21b618913f75bececb98783b54f88d308e840749b21184127f6feb62"), looks := true }, kinds := [], alts := [], laidByText := true, laidKinds := [.data, .widerDeep, .widerDeep, .widerDeep], laidTests := true, laidLooks := .later }
def ScopeRenamedUptoCardSaid : Prop := Claim7.holds Tryz.pinned (.plain (OpenSpec.upto scopeRenamedSpec)) scopeRenamedUptoCard

/-- THE SECOND FORM's CARD OF 'emendlaw18.ScopeUses'. -/
def scopeUsesUptoCard : Claim7 := { stood := { row := scopeUsesUptoRow, standIns := [], harness := (true, "7c58562b21b618913f75bececb98783b54f88d308e840749b21184127f6feb62"), looks := true }, kinds := [], alts := [], laidByText := true, laidKinds := [.data, .widerDeep, .widerDeep, .widerDeep], laidTests := true, laidLooks := .later }
def ScopeUsesUptoCardSaid : Prop := Claim7.holds Tryz.pinned (.plain (OpenSpec.upto scopeUsesSpec)) scopeUsesUptoCard
end Rows
end Go.Proofs.YtnamdpbcpnnhaaaGreatDoor
