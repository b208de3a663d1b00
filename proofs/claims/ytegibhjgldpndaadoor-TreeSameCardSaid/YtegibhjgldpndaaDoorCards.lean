/-
  DERIVED. GIVEN WITH THE SEED: THE CARDS: each row of YtegibhjgldpndaaDoorRows.lean that lists a variable, with what it lists TIED to the program's text (the seventh form; the later family's looks); each row that meets fmt, with fmt's text TOLD by the authors' own Lean function (tested against real Go, not proved from fmt's source: count such statements apart). THE CARD IS WHAT COUNTS. Prove the row's statement (the work); the ties are given (YtegibhjgldpndaaDoorTie.lean); close each card by the builder's one call (the guide's Derived/Test/ToyasCard.lean, 'card_holds'). Laid BY PROGRAM, IN A SANDBOX (cutbox-door.mjs). By AI agents, Wed Nov 11 2026. No macro, syntax, notation, axiom, sorry.
-/
import Derived.Test.YtegibhjgldpndaaDoorRows
import GoSem.ClaimSeven
namespace Go.Proofs.YtegibhjgldpndaaDoor
namespace Rows

/-- THE TIED CARD OF 'emendlaw15.TreeReads'. -/
def treeReadsCard : Claim7 := { stood := { row := treeReadsRow, standIns := [], harness := (true, "0d5b5d030fab4683ade4ddc7b616cfca7efe457174aaaa6aa9adf19e59800d4a"), looks := true }, kinds := [], alts := [], laidByText := true, laidKinds := [.data, .data, .data, .sentinel, .sentinel], laidTests := true, laidLooks := .later }
def TreeReadsCardSaid : Prop := Claim7.holds Tryd.pinned (.plain (OpenSpec.ofChange treeReadsSpec)) treeReadsCard

/-- THE TIED CARD OF 'emendlaw15.TreeTells'. -/
def treeTellsCard : Claim7 := { stood := { row := treeTellsRow, standIns := [], harness := (true, "0d5b5d030fab4683ade4ddc7b616cfca7efe457174aaaa6aa9adf19e59800d4a"), looks := true }, kinds := [], alts := [], laidByText := true, laidKinds := [.data, .data, .data, .sentinel, .sentinel], laidTests := true, laidLooks := .later }
def TreeTellsCardSaid : Prop := Claim7.holds Tryd.pinned (.plain (OpenSpec.ofChange treeTellsSpec)) treeTellsCard

/-- THE TIED CARD OF 'emendlaw15.TreeSame'. -/
def treeSameCard : Claim7 := { stood := { row := treeSameRow, standIns := [], harness := (true, "0d5b5d030fab4683ade4ddc7b616cfca7efe457174aaaa6aa9adf19e59800d4a"), looks := true }, kinds := [], alts := [], laidByText := true, laidKinds := [.data, .data, .data, .sentinel, .sentinel], laidTests := true, laidLooks := .later }
def TreeSameCardSaid : Prop := Claim7.holds Tryd.pinned (.plain (OpenSpec.ofChange treeSameSpec)) treeSameCard

/-- THE TIED CARD OF 'emendlaw15.TreeMade'. -/
def treeMadeCard : Claim7 := { stood := { row := treeMadeRow, standIns := [], harness := (true, "0d5b5d030fab4683ade4ddc7b616cfca7efe457174aaaa6aa9adf19e59800d4a"), looks := true }, kinds := [], alts := [], laidByText := true, laidKinds := [.data, .data, .data, .sentinel, .sentinel], laidTests := true, laidLooks := .later }
def TreeMadeCardSaid : Prop := Claim7.holds Tryd.pinned (.plain (OpenSpec.ofChange treeMadeSpec)) treeMadeCard

/-- THE TIED CARD OF 'emendlaw15.TreeMoves'. -/
def treeMovesCard : Claim7 := { stood := { row := treeMovesRow, standIns := [], harness := (true, "0d5b5d030fab4683ade4ddc7b616cfca7efe457174aaaa6aa9adf19e59800d4a"), looks := true }, kinds := [], alts := [], laidByText := true, laidKinds := [.data, .data, .data, .sentinel, .sentinel], laidTests := true, laidLooks := .later }
def TreeMovesCardSaid : Prop := Claim7.holds Tryd.pinned (.plain (OpenSpec.ofChange treeMovesSpec)) treeMovesCard

/-- THE TIED CARD OF 'emendlaw15.TreeWhole'. -/
def treeWholeCard : Claim7 := { stood := { row := treeWholeRow, standIns := [], harness := (true, "0d5b5d030fab4683ade4ddc7b616cfca7efe457174aaaa6aa9adf19e59800d4a"), looks := true }, kinds := [], alts := [], laidByText := true, laidKinds := [.data, .data, .data, .sentinel, .sentinel], laidTests := true, laidLooks := .later }
def TreeWholeCardSaid : Prop := Claim7.holds Tryd.pinned (.plain (OpenSpec.ofChange treeWholeSpec)) treeWholeCard

/-- THE SECOND FORM's CARD OF 'emendlaw15.TreeReads'. -/
def treeReadsUptoCard : Claim7 := { stood := { row := treeReadsUptoRow, standIns := [], harness := (true, "0d5b5d030fab4683ade4ddc7b616cfca7efe457174aaaa6aa9adf19e59800d4a"), looks := true }, kinds := [], alts := [], laidByText := true, laidKinds := [.data, .data, .data, .sentinel, .sentinel], laidTests := true, laidLooks := .later }
def TreeReadsUptoCardSaid : Prop := Claim7.holds Tryd.pinned (.plain (OpenSpec.upto treeReadsSpec)) treeReadsUptoCard

/-- THE SECOND FORM's CARD OF 'emendlaw15.TreeTells'. -/
def treeTellsUptoCard : Claim7 := { stood := { row := treeTellsUptoRow, standIns := [], harness := (true, "0d5b5d030fab4683ade4ddc7b616cfca7efe457174aaaa6aa9adf19e59800d4a"), looks := true }, kinds := [], alts := [], laidByText := true, laidKinds := [.data, .data, .data, .sentinel, .sentinel], laidTests := true, laidLooks := .later }
def TreeTellsUptoCardSaid : Prop := Claim7.holds Tryd.pinned (.plain (OpenSpec.upto treeTellsSpec)) treeTellsUptoCard

/-- THE SECOND FORM's CARD OF 'emendlaw15.TreeSame'. -/
def treeSameUptoCard : Claim7 := { stood := { row := treeSameUptoRow, standIns := [], harness := (true, "0d5b5d030fab4683ade4ddc7b616cfca7efe457174aaaa6aa9adf19e59800d4a"), looks := true }, kinds := [], alts := [], laidByText := true, laidKinds := [.data, .data, .data, .sentinel, .sentinel], laidTests := true, laidLooks := .later }
def TreeSameUptoCardSaid : Prop := Claim7.holds Tryd.pinned (.plain (OpenSpec.upto treeSameSpec)) treeSameUptoCard

/-- THE SECOND FORM's CARD OF 'emendlaw15.TreeMade'. -/
def treeMadeUptoCard : Claim7 := { stood := { row := treeMadeUptoRow, standIns := [], harness := (true, "0d5b5d030fab4683ade4ddc7b616cfca7efe457174aaaa6aa9adf19e59800d4a"), looks := true }, kinds := [], alts := [], laidByText := true, laidKinds := [.data, .data, .data, .sentinel, .sentinel], laidTests := true, laidLooks := .later }
def TreeMadeUptoCardSaid : Prop := Claim7.holds Tryd.pinned (.plain (OpenSpec.upto treeMadeSpec)) treeMadeUptoCard

/-- THE SECOND FORM's CARD OF 'emendlaw15.TreeMoves'. -/
def treeMovesUptoCard : Claim7 := { stood := { row := treeMovesUptoRow, standIns := [], harness := (true, "0d5b5d030fab4683ade4ddc7b616cfca7efe457174aaaa6aa9adf19e59800d4a"), looks := true }, kinds := [], alts := [], laidByText := true, laidKinds := [.data, .data, .data, .sentinel, .sentinel], laidTests := true, laidLooks := .later }
def TreeMovesUptoCardSaid : Prop := Claim7.holds Tryd.pinned (.plain (OpenSpec.upto treeMovesSpec)) treeMovesUptoCard

/-- THE SECOND FORM's CARD OF 'emendlaw15.TreeWhole'. -/
def treeWholeUptoCard : Claim7 := { stood := { row := treeWholeUptoRow, standIns := [], harness := (true, "0d5b5d030fab4683ade4ddc7b616cfca7efe457174aaaa6aa9adf19e59800d4a"), looks := true }, kinds := [], alts := [], laidByText := true, laidKinds := [.data, .data, .data, .sentinel, .sentinel], laidTests := true, laidLooks := .later }
def TreeWholeUptoCardSaid : Prop := Claim7.holds Tryd.pinned (.plain (OpenSpec.upto treeWholeSpec)) treeWholeUptoCard
end Rows
end Go.Proofs.YtegibhjgldpndaaDoor
