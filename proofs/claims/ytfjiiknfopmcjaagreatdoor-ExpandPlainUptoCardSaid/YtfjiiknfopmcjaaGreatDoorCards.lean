/-
  DERIVED. GIVEN WITH THE SEED: THE CARDS: each row of YtfjiiknfopmcjaaGreatDoorRows.lean that lists a variable, with what it lists TIED to the program's text (the seventh form; the later family's looks); each row that meets fmt, with fmt's text TOLD by the authors' own Lean function (tested against real Go, not proved from fmt's source: count such statements apart). THE CARD IS WHAT COUNTS. Prove the row's statement (the work); the ties are given (YtfjiiknfopmcjaaGreatDoorTie.lean); close each card by the builder's one call (the guide's Derived/Test/ToyasCard.lean, 'card_holds'). Laid BY PROGRAM, IN A SANDBOX (cutbox-door.mjs). By AI agents, Wed Nov 11 2026. No macro, syntax, notation, axiom, sorry.
-/
import Derived.Test.YtfjiiknfopmcjaaGreatDoorRows
import GoSem.ClaimSeven
namespace Go.Proofs.YtfjiiknfopmcjaaGreatDoor
namespace Rows

/-- THE TIED CARD OF 'emendlaw08.ExpandNone'. -/
def expandNoneCard : Claim7 := { stood := { row := expandNoneRow, standIns := [], harness := (true, "4970534abb448be6b6b0e3a2e0ecd71069b33ec47d661ce25528f19454097e4d"), looks := true }, kinds := [], alts := [], laidByText := true, laidKinds := [.data, .data, .pinned], laidTests := true, laidLooks := .later }
def ExpandNoneCardSaid : Prop := Claim7.holds Tryz.pinned (.plain (OpenSpec.ofChange expandNoneSpec)) expandNoneCard

/-- THE TIED CARD OF 'emendlaw08.ExpandPlain'. -/
def expandPlainCard : Claim7 := { stood := { row := expandPlainRow, standIns := [], harness := (true, "4970534abb448be6b6b0e3a2e0ecd71069b33ec47d661ce25528f19454097e4d"), looks := true }, kinds := [], alts := [], laidByText := true, laidKinds := [.data, .data, .pinned], laidTests := true, laidLooks := .later }
def ExpandPlainCardSaid : Prop := Claim7.holds Tryz.pinned (.plain (OpenSpec.ofChange expandPlainSpec)) expandPlainCard

/-- THE TIED CARD OF 'emendlaw08.ExpandOrder'. -/
def expandOrderCard : Claim7 := { stood := { row := expandOrderRow, standIns := [], harness := (true, "4970534abb448be6b6b0e3a2e0ecd71069b33ec47d661ce25528f19454097e4d"), looks := true }, kinds := [], alts := [], laidByText := true, laidKinds := [.data, .data, .pinned], laidTests := true, laidLooks := .later }
def ExpandOrderCardSaid : Prop := Claim7.holds Tryz.pinned (.plain (OpenSpec.ofChange expandOrderSpec)) expandOrderCard

/-- THE TIED CARD OF 'emendlaw08.ExpandSelf'. -/
def expandSelfCard : Claim7 := { stood := { row := expandSelfRow, standIns := [], harness := (true, "4970534abb448be6b6b0e3a2e0ecd71069b33ec47d661ce25528f19454097e4d"), looks := true }, kinds := [], alts := [], laidByText := true, laidKinds := [.data, .data, .pinned], laidTests := true, laidLooks := .later }
def ExpandSelfCardSaid : Prop := Claim7.holds Tryz.pinned (.plain (OpenSpec.ofChange expandSelfSpec)) expandSelfCard

/-- THE SECOND FORM's CARD OF 'emendlaw08.ExpandNone'. -/
def expandNoneUptoCard : Claim7 := { stood := { row := expandNoneUptoRow, standIns := [], harness := (true, "4970534abb448be6b6b0e3a2e0ecd71069b33ec47d661ce25528f19454097e4d"), looks := true }, kinds := [], alts := [], laidByText := true, laidKinds := [.data, .data, .pinned], laidTests := true, laidLooks := .later }
def ExpandNoneUptoCardSaid : Prop := Claim7.holds Tryz.pinned (.plain (OpenSpec.upto expandNoneSpec)) expandNoneUptoCard

/-- THE SECOND FORM's CARD OF 'emendlaw08.ExpandPlain'. -/
def expandPlainUptoCard : Claim7 := { stood := { row := expandPlainUptoRow, standIns := [], harness := (true, "4970534abb448be6b6b0e3a2e0ecd71069b33ec47d661ce25528f19454097e4d"), looks := true }, kinds := [], alts := [], laidByText := true, laidKinds := [.data, .data, .pinned], laidTests := true, laidLooks := .later }
def ExpandPlainUptoCardSaid : Prop := Claim7.holds Tryz.pinned (.plain (OpenSpec.upto expandPlainSpec)) expandPlainUptoCard

/-- THE SECOND FORM's CARD OF 'emendlaw08.ExpandOrder'. -/
def expandOrderUptoCard : Claim7 := { stood := { row := expandOrderUptoRow, standIns := [], harness := (true, "4970534abb448be6b6b0e3a2e0ecd71069b33ec47d661ce25528f19454097e4d"), looks := true }, kinds := [], alts := [], laidByText := true, laidKinds := [.data, .data, .pinned], laidTests := true, laidLooks := .later }
def ExpandOrderUptoCardSaid : Prop := Claim7.holds Tryz.pinned (.plain (OpenSpec.upto expandOrderSpec)) expandOrderUptoCard

/-- THE SECOND FORM's CARD OF 'emendlaw08.ExpandSelf'. -/
def expandSelfUptoCard : Claim7 := { stood := { row := expandSelfUptoRow, standIns := [], harness := (true, "4970534abb448be6b6b0e3a2e0ecd71069b33ec47d661ce25528f19454097e4d"), looks := true }, kinds := [], alts := [], laidByText := true, laidKinds := [.data, .data, .pinned], laidTests := true, laidLooks := .later }
def ExpandSelfUptoCardSaid : Prop := Claim7.holds Tryz.pinned (.plain (OpenSpec.upto expandSelfSpec)) expandSelfUptoCard
end Rows
end Go.Proofs.YtfjiiknfopmcjaaGreatDoor
