/-
  DERIVED. GIVEN WITH THE SEED: THE PROGRAM's TIES (one call each: nine closed facts by the kernel) AND EACH ROW's TIE, after the 31st guide's Derived/Test/Toyas{Tie, Card}.lean. No idea stands in it: it is a product of the set-up. Laid BY PROGRAM, IN A SANDBOX (cutbox-door.mjs). By AI agents, Wed Nov 11 2026. No macro, syntax, notation, axiom, sorry.
-/
import Derived.Test.YtonnigoiklahdaaDoorRows
import Derived.LaidByTextLater
import Derived.SevenTiedAt
import Derived.LaidSub
import Derived.LaidOnce
namespace Go.Proofs.YtonnigoiklahdaaDoor
open Go
set_option maxRecDepth 100000
theorem seatTie1 : Tryd.prog.laidByTextLater [("unicode.White_Space", Rows.laid_unicode_White_Space), ("strings.asciiSpace", Rows.laid_strings_asciiSpace), ("emend/pptok.signs", Rows.laid_emend_pptok_signs)] [.listed, .data, .data] true :=
  Program.laidByTextLater_by_one 38 8 257 (by kernel_rfl) (by kernel_rfl) (by kernel_rfl) (by kernel_rfl) (by kernel_rfl) (by kernel_rfl) (fun _ _ => by kernel_rfl)
theorem noOwnUnsafe : Tryd.pinned.checked.prog.headLifts.contains "ownunsafe" = false := by kernel_rfl
theorem tie : Tryd.prog.laidByTextLater [("unicode.White_Space", Rows.laid_unicode_White_Space), ("strings.asciiSpace", Rows.laid_strings_asciiSpace), ("emend/pptok.signs", Rows.laid_emend_pptok_signs)] [.listed, .data, .data] true :=
  Program.laidByTextLater.sub seatTie1 ["unicode.White_Space", "strings.asciiSpace", "emend/pptok.signs"] (by kernel_rfl) (by kernel_rfl)
theorem ifexprPlays_row_tie : Rows.ifexprPlaysRow.laidByTextAt .later Tryd.pinned [.listed, .data, .data] true :=
  OpenClaim.laidByTextAt_later rfl rfl tie noOwnUnsafe
theorem ifexprAtoms_row_tie : Rows.ifexprAtomsRow.laidByTextAt .later Tryd.pinned [.listed, .data, .data] true :=
  OpenClaim.laidByTextAt_later rfl rfl tie noOwnUnsafe
theorem ifexprTwo_row_tie : Rows.ifexprTwoRow.laidByTextAt .later Tryd.pinned [.listed, .data, .data] true :=
  OpenClaim.laidByTextAt_later rfl rfl tie noOwnUnsafe
theorem ifexprLazy_row_tie : Rows.ifexprLazyRow.laidByTextAt .later Tryd.pinned [.listed, .data, .data] true :=
  OpenClaim.laidByTextAt_later rfl rfl tie noOwnUnsafe
theorem ifexprDefined_row_tie : Rows.ifexprDefinedRow.laidByTextAt .later Tryd.pinned [.listed, .data, .data] true :=
  OpenClaim.laidByTextAt_later rfl rfl tie noOwnUnsafe
theorem ifexprPlaysUpto_row_tie : Rows.ifexprPlaysUptoRow.laidByTextAt .later Tryd.pinned [.listed, .data, .data] true :=
  OpenClaim.laidByTextAt_later rfl rfl tie noOwnUnsafe
theorem ifexprAtomsUpto_row_tie : Rows.ifexprAtomsUptoRow.laidByTextAt .later Tryd.pinned [.listed, .data, .data] true :=
  OpenClaim.laidByTextAt_later rfl rfl tie noOwnUnsafe
theorem ifexprTwoUpto_row_tie : Rows.ifexprTwoUptoRow.laidByTextAt .later Tryd.pinned [.listed, .data, .data] true :=
  OpenClaim.laidByTextAt_later rfl rfl tie noOwnUnsafe
theorem ifexprLazyUpto_row_tie : Rows.ifexprLazyUptoRow.laidByTextAt .later Tryd.pinned [.listed, .data, .data] true :=
  OpenClaim.laidByTextAt_later rfl rfl tie noOwnUnsafe
theorem ifexprDefinedUpto_row_tie : Rows.ifexprDefinedUptoRow.laidByTextAt .later Tryd.pinned [.listed, .data, .data] true :=
  OpenClaim.laidByTextAt_later rfl rfl tie noOwnUnsafe
end Go.Proofs.YtonnigoiklahdaaDoor
