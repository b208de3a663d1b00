/-
  DERIVED. GIVEN WITH THE SEED: THE PROGRAM's TIES (one call each: nine closed facts by the kernel) AND EACH ROW's TIE, after the 31st guide's Derived/Test/Toyas{Tie, Card}.lean. No idea stands in it: it is a product of the set-up. Laid BY PROGRAM, IN A SANDBOX (cutbox-door.mjs). By AI agents, Wed Nov 11 2026. No macro, syntax, notation, axiom, sorry.
-/
import Derived.Test.YtnamdpbcpnnhaaaGreatDoorRows
import Derived.LaidByTextLater
import Derived.SevenTiedAt
import Derived.LaidSub
import Derived.LaidOnce
namespace Go.Proofs.YtnamdpbcpnnhaaaGreatDoor
open Go
set_option maxRecDepth 100000
theorem seatTie1 : Tryz.prog.laidByTextLater [("math/bits.deBruijn32tab", Rows.laid_math_bits_deBruijn32tab), ("math/bits.deBruijn64tab", Rows.laid_math_bits_deBruijn64tab), ("internal/strconv.uint64pow10", Rows.laid_internal_strconv_uint64pow10), ("emend/pptok.signs", Rows.laid_emend_pptok_signs), ("emend/parse.keywords", Rows.laid_emend_parse_keywords), ("emend/parse.marks", Rows.laid_emend_parse_marks), ("emend/parse.words", Rows.laid_emend_parse_words)] [.data, .data, .data, .data, .widerDeep, .widerDeep, .widerDeep] true :=
  Program.laidByTextLater_by_one 44 8 65 (by kernel_rfl) (by kernel_rfl) (by kernel_rfl) (by kernel_rfl) (by kernel_rfl) (by kernel_rfl) (fun _ _ => by kernel_rfl)
theorem noOwnUnsafe : Tryz.pinned.checked.prog.headLifts.contains "ownunsafe" = false := by kernel_rfl
theorem tie : Tryz.prog.laidByTextLater [("math/bits.deBruijn32tab", Rows.laid_math_bits_deBruijn32tab), ("math/bits.deBruijn64tab", Rows.laid_math_bits_deBruijn64tab), ("internal/strconv.uint64pow10", Rows.laid_internal_strconv_uint64pow10), ("emend/pptok.signs", Rows.laid_emend_pptok_signs), ("emend/parse.keywords", Rows.laid_emend_parse_keywords), ("emend/parse.marks", Rows.laid_emend_parse_marks), ("emend/parse.words", Rows.laid_emend_parse_words)] [.data, .data, .data, .data, .widerDeep, .widerDeep, .widerDeep] true :=
  Program.laidByTextLater.sub seatTie1 ["math/bits.deBruijn32tab", "math/bits.deBruijn64tab", "internal/strconv.uint64pow10", "emend/pptok.signs", "emend/parse.keywords", "emend/parse.marks", "emend/parse.words"] (by kernel_rfl) (by kernel_rfl)
theorem parseWords_row_tie : Rows.parseWordsRow.laidByTextAt .later Tryz.pinned [.data, .data, .data, .data, .widerDeep, .widerDeep, .widerDeep] true :=
  OpenClaim.laidByTextAt_later rfl rfl tie noOwnUnsafe
theorem parseBlind_row_tie : Rows.parseBlindRow.laidByTextAt .later Tryz.pinned [.data, .data, .data, .data, .widerDeep, .widerDeep, .widerDeep] true :=
  OpenClaim.laidByTextAt_later rfl rfl tie noOwnUnsafe
theorem parseNames_row_tie : Rows.parseNamesRow.laidByTextAt .later Tryz.pinned [.data, .data, .data, .data, .widerDeep, .widerDeep, .widerDeep] true :=
  OpenClaim.laidByTextAt_later rfl rfl tie noOwnUnsafe
theorem parseBoth_row_tie : Rows.parseBothRow.laidByTextAt .later Tryz.pinned [.data, .data, .data, .data, .widerDeep, .widerDeep, .widerDeep] true :=
  OpenClaim.laidByTextAt_later rfl rfl tie noOwnUnsafe
theorem parseBrackets_row_tie : Rows.parseBracketsRow.laidByTextAt .later Tryz.pinned [.data, .data, .data, .data, .widerDeep, .widerDeep, .widerDeep] true :=
  OpenClaim.laidByTextAt_later rfl rfl tie noOwnUnsafe
theorem parseWhole_row_tie : Rows.parseWholeRow.laidByTextAt .later Tryz.pinned [.data, .data, .data, .data, .widerDeep, .widerDeep, .widerDeep] true :=
  OpenClaim.laidByTextAt_later rfl rfl tie noOwnUnsafe
theorem tie2 : Tryz.prog.laidByTextLater [("emend/pptok.signs", Rows.laid_emend_pptok_signs), ("emend/parse.keywords", Rows.laid_emend_parse_keywords), ("emend/parse.marks", Rows.laid_emend_parse_marks), ("emend/parse.words", Rows.laid_emend_parse_words)] [.data, .widerDeep, .widerDeep, .widerDeep] true :=
  Program.laidByTextLater.sub seatTie1 ["emend/pptok.signs", "emend/parse.keywords", "emend/parse.marks", "emend/parse.words"] (by kernel_rfl) (by kernel_rfl)
theorem scopeFirst_row_tie : Rows.scopeFirstRow.laidByTextAt .later Tryz.pinned [.data, .widerDeep, .widerDeep, .widerDeep] true :=
  OpenClaim.laidByTextAt_later rfl rfl tie2 noOwnUnsafe
theorem scopeBoth_row_tie : Rows.scopeBothRow.laidByTextAt .later Tryz.pinned [.data, .widerDeep, .widerDeep, .widerDeep] true :=
  OpenClaim.laidByTextAt_later rfl rfl tie2 noOwnUnsafe
theorem scopeGroups_row_tie : Rows.scopeGroupsRow.laidByTextAt .later Tryz.pinned [.data, .widerDeep, .widerDeep, .widerDeep] true :=
  OpenClaim.laidByTextAt_later rfl rfl tie2 noOwnUnsafe
theorem scopeRenamed_row_tie : Rows.scopeRenamedRow.laidByTextAt .later Tryz.pinned [.data, .widerDeep, .widerDeep, .widerDeep] true :=
  OpenClaim.laidByTextAt_later rfl rfl tie2 noOwnUnsafe
theorem scopeUses_row_tie : Rows.scopeUsesRow.laidByTextAt .later Tryz.pinned [.data, .widerDeep, .widerDeep, .widerDeep] true :=
  OpenClaim.laidByTextAt_later rfl rfl tie2 noOwnUnsafe
theorem parseWordsUpto_row_tie : Rows.parseWordsUptoRow.laidByTextAt .later Tryz.pinned [.data, .data, .data, .data, .widerDeep, .widerDeep, .widerDeep] true :=
  OpenClaim.laidByTextAt_later rfl rfl tie noOwnUnsafe
theorem parseBlindUpto_row_tie : Rows.parseBlindUptoRow.laidByTextAt .later Tryz.pinned [.data, .data, .data, .data, .widerDeep, .widerDeep, .widerDeep] true :=
  OpenClaim.laidByTextAt_later rfl rfl tie noOwnUnsafe
theorem parseNamesUpto_row_tie : Rows.parseNamesUptoRow.laidByTextAt .later Tryz.pinned [.data, .data, .data, .data, .widerDeep, .widerDeep, .widerDeep] true :=
  OpenClaim.laidByTextAt_later rfl rfl tie noOwnUnsafe
theorem parseBothUpto_row_tie : Rows.parseBothUptoRow.laidByTextAt .later Tryz.pinned [.data, .data, .data, .data, .widerDeep, .widerDeep, .widerDeep] true :=
  OpenClaim.laidByTextAt_later rfl rfl tie noOwnUnsafe
theorem parseBracketsUpto_row_tie : Rows.parseBracketsUptoRow.laidByTextAt .later Tryz.pinned [.data, .data, .data, .data, .widerDeep, .widerDeep, .widerDeep] true :=
  OpenClaim.laidByTextAt_later rfl rfl tie noOwnUnsafe
theorem parseWholeUpto_row_tie : Rows.parseWholeUptoRow.laidByTextAt .later Tryz.pinned [.data, .data, .data, .data, .widerDeep, .widerDeep, .widerDeep] true :=
  OpenClaim.laidByTextAt_later rfl rfl tie noOwnUnsafe
theorem scopeFirstUpto_row_tie : Rows.scopeFirstUptoRow.laidByTextAt .later Tryz.pinned [.data, .widerDeep, .widerDeep, .widerDeep] true :=
  OpenClaim.laidByTextAt_later rfl rfl tie2 noOwnUnsafe
theorem scopeBothUpto_row_tie : Rows.scopeBothUptoRow.laidByTextAt .later Tryz.pinned [.data, .widerDeep, .widerDeep, .widerDeep] true :=
  OpenClaim.laidByTextAt_later rfl rfl tie2 noOwnUnsafe
theorem scopeGroupsUpto_row_tie : Rows.scopeGroupsUptoRow.laidByTextAt .later Tryz.pinned [.data, .widerDeep, .widerDeep, .widerDeep] true :=
  OpenClaim.laidByTextAt_later rfl rfl tie2 noOwnUnsafe
theorem scopeRenamedUpto_row_tie : Rows.scopeRenamedUptoRow.laidByTextAt .later Tryz.pinned [.data, .widerDeep, .widerDeep, .widerDeep] true :=
  OpenClaim.laidByTextAt_later rfl rfl tie2 noOwnUnsafe
theorem scopeUsesUpto_row_tie : Rows.scopeUsesUptoRow.laidByTextAt .later Tryz.pinned [.data, .widerDeep, .widerDeep, .widerDeep] true :=
  OpenClaim.laidByTextAt_later rfl rfl tie2 noOwnUnsafe
end Go.Proofs.YtnamdpbcpnnhaaaGreatDoor
