/-
  NARROWER THAN 'FOR EVERY INPUT', by the rows' own cells (each row's printed sentence says how): ParseWords: laid · ParseBlind: laid · ParseNames: laid · ParseBoth: laid · ParseBrackets: laid · ParseWhole: laid · ScopeFirst: laid · ScopeBoth: laid · ScopeGroups: laid · ScopeRenamed: laid · ScopeUses: laid.
  DERIVED. THE GIVEN ROWS OF THIS SEAT. 11 by the template 'for every input the law returns true; each argument reads behind the call as it read before'; 0 by the template 'total and deterministic' (their statements: YtnamdpbcpnnhaaaGreatDoorTotals.lean).
  GIVEN WITH THE SEED: the statements are not yours to turn. If you find one false, say at which input.
  Laid BY PROGRAM, IN A SANDBOX (cutbox-rows.mjs): the forced cells as the released guide's own fill.sh prints them over the translation 83b07b6c296d164f… (all of the seat's roots in one cut). By AI agents, Wed Nov 11 2026. No macro, syntax, notation, axiom, sorry.
-/
import Derived.Test.YtnamdpbcpnnhaaaGreatDoorChecked
import GoSem.Claim
import GoSem.ClaimJoined
import GoSem.ClaimMapViews
import Derived.JoinedTies
import Derived.KernelRfl
namespace Go.Proofs.YtnamdpbcpnnhaaaGreatDoor
/- THE CELL 'sum', in the pinned program and in every row, IS THE sha256 OF THE DUMP (.gsa) THAT YtnamdpbcpnnhaaaGreatDoorProg.lean LOADS. Nothing in Lean hashes anything: it is a label: what it is worth is what the hold of that sum in a sandbox is worth. -/
noncomputable def Tryz.pinned : Pinned := { name := "ytnamdpbcpnnhaaagreatdoor", sum := "83b07b6c296d164f4c0a67e40a6475c1502194fa9d1921d1db67053ff284ff2d", checked := Tryz.checked }
namespace Rows
def none {H : Type} : Left H := { results := [], args := [] }

/- WHAT THE LISTED PACKAGE-LEVEL VARIABLES READ AS WHEN THE CALL BEGINS. Each datum BY PROGRAM (the guide's laid-datum.mjs) off the statement by which the dump's own 'gosem.cut.vars' lays the variable. In a bare row this is a premise. The card (YtnamdpbcpnnhaaaGreatDoorCards.lean) ties it to the program's text. -/
def laid_math_bits_deBruijn32tab {H : Type} : DataW H := .agg [.lit (.int .u8 0), .lit (.int .u8 1), .lit (.int .u8 28), .lit (.int .u8 2), .lit (.int .u8 29), .lit (.int .u8 14), .lit (.int .u8 24), .lit (.int .u8 3), .lit (.int .u8 30), .lit (.int .u8 22), .lit (.int .u8 20), .lit (.int .u8 15), .lit (.int .u8 25), .lit (.int .u8 17), .lit (.int .u8 4), .lit (.int .u8 8), .lit (.int .u8 31), .lit (.int .u8 27), .lit (.int .u8 13), .lit (.int .u8 23), .lit (.int .u8 21), .lit (.int .u8 19), .lit (.int .u8 16), .lit (.int .u8 7), .lit (.int .u8 26), .lit (.int .u8 12), .lit (.int .u8 18), .lit (.int .u8 6), .lit (.int .u8 11), .lit (.int .u8 5), .lit (.int .u8 10), .lit (.int .u8 9)]
def laid_math_bits_deBruijn64tab {H : Type} : DataW H := .agg [.lit (.int .u8 0), .lit (.int .u8 1), .lit (.int .u8 56), .lit (.int .u8 2), .lit (.int .u8 57), .lit (.int .u8 49), .lit (.int .u8 28), .lit (.int .u8 3), .lit (.int .u8 61), .lit (.int .u8 58), .lit (.int .u8 42), .lit (.int .u8 50), .lit (.int .u8 38), .lit (.int .u8 29), .lit (.int .u8 17), .lit (.int .u8 4), .lit (.int .u8 62), .lit (.int .u8 47), .lit (.int .u8 59), .lit (.int .u8 36), .lit (.int .u8 45), .lit (.int .u8 43), .lit (.int .u8 51), .lit (.int .u8 22), .lit (.int .u8 53), .lit (.int .u8 39), .lit (.int .u8 33), .lit (.int .u8 30), .lit (.int .u8 24), .lit (.int .u8 18), .lit (.int .u8 12), .lit (.int .u8 5), .lit (.int .u8 63), .lit (.int .u8 55), .lit (.int .u8 48), .lit (.int .u8 27), .lit (.int .u8 60), .lit (.int .u8 41), .lit (.int .u8 37), .lit (.int .u8 16), .lit (.int .u8 46), .lit (.int .u8 35), .lit (.int .u8 44), .lit (.int .u8 21), .lit (.int .u8 52), .lit (.int .u8 32), .lit (.int .u8 23), .lit (.int .u8 11), .lit (.int .u8 54), .lit (.int .u8 26), .lit (.int .u8 40), .lit (.int .u8 15), .lit (.int .u8 34), .lit (.int .u8 20), .lit (.int .u8 31), .lit (.int .u8 10), .lit (.int .u8 25), .lit (.int .u8 14), .lit (.int .u8 19), .lit (.int .u8 9), .lit (.int .u8 13), .lit (.int .u8 8), .lit (.int .u8 7), .lit (.int .u8 6)]
def laid_internal_strconv_uint64pow10 {H : Type} : DataW H := .agg [.lit (.int .u64 1), .lit (.int .u64 10), .lit (.int .u64 100), .lit (.int .u64 1000), .lit (.int .u64 10000), .lit (.int .u64 100000), .lit (.int .u64 1000000), .lit (.int .u64 10000000), .lit (.int .u64 100000000), .lit (.int .u64 1000000000), .lit (.int .u64 10000000000), .lit (.int .u64 100000000000), .lit (.int .u64 1000000000000), .lit (.int .u64 10000000000000), .lit (.int .u64 100000000000000), .lit (.int .u64 1000000000000000), .lit (.int .u64 10000000000000000), .lit (.int .u64 100000000000000000), .lit (.int .u64 1000000000000000000), .lit (.int .u64 10000000000000000000)]
def laid_emend_pptok_signs {H : Type} : DataW H := .agg [.lit (.string [46, 46, 46]), .lit (.string [60, 60, 61]), .lit (.string [62, 62, 61]), .lit (.string [45, 62]), .lit (.string [43, 43]), .lit (.string [45, 45]), .lit (.string [60, 60]), .lit (.string [62, 62]), .lit (.string [60, 61]), .lit (.string [62, 61]), .lit (.string [61, 61]), .lit (.string [33, 61]), .lit (.string [38, 38]), .lit (.string [124, 124]), .lit (.string [42, 61]), .lit (.string [47, 61]), .lit (.string [37, 61]), .lit (.string [43, 61]), .lit (.string [45, 61]), .lit (.string [38, 61]), .lit (.string [94, 61]), .lit (.string [124, 61]), .lit (.string [35, 35]), .lit (.string [91]), .lit (.string [93]), .lit (.string [40]), .lit (.string [41]), .lit (.string [123]), .lit (.string [125]), .lit (.string [46]), .lit (.string [38]), .lit (.string [42]), .lit (.string [43]), .lit (.string [45]), .lit (.string [126]), .lit (.string [33]), .lit (.string [47]), .lit (.string [37]), .lit (.string [60]), .lit (.string [62]), .lit (.string [94]), .lit (.string [124]), .lit (.string [63]), .lit (.string [58]), .lit (.string [59]), .lit (.string [61]), .lit (.string [44]), .lit (.string [35])]
def laid_emend_parse_keywords {H : Type} : DataW H := .agg [.lit (.string [97, 117, 116, 111]), .lit (.string [98, 114, 101, 97, 107]), .lit (.string [99, 97, 115, 101]), .lit (.string [99, 104, 97, 114]), .lit (.string [99, 111, 110, 115, 116]), .lit (.string [99, 111, 110, 116, 105, 110, 117, 101]), .lit (.string [100, 101, 102, 97, 117, 108, 116]), .lit (.string [100, 111]), .lit (.string [100, 111, 117, 98, 108, 101]), .lit (.string [101, 108, 115, 101]), .lit (.string [101, 110, 117, 109]), .lit (.string [101, 120, 116, 101, 114, 110]), .lit (.string [102, 108, 111, 97, 116]), .lit (.string [102, 111, 114]), .lit (.string [103, 111, 116, 111]), .lit (.string [105, 102]), .lit (.string [105, 110, 108, 105, 110, 101]), .lit (.string [105, 110, 116]), .lit (.string [108, 111, 110, 103]), .lit (.string [114, 101, 103, 105, 115, 116, 101, 114]), .lit (.string [114, 101, 116, 117, 114, 110]), .lit (.string [115, 104, 111, 114, 116]), .lit (.string [115, 105, 103, 110, 101, 100]), .lit (.string [115, 105, 122, 101, 111, 102]), .lit (.string [115, 116, 97, 116, 105, 99]), .lit (.string [115, 116, 114, 117, 99, 116]), .lit (.string [115, 119, 105, 116, 99, 104]), .lit (.string [116, 121, 112, 101, 100, 101, 102]), .lit (.string [117, 110, 105, 111, 110]), .lit (.string [117, 110, 115, 105, 103, 110, 101, 100]), .lit (.string [118, 111, 105, 100]), .lit (.string [118, 111, 108, 97, 116, 105, 108, 101]), .lit (.string [119, 104, 105, 108, 101])]
def laid_emend_parse_marks {H : Type} : DataW H := .agg [.lit (.string [99, 111, 110, 115, 116]), .lit (.string [101, 120, 116, 101, 114, 110]), .lit (.string [105, 110, 108, 105, 110, 101]), .lit (.string [114, 101, 103, 105, 115, 116, 101, 114]), .lit (.string [115, 116, 97, 116, 105, 99]), .lit (.string [97, 117, 116, 111]), .lit (.string [116, 121, 112, 101, 100, 101, 102]), .lit (.string [118, 111, 108, 97, 116, 105, 108, 101])]
def laid_emend_parse_words {H : Type} : DataW H := .agg [.lit (.string [99, 104, 97, 114]), .lit (.string [100, 111, 117, 98, 108, 101]), .lit (.string [102, 108, 111, 97, 116]), .lit (.string [105, 110, 116]), .lit (.string [108, 111, 110, 103]), .lit (.string [115, 104, 111, 114, 116]), .lit (.string [115, 105, 103, 110, 101, 100]), .lit (.string [117, 110, 115, 105, 103, 110, 101, 100]), .lit (.string [118, 111, 105, 100])]

/-- 'emendlaw16.ParseWords': WHATEVER THE INPUT: true; the input reads as it did. -/
def parseWordsSpec : ChangeSpec := { name := "parseWords", fn := fun _ => fun
  | [d1, d2] => { results := [.lit (.bool true)], args := [d1, d2] }
  | _ => none }
def parseWordsRow : OpenClaim := { program := "ytnamdpbcpnnhaaagreatdoor", sum := "83b07b6c296d164f4c0a67e40a6475c1502194fa9d1921d1db67053ff284ff2d", func := "emend/emendlaw16.ParseWords", spec := "parseWords", inPlace := ["internal/bytealg.IndexByteString", "internal/bytealg.IndexString"], unfollowed := true, recurses := true, named := ["internal/bytealg.MaxLen", "emend/pptok.signs", "emend/parse.marks", "emend/parse.words", "emend/parse.keywords", "internal/strconv.uint64pow10", "math/bits.deBruijn32tab", "math/bits.deBruijn64tab"], apart := false, laid := [("math/bits.deBruijn32tab", laid_math_bits_deBruijn32tab), ("math/bits.deBruijn64tab", laid_math_bits_deBruijn64tab), ("internal/strconv.uint64pow10", laid_internal_strconv_uint64pow10), ("emend/pptok.signs", laid_emend_pptok_signs), ("emend/parse.keywords", laid_emend_parse_keywords), ("emend/parse.marks", laid_emend_parse_marks), ("emend/parse.words", laid_emend_parse_words)] }
def ParseWordsSaid : Prop := parseWordsRow.holds Tryz.pinned (OpenSpec.ofChange parseWordsSpec)

/-- ITS FALSE NEIGHBOUR: 'it returns false'. Refute it at one input. -/
def parseWordsWrong : ChangeSpec := { name := "parseWords", fn := fun _ => fun
  | [d1, d2] => { results := [.lit (.bool false)], args := [d1, d2] }
  | _ => none }
def ParseWordsWrongFalsely : Prop := parseWordsRow.holds Tryz.pinned (OpenSpec.ofChange parseWordsWrong)

/-- 'emendlaw16.ParseBlind': WHATEVER THE INPUT: true; the input reads as it did. -/
def parseBlindSpec : ChangeSpec := { name := "parseBlind", fn := fun _ => fun
  | [d] => { results := [.lit (.bool true)], args := [d] }
  | _ => none }
def parseBlindRow : OpenClaim := { program := "ytnamdpbcpnnhaaagreatdoor", sum := "83b07b6c296d164f4c0a67e40a6475c1502194fa9d1921d1db67053ff284ff2d", func := "emend/emendlaw16.ParseBlind", spec := "parseBlind", inPlace := ["internal/bytealg.IndexByteString", "internal/bytealg.IndexString"], unfollowed := true, recurses := true, named := ["internal/bytealg.MaxLen", "emend/pptok.signs", "emend/parse.marks", "emend/parse.words", "emend/parse.keywords", "internal/strconv.uint64pow10", "math/bits.deBruijn32tab", "math/bits.deBruijn64tab"], apart := false, laid := [("math/bits.deBruijn32tab", laid_math_bits_deBruijn32tab), ("math/bits.deBruijn64tab", laid_math_bits_deBruijn64tab), ("internal/strconv.uint64pow10", laid_internal_strconv_uint64pow10), ("emend/pptok.signs", laid_emend_pptok_signs), ("emend/parse.keywords", laid_emend_parse_keywords), ("emend/parse.marks", laid_emend_parse_marks), ("emend/parse.words", laid_emend_parse_words)] }
def ParseBlindSaid : Prop := parseBlindRow.holds Tryz.pinned (OpenSpec.ofChange parseBlindSpec)

/-- ITS FALSE NEIGHBOUR: 'it returns false'. Refute it at one input. -/
def parseBlindWrong : ChangeSpec := { name := "parseBlind", fn := fun _ => fun
  | [d] => { results := [.lit (.bool false)], args := [d] }
  | _ => none }
def ParseBlindWrongFalsely : Prop := parseBlindRow.holds Tryz.pinned (OpenSpec.ofChange parseBlindWrong)

/-- 'emendlaw16.ParseNames': WHATEVER THE INPUT: true; the input reads as it did. -/
def parseNamesSpec : ChangeSpec := { name := "parseNames", fn := fun _ => fun
  | [d1, d2, d3] => { results := [.lit (.bool true)], args := [d1, d2, d3] }
  | _ => none }
def parseNamesRow : OpenClaim := { program := "ytnamdpbcpnnhaaagreatdoor", sum := "83b07b6c296d164f4c0a67e40a6475c1502194fa9d1921d1db67053ff284ff2d", func := "emend/emendlaw16.ParseNames", spec := "parseNames", inPlace := ["internal/bytealg.IndexByteString", "internal/bytealg.IndexString"], unfollowed := true, recurses := true, named := ["internal/bytealg.MaxLen", "emend/pptok.signs", "emend/parse.marks", "emend/parse.words", "emend/parse.keywords", "internal/strconv.uint64pow10", "math/bits.deBruijn32tab", "math/bits.deBruijn64tab"], apart := false, laid := [("math/bits.deBruijn32tab", laid_math_bits_deBruijn32tab), ("math/bits.deBruijn64tab", laid_math_bits_deBruijn64tab), ("internal/strconv.uint64pow10", laid_internal_strconv_uint64pow10), ("emend/pptok.signs", laid_emend_pptok_signs), ("emend/parse.keywords", laid_emend_parse_keywords), ("emend/parse.marks", laid_emend_parse_marks), ("emend/parse.words", laid_emend_parse_words)] }
def ParseNamesSaid : Prop := parseNamesRow.holds Tryz.pinned (OpenSpec.ofChange parseNamesSpec)

/-- ITS FALSE NEIGHBOUR: 'it returns false'. Refute it at one input. -/
def parseNamesWrong : ChangeSpec := { name := "parseNames", fn := fun _ => fun
  | [d1, d2, d3] => { results := [.lit (.bool false)], args := [d1, d2, d3] }
  | _ => none }
def ParseNamesWrongFalsely : Prop := parseNamesRow.holds Tryz.pinned (OpenSpec.ofChange parseNamesWrong)

/-- 'emendlaw16.ParseBoth': WHATEVER THE INPUT: true; the input reads as it did. -/
def parseBothSpec : ChangeSpec := { name := "parseBoth", fn := fun _ => fun
  | [d1, d2] => { results := [.lit (.bool true)], args := [d1, d2] }
  | _ => none }
def parseBothRow : OpenClaim := { program := "ytnamdpbcpnnhaaagreatdoor", sum := "83b07b6c296d164f4c0a67e40a6475c1502194fa9d1921d1db67053ff284ff2d", func := "emend/emendlaw16.ParseBoth", spec := "parseBoth", inPlace := ["internal/bytealg.IndexByteString", "internal/bytealg.IndexString"], unfollowed := true, recurses := true, named := ["internal/bytealg.MaxLen", "emend/pptok.signs", "emend/parse.marks", "emend/parse.words", "emend/parse.keywords", "internal/strconv.uint64pow10", "math/bits.deBruijn32tab", "math/bits.deBruijn64tab"], apart := false, laid := [("math/bits.deBruijn32tab", laid_math_bits_deBruijn32tab), ("math/bits.deBruijn64tab", laid_math_bits_deBruijn64tab), ("internal/strconv.uint64pow10", laid_internal_strconv_uint64pow10), ("emend/pptok.signs", laid_emend_pptok_signs), ("emend/parse.keywords", laid_emend_parse_keywords), ("emend/parse.marks", laid_emend_parse_marks), ("emend/parse.words", laid_emend_parse_words)] }
def ParseBothSaid : Prop := parseBothRow.holds Tryz.pinned (OpenSpec.ofChange parseBothSpec)

/-- ITS FALSE NEIGHBOUR: 'it returns false'. Refute it at one input. -/
def parseBothWrong : ChangeSpec := { name := "parseBoth", fn := fun _ => fun
  | [d1, d2] => { results := [.lit (.bool false)], args := [d1, d2] }
  | _ => none }
def ParseBothWrongFalsely : Prop := parseBothRow.holds Tryz.pinned (OpenSpec.ofChange parseBothWrong)

/-- 'emendlaw16.ParseBrackets': WHATEVER THE INPUT: true; the input reads as it did. -/
def parseBracketsSpec : ChangeSpec := { name := "parseBrackets", fn := fun _ => fun
  | [d] => { results := [.lit (.bool true)], args := [d] }
  | _ => none }
def parseBracketsRow : OpenClaim := { program := "ytnamdpbcpnnhaaagreatdoor", sum := "83b07b6c296d164f4c0a67e40a6475c1502194fa9d1921d1db67053ff284ff2d", func := "emend/emendlaw16.ParseBrackets", spec := "parseBrackets", inPlace := ["internal/bytealg.IndexByteString", "internal/bytealg.IndexString"], unfollowed := true, recurses := true, named := ["internal/bytealg.MaxLen", "emend/pptok.signs", "emend/parse.marks", "emend/parse.words", "emend/parse.keywords", "internal/strconv.uint64pow10", "math/bits.deBruijn32tab", "math/bits.deBruijn64tab"], apart := false, laid := [("math/bits.deBruijn32tab", laid_math_bits_deBruijn32tab), ("math/bits.deBruijn64tab", laid_math_bits_deBruijn64tab), ("internal/strconv.uint64pow10", laid_internal_strconv_uint64pow10), ("emend/pptok.signs", laid_emend_pptok_signs), ("emend/parse.keywords", laid_emend_parse_keywords), ("emend/parse.marks", laid_emend_parse_marks), ("emend/parse.words", laid_emend_parse_words)] }
def ParseBracketsSaid : Prop := parseBracketsRow.holds Tryz.pinned (OpenSpec.ofChange parseBracketsSpec)

/-- ITS FALSE NEIGHBOUR: 'it returns false'. Refute it at one input. -/
def parseBracketsWrong : ChangeSpec := { name := "parseBrackets", fn := fun _ => fun
  | [d] => { results := [.lit (.bool false)], args := [d] }
  | _ => none }
def ParseBracketsWrongFalsely : Prop := parseBracketsRow.holds Tryz.pinned (OpenSpec.ofChange parseBracketsWrong)

/-- 'emendlaw16.ParseWhole': WHATEVER THE INPUT: true; the input reads as it did. -/
def parseWholeSpec : ChangeSpec := { name := "parseWhole", fn := fun _ => fun
  | [d] => { results := [.lit (.bool true)], args := [d] }
  | _ => none }
def parseWholeRow : OpenClaim := { program := "ytnamdpbcpnnhaaagreatdoor", sum := "83b07b6c296d164f4c0a67e40a6475c1502194fa9d1921d1db67053ff284ff2d", func := "emend/emendlaw16.ParseWhole", spec := "parseWhole", inPlace := ["internal/bytealg.IndexByteString", "internal/bytealg.IndexString"], unfollowed := true, recurses := true, named := ["internal/bytealg.MaxLen", "emend/pptok.signs", "emend/parse.marks", "emend/parse.words", "emend/parse.keywords", "internal/strconv.uint64pow10", "math/bits.deBruijn32tab", "math/bits.deBruijn64tab"], apart := false, laid := [("math/bits.deBruijn32tab", laid_math_bits_deBruijn32tab), ("math/bits.deBruijn64tab", laid_math_bits_deBruijn64tab), ("internal/strconv.uint64pow10", laid_internal_strconv_uint64pow10), ("emend/pptok.signs", laid_emend_pptok_signs), ("emend/parse.keywords", laid_emend_parse_keywords), ("emend/parse.marks", laid_emend_parse_marks), ("emend/parse.words", laid_emend_parse_words)] }
def ParseWholeSaid : Prop := parseWholeRow.holds Tryz.pinned (OpenSpec.ofChange parseWholeSpec)

/-- ITS FALSE NEIGHBOUR: 'it returns false'. Refute it at one input. -/
def parseWholeWrong : ChangeSpec := { name := "parseWhole", fn := fun _ => fun
  | [d] => { results := [.lit (.bool false)], args := [d] }
  | _ => none }
def ParseWholeWrongFalsely : Prop := parseWholeRow.holds Tryz.pinned (OpenSpec.ofChange parseWholeWrong)

/-- 'emendlaw18.ScopeFirst': WHATEVER THE INPUT: true; the input reads as it did. -/
def scopeFirstSpec : ChangeSpec := { name := "scopeFirst", fn := fun _ => fun
  | [d] => { results := [.lit (.bool true)], args := [d] }
  | _ => none }
def scopeFirstRow : OpenClaim := { program := "ytnamdpbcpnnhaaagreatdoor", sum := "83b07b6c296d164f4c0a67e40a6475c1502194fa9d1921d1db67053ff284ff2d", func := "emend/emendlaw18.ScopeFirst", spec := "scopeFirst", inPlace := ["internal/bytealg.IndexByteString", "internal/bytealg.IndexString"], unfollowed := true, recurses := true, named := ["internal/bytealg.MaxLen", "emend/pptok.signs", "emend/parse.marks", "emend/parse.words", "emend/parse.keywords"], apart := false, laid := [("emend/pptok.signs", laid_emend_pptok_signs), ("emend/parse.keywords", laid_emend_parse_keywords), ("emend/parse.marks", laid_emend_parse_marks), ("emend/parse.words", laid_emend_parse_words)] }
def ScopeFirstSaid : Prop := scopeFirstRow.holds Tryz.pinned (OpenSpec.ofChange scopeFirstSpec)

/-- ITS FALSE NEIGHBOUR: 'it returns false'. Refute it at one input. -/
def scopeFirstWrong : ChangeSpec := { name := "scopeFirst", fn := fun _ => fun
  | [d] => { results := [.lit (.bool false)], args := [d] }
  | _ => none }
def ScopeFirstWrongFalsely : Prop := scopeFirstRow.holds Tryz.pinned (OpenSpec.ofChange scopeFirstWrong)

/-- 'emendlaw18.ScopeBoth': WHATEVER THE INPUT: true; the input reads as it did. -/
def scopeBothSpec : ChangeSpec := { name := "scopeBoth", fn := fun _ => fun
  | [d1, d2] => { results := [.lit (.bool true)], args := [d1, d2] }
  | _ => none }
def scopeBothRow : OpenClaim := { program := "ytnamdpbcpnnhaaagreatdoor", sum := "83b07b6c296d164f4c0a67e40a6475c1502194fa9d1921d1db67053ff284ff2d", func := "emend/emendlaw18.ScopeBoth", spec := "scopeBoth", inPlace := ["internal/bytealg.IndexByteString", "internal/bytealg.IndexString"], unfollowed := true, recurses := true, named := ["internal/bytealg.MaxLen", "emend/pptok.signs", "emend/parse.marks", "emend/parse.words", "emend/parse.keywords"], apart := false, laid := [("emend/pptok.signs", laid_emend_pptok_signs), ("emend/parse.keywords", laid_emend_parse_keywords), ("emend/parse.marks", laid_emend_parse_marks), ("emend/parse.words", laid_emend_parse_words)] }
def ScopeBothSaid : Prop := scopeBothRow.holds Tryz.pinned (OpenSpec.ofChange scopeBothSpec)

/-- ITS FALSE NEIGHBOUR: 'it returns false'. Refute it at one input. -/
def scopeBothWrong : ChangeSpec := { name := "scopeBoth", fn := fun _ => fun
  | [d1, d2] => { results := [.lit (.bool false)], args := [d1, d2] }
  | _ => none }
def ScopeBothWrongFalsely : Prop := scopeBothRow.holds Tryz.pinned (OpenSpec.ofChange scopeBothWrong)

/-- 'emendlaw18.ScopeGroups': WHATEVER THE INPUT: true; the input reads as it did. -/
def scopeGroupsSpec : ChangeSpec := { name := "scopeGroups", fn := fun _ => fun
  | [d1, d2] => { results := [.lit (.bool true)], args := [d1, d2] }
  | _ => none }
def scopeGroupsRow : OpenClaim := { program := "ytnamdpbcpnnhaaagreatdoor", sum := "83b07b6c296d164f4c0a67e40a6475c1502194fa9d1921d1db67053ff284ff2d", func := "emend/emendlaw18.ScopeGroups", spec := "scopeGroups", inPlace := ["internal/bytealg.IndexByteString", "internal/bytealg.IndexString"], unfollowed := true, recurses := true, named := ["internal/bytealg.MaxLen", "emend/pptok.signs", "emend/parse.marks", "emend/parse.words", "emend/parse.keywords"], apart := false, laid := [("emend/pptok.signs", laid_emend_pptok_signs), ("emend/parse.keywords", laid_emend_parse_keywords), ("emend/parse.marks", laid_emend_parse_marks), ("emend/parse.words", laid_emend_parse_words)] }
def ScopeGroupsSaid : Prop := scopeGroupsRow.holds Tryz.pinned (OpenSpec.ofChange scopeGroupsSpec)

/-- ITS FALSE NEIGHBOUR: 'it returns false'. Refute it at one input. -/
def scopeGroupsWrong : ChangeSpec := { name := "scopeGroups", fn := fun _ => fun
  | [d1, d2] => { results := [.lit (.bool false)], args := [d1, d2] }
  | _ => none }
def ScopeGroupsWrongFalsely : Prop := scopeGroupsRow.holds Tryz.pinned (OpenSpec.ofChange scopeGroupsWrong)

/-- 'emendlaw18.ScopeRenamed': WHATEVER THE INPUT: true; the input reads as it did. -/
def scopeRenamedSpec : ChangeSpec := { name := "scopeRenamed", fn := fun _ => fun
  | [d1, d2, d3] => { results := [.lit (.bool true)], args := [d1, d2, d3] }
  | _ => none }
def scopeRenamedRow : OpenClaim := { program := "ytnamdpbcpnnhaaagreatdoor", sum := "83b07b6c296d164f4c0a67e40a6475c1502194fa9d1921d1db67053ff284ff2d", func := "emend/emendlaw18.ScopeRenamed", spec := "scopeRenamed", inPlace := ["internal/bytealg.IndexByteString", "internal/bytealg.IndexString"], unfollowed := true, recurses := true, named := ["internal/bytealg.MaxLen", "emend/pptok.signs", "emend/parse.marks", "emend/parse.words", "emend/parse.keywords"], apart := false, laid := [("emend/pptok.signs", laid_emend_pptok_signs), ("emend/parse.keywords", laid_emend_parse_keywords), ("emend/parse.marks", laid_emend_parse_marks), ("emend/parse.words", laid_emend_parse_words)] }
def ScopeRenamedSaid : Prop := scopeRenamedRow.holds Tryz.pinned (OpenSpec.ofChange scopeRenamedSpec)

/-- ITS FALSE NEIGHBOUR: 'it returns false'. Refute it at one input. -/
def scopeRenamedWrong : ChangeSpec := { name := "scopeRenamed", fn := fun _ => fun
  | [d1, d2, d3] => { results := [.lit (.bool false)], args := [d1, d2, d3] }
  | _ => none }
def ScopeRenamedWrongFalsely : Prop := scopeRenamedRow.holds Tryz.pinned (OpenSpec.ofChange scopeRenamedWrong)

/-- 'emendlaw18.ScopeUses': WHATEVER THE INPUT: true; the input reads as it did. -/
def scopeUsesSpec : ChangeSpec := { name := "scopeUses", fn := fun _ => fun
  | [d1, d2, d3] => { results := [.lit (.bool true)], args := [d1, d2, d3] }
  | _ => none }
def scopeUsesRow : OpenClaim := { program := "ytnamdpbcpnnhaaagreatdoor", sum := "83b07b6c296d164f4c0a67e40a6475c1502194fa9d1921d1db67053ff284ff2d", func := "emend/emendlaw18.ScopeUses", spec := "scopeUses", inPlace := ["internal/bytealg.IndexByteString", "internal/bytealg.IndexString"], unfollowed := true, recurses := true, named := ["internal/bytealg.MaxLen", "emend/pptok.signs", "emend/parse.marks", "emend/parse.words", "emend/parse.keywords"], apart := false, laid := [("emend/pptok.signs", laid_emend_pptok_signs), ("emend/parse.keywords", laid_emend_parse_keywords), ("emend/parse.marks", laid_emend_parse_marks), ("emend/parse.words", laid_emend_parse_words)] }
def ScopeUsesSaid : Prop := scopeUsesRow.holds Tryz.pinned (OpenSpec.ofChange scopeUsesSpec)

/-- ITS FALSE NEIGHBOUR: 'it returns false'. Refute it at one input. -/
def scopeUsesWrong : ChangeSpec := { name := "scopeUses", fn := fun _ => fun
  | [d1, d2, d3] => { results := [.lit (.bool false)], args := [d1, d2, d3] }
  | _ => none }
def ScopeUsesWrongFalsely : Prop := scopeUsesRow.holds Tryz.pinned (OpenSpec.ofChange scopeUsesWrong)

/- THE SECOND FORM. 'bulk': how many values and letters a reading holds, each counted each time it is reached (what is shared counts as often as it is met; a slice's spare places count too). A statement '..UptoSaid' is the law's where the arguments, and the package variables that the reading takes, are together of bulk at most 1048576: NARROWER than '..Said'. Prove '..Said' where nothing that the law and all that it calls make is longer than what came in: it says more and counts as full. Else prove '..UptoSaid'. A law counts once. -/
mutual
def uptoBulk {H : Type} : DataW H → Nat
  | .lit (.string bytes) => bytes.length + 1
  | .lit _ => 1
  | .nil => 1
  | .ptr d => uptoBulk d + 1
  | .slice elems spare => uptoBulkAll elems + uptoBulkAll spare + 1
  | .agg parts => uptoBulkAll parts + 1
  | .iface _ d => uptoBulk d + 1
  | .map entries => uptoBulkEntries entries + 1
  | .held _ => 1
def uptoBulkAll {H : Type} : List (DataW H) → Nat
  | [] => 0
  | d :: r => uptoBulk d + uptoBulkAll r
def uptoBulkEntries {H : Type} : List (Lit × DataW H) → Nat
  | [] => 0
  | x :: r => uptoBulkEntry x + uptoBulkEntries r
def uptoBulkEntry {H : Type} : Lit × DataW H → Nat
  | (.string bytes, d) => bytes.length + uptoBulk d + 1
  | (_, d) => uptoBulk d + 1
 end
def uptoSmall : (H : Type) → List (DataW H) → Bool := fun _ ds => decide (uptoBulkAll ds ≤ 1048576)
def OpenSpec.upto (s : _root_.Go.ChangeSpec) : _root_.Go.OpenSpec := { _root_.Go.OpenSpec.ofChange s with cond := some uptoSmall }

/-- 'emendlaw16.ParseWords', WHERE WHAT IT READS IS OF BULK AT MOST 1048576: true; the input reads as it did. -/
def parseWordsUptoRow : OpenClaim := { program := "ytnamdpbcpnnhaaagreatdoor", sum := "83b07b6c296d164f4c0a67e40a6475c1502194fa9d1921d1db67053ff284ff2d", func := "emend/emendlaw16.ParseWords", spec := "parseWords", inPlace := ["internal/bytealg.IndexByteString", "internal/bytealg.IndexString"], unfollowed := true, recurses := true, named := ["internal/bytealg.MaxLen", "emend/pptok.signs", "emend/parse.marks", "emend/parse.words", "emend/parse.keywords", "internal/strconv.uint64pow10", "math/bits.deBruijn32tab", "math/bits.deBruijn64tab"], apart := false, laid := [("math/bits.deBruijn32tab", laid_math_bits_deBruijn32tab), ("math/bits.deBruijn64tab", laid_math_bits_deBruijn64tab), ("internal/strconv.uint64pow10", laid_internal_strconv_uint64pow10), ("emend/pptok.signs", laid_emend_pptok_signs), ("emend/parse.keywords", laid_emend_parse_keywords), ("emend/parse.marks", laid_emend_parse_marks), ("emend/parse.words", laid_emend_parse_words)], narrowed := true }
def ParseWordsUptoSaid : Prop := parseWordsUptoRow.holds Tryz.pinned (OpenSpec.upto parseWordsSpec)

/-- 'emendlaw16.ParseBlind', WHERE WHAT IT READS IS OF BULK AT MOST 1048576: true; the input reads as it did. -/
def parseBlindUptoRow : OpenClaim := { program := "ytnamdpbcpnnhaaagreatdoor", sum := "83b07b6c296d164f4c0a67e40a6475c1502194fa9d1921d1db67053ff284ff2d", func := "emend/emendlaw16.ParseBlind", spec := "parseBlind", inPlace := ["internal/bytealg.IndexByteString", "internal/bytealg.IndexString"], unfollowed := true, recurses := true, named := ["internal/bytealg.MaxLen", "emend/pptok.signs", "emend/parse.marks", "emend/parse.words", "emend/parse.keywords", "internal/strconv.uint64pow10", "math/bits.deBruijn32tab", "math/bits.deBruijn64tab"], apart := false, laid := [("math/bits.deBruijn32tab", laid_math_bits_deBruijn32tab), ("math/bits.deBruijn64tab", laid_math_bits_deBruijn64tab), ("internal/strconv.uint64pow10", laid_internal_strconv_uint64pow10), ("emend/pptok.signs", laid_emend_pptok_signs), ("emend/parse.keywords", laid_emend_parse_keywords), ("emend/parse.marks", laid_emend_parse_marks), ("emend/parse.words", laid_emend_parse_words)], narrowed := true }
def ParseBlindUptoSaid : Prop := parseBlindUptoRow.holds Tryz.pinned (OpenSpec.upto parseBlindSpec)

/-- 'emendlaw16.ParseNames', WHERE WHAT IT READS IS OF BULK AT MOST 1048576: true; the input reads as it did. -/
def parseNamesUptoRow : OpenClaim := { program := "ytnamdpbcpnnhaaagreatdoor", sum := "83b07b6c296d164f4c0a67e40a6475c1502194fa9d1921d1db67053ff284ff2d", func := "emend/emendlaw16.ParseNames", spec := "parseNames", inPlace := ["internal/bytealg.IndexByteString", "internal/bytealg.IndexString"], unfollowed := true, recurses := true, named := ["internal/bytealg.MaxLen", "emend/pptok.signs", "emend/parse.marks", "emend/parse.words", "emend/parse.keywords", "internal/strconv.uint64pow10", "math/bits.deBruijn32tab", "math/bits.deBruijn64tab"], apart := false, laid := [("math/bits.deBruijn32tab", laid_math_bits_deBruijn32tab), ("math/bits.deBruijn64tab", laid_math_bits_deBruijn64tab), ("internal/strconv.uint64pow10", laid_internal_strconv_uint64pow10), ("emend/pptok.signs", laid_emend_pptok_signs), ("emend/parse.keywords", laid_emend_parse_keywords), ("emend/parse.marks", laid_emend_parse_marks), ("emend/parse.words", laid_emend_parse_words)], narrowed := true }
def ParseNamesUptoSaid : Prop := parseNamesUptoRow.holds Tryz.pinned (OpenSpec.upto parseNamesSpec)

/-- 'emendlaw16.ParseBoth', WHERE WHAT IT READS IS OF BULK AT MOST 1048576: true; the input reads as it did. -/
def parseBothUptoRow : OpenClaim := { program := "ytnamdpbcpnnhaaagreatdoor", sum := "83b07b6c296d164f4c0a67e40a6475c1502194fa9d1921d1db67053ff284ff2d", func := "emend/emendlaw16.ParseBoth", spec := "parseBoth", inPlace := ["internal/bytealg.IndexByteString", "internal/bytealg.IndexString"], unfollowed := true, recurses := true, named := ["internal/bytealg.MaxLen", "emend/pptok.signs", "emend/parse.marks", "emend/parse.words", "emend/parse.keywords", "internal/strconv.uint64pow10", "math/bits.deBruijn32tab", "math/bits.deBruijn64tab"], apart := false, laid := [("math/bits.deBruijn32tab", laid_math_bits_deBruijn32tab), ("math/bits.deBruijn64tab", laid_math_bits_deBruijn64tab), ("internal/strconv.uint64pow10", laid_internal_strconv_uint64pow10), ("emend/pptok.signs", laid_emend_pptok_signs), ("emend/parse.keywords", laid_emend_parse_keywords), ("emend/parse.marks", laid_emend_parse_marks), ("emend/parse.words", laid_emend_parse_words)], narrowed := true }
def ParseBothUptoSaid : Prop := parseBothUptoRow.holds Tryz.pinned (OpenSpec.upto parseBothSpec)

/-- 'emendlaw16.ParseBrackets', WHERE WHAT IT READS IS OF BULK AT MOST 1048576: true; the input reads as it did. -/
def parseBracketsUptoRow : OpenClaim := { program := "ytnamdpbcpnnhaaagreatdoor", sum := "83b07b6c296d164f4c0a67e40a6475c1502194fa9d1921d1db67053ff284ff2d", func := "emend/emendlaw16.ParseBrackets", spec := "parseBrackets", inPlace := ["internal/bytealg.IndexByteString", "internal/bytealg.IndexString"], unfollowed := true, recurses := true, named := ["internal/bytealg.MaxLen", "emend/pptok.signs", "emend/parse.marks", "emend/parse.words", "emend/parse.keywords", "internal/strconv.uint64pow10", "math/bits.deBruijn32tab", "math/bits.deBruijn64tab"], apart := false, laid := [("math/bits.deBruijn32tab", laid_math_bits_deBruijn32tab), ("math/bits.deBruijn64tab", laid_math_bits_deBruijn64tab), ("internal/strconv.uint64pow10", laid_internal_strconv_uint64pow10), ("emend/pptok.signs", laid_emend_pptok_signs), ("emend/parse.keywords", laid_emend_parse_keywords), ("emend/parse.marks", laid_emend_parse_marks), ("emend/parse.words", laid_emend_parse_words)], narrowed := true }
def ParseBracketsUptoSaid : Prop := parseBracketsUptoRow.holds Tryz.pinned (OpenSpec.upto parseBracketsSpec)

/-- 'emendlaw16.ParseWhole', WHERE WHAT IT READS IS OF BULK AT MOST 1048576: true; the input reads as it did. -/
def parseWholeUptoRow : OpenClaim := { program := "ytnamdpbcpnnhaaagreatdoor", sum := "83b07b6c296d164f4c0a67e40a6475c1502194fa9d1921d1db67053ff284ff2d", func := "emend/emendlaw16.ParseWhole", spec := "parseWhole", inPlace := ["internal/bytealg.IndexByteString", "internal/bytealg.IndexString"], unfollowed := true, recurses := true, named := ["internal/bytealg.MaxLen", "emend/pptok.signs", "emend/parse.marks", "emend/parse.words", "emend/parse.keywords", "internal/strconv.uint64pow10", "math/bits.deBruijn32tab", "math/bits.deBruijn64tab"], apart := false, laid := [("math/bits.deBruijn32tab", laid_math_bits_deBruijn32tab), ("math/bits.deBruijn64tab", laid_math_bits_deBruijn64tab), ("internal/strconv.uint64pow10", laid_internal_strconv_uint64pow10), ("emend/pptok.signs", laid_emend_pptok_signs), ("emend/parse.keywords", laid_emend_parse_keywords), ("emend/parse.marks", laid_emend_parse_marks), ("emend/parse.words", laid_emend_parse_words)], narrowed := true }
def ParseWholeUptoSaid : Prop := parseWholeUptoRow.holds Tryz.pinned (OpenSpec.upto parseWholeSpec)

/-- 'emendlaw18.ScopeFirst', WHERE WHAT IT READS IS OF BULK AT MOST 1048576: true; the input reads as it did. -/
def scopeFirstUptoRow : OpenClaim := { program := "ytnamdpbcpnnhaaagreatdoor", sum := "83b07b6c296d164f4c0a67e40a6475c1502194fa9d1921d1db67053ff284ff2d", func := "emend/emendlaw18.ScopeFirst", spec := "scopeFirst", inPlace := ["internal/bytealg.IndexByteString", "internal/bytealg.IndexString"], unfollowed := true, recurses := true, named := ["internal/bytealg.MaxLen", "emend/pptok.signs", "emend/parse.marks", "emend/parse.words", "emend/parse.keywords"], apart := false, laid := [("emend/pptok.signs", laid_emend_pptok_signs), ("emend/parse.keywords", laid_emend_parse_keywords), ("emend/parse.marks", laid_emend_parse_marks), ("emend/parse.words", laid_emend_parse_words)], narrowed := true }
def ScopeFirstUptoSaid : Prop := scopeFirstUptoRow.holds Tryz.pinned (OpenSpec.upto scopeFirstSpec)

/-- 'emendlaw18.ScopeBoth', WHERE WHAT IT READS IS OF BULK AT MOST 1048576: true; the input reads as it did. -/
def scopeBothUptoRow : OpenClaim := { program := "ytnamdpbcpnnhaaagreatdoor", sum := "83b07b6c296d164f4c0a67e40a6475c1502194fa9d1921d1db67053ff284ff2d", func := "emend/emendlaw18.ScopeBoth", spec := "scopeBoth", inPlace := ["internal/bytealg.IndexByteString", "internal/bytealg.IndexString"], unfollowed := true, recurses := true, named := ["internal/bytealg.MaxLen", "emend/pptok.signs", "emend/parse.marks", "emend/parse.words", "emend/parse.keywords"], apart := false, laid := [("emend/pptok.signs", laid_emend_pptok_signs), ("emend/parse.keywords", laid_emend_parse_keywords), ("emend/parse.marks", laid_emend_parse_marks), ("emend/parse.words", laid_emend_parse_words)], narrowed := true }
def ScopeBothUptoSaid : Prop := scopeBothUptoRow.holds Tryz.pinned (OpenSpec.upto scopeBothSpec)

/-- 'emendlaw18.ScopeGroups', WHERE WHAT IT READS IS OF BULK AT MOST 1048576: true; the input reads as it did. -/
def scopeGroupsUptoRow : OpenClaim := { program := "ytnamdpbcpnnhaaagreatdoor", sum := "83b07b6c296d164f4c0a67e40a6475c1502194fa9d1921d1db67053ff284ff2d", func := "emend/emendlaw18.ScopeGroups", spec := "scopeGroups", inPlace := ["internal/bytealg.IndexByteString", "internal/bytealg.IndexString"], unfollowed := true, recurses := true, named := ["internal/bytealg.MaxLen", "emend/pptok.signs", "emend/parse.marks", "emend/parse.words", "emend/parse.keywords"], apart := false, laid := [("emend/pptok.signs", laid_emend_pptok_signs), ("emend/parse.keywords", laid_emend_parse_keywords), ("emend/parse.marks", laid_emend_parse_marks), ("emend/parse.words", laid_emend_parse_words)], narrowed := true }
def ScopeGroupsUptoSaid : Prop := scopeGroupsUptoRow.holds Tryz.pinned (OpenSpec.upto scopeGroupsSpec)

/-- 'emendlaw18.ScopeRenamed', WHERE WHAT IT READS IS OF BULK AT MOST 1048576: true; the input reads as it did. -/
def scopeRenamedUptoRow : OpenClaim := { program := "ytnamdpbcpnnhaaagreatdoor", sum := "83b07b6c296d164f4c0a67e40a6475c1502194fa9d1921d1db67053ff284ff2d", func := "emend/emendlaw18.ScopeRenamed", spec := "scopeRenamed", inPlace := ["internal/bytealg.IndexByteString", "internal/bytealg.IndexString"], unfollowed := true, recurses := true, named := ["internal/bytealg.MaxLen", "emend/pptok.signs", "emend/parse.marks", "emend/parse.words", "emend/parse.keywords"], apart := false, laid := [("emend/pptok.signs", laid_emend_pptok_signs), ("emend/parse.keywords", laid_emend_parse_keywords), ("emend/parse.marks", laid_emend_parse_marks), ("emend/parse.words", laid_emend_parse_words)], narrowed := true }
def ScopeRenamedUptoSaid : Prop := scopeRenamedUptoRow.holds Tryz.pinned (OpenSpec.upto scopeRenamedSpec)

/-- 'emendlaw18.ScopeUses', WHERE WHAT IT READS IS OF BULK AT MOST 1048576: true; the input reads as it did. -/
def scopeUsesUptoRow : OpenClaim := { program := "ytnamdpbcpnnhaaagreatdoor", sum := "83b07b6c296d164f4c0a67e40a6475c1502194fa9d1921d1db67053ff284ff2d", func := "emend/emendlaw18.ScopeUses", spec := "scopeUses", inPlace := ["internal/bytealg.IndexByteString", "internal/bytealg.IndexString"], unfollowed := true, recurses := true, named := ["internal/bytealg.MaxLen", "emend/pptok.signs", "emend/parse.marks", "emend/parse.words", "emend/parse.keywords"], apart := false, laid := [("emend/pptok.signs", laid_emend_pptok_signs), ("emend/parse.keywords", laid_emend_parse_keywords), ("emend/parse.marks", laid_emend_parse_marks), ("emend/parse.words", laid_emend_parse_words)], narrowed := true }
def ScopeUsesUptoSaid : Prop := scopeUsesUptoRow.holds Tryz.pinned (OpenSpec.upto scopeUsesSpec)

end Rows
end Go.Proofs.YtnamdpbcpnnhaaaGreatDoor
