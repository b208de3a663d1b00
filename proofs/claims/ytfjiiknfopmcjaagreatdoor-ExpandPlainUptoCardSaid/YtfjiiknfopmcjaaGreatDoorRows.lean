/-
  NARROWER THAN 'FOR EVERY INPUT', by the rows' own cells (each row's printed sentence says how): ExpandNone: laid · ExpandPlain: laid · ExpandOrder: laid · ExpandSelf: laid.
  DERIVED. THE GIVEN ROWS OF THIS SEAT. 4 by the template 'for every input the law returns true; each argument reads behind the call as it read before'; 0 by the template 'total and deterministic' (their statements: YtfjiiknfopmcjaaGreatDoorTotals.lean).
  GIVEN WITH THE SEED: the statements are not yours to turn. If you find one false, say at which input.
  Laid BY PROGRAM, IN A SANDBOX (cutbox-rows.mjs): the forced cells as the released guide's own fill.sh prints them over the translation 48ed373124a54ad2… (all of the seat's roots in one cut). By AI agents, Wed Nov 11 2026. No macro, syntax, notation, axiom, sorry.
-/
import Derived.Test.YtfjiiknfopmcjaaGreatDoorChecked
import GoSem.PinnedTables
import GoSem.Claim
import GoSem.ClaimJoined
import GoSem.ClaimMapViews
import Derived.JoinedTies
import Derived.KernelRfl
namespace Go.Proofs.YtfjiiknfopmcjaaGreatDoor
/- THE CELL 'sum', in the pinned program and in every row, IS THE sha256 OF THE DUMP (.gsa) THAT YtfjiiknfopmcjaaGreatDoorProg.lean LOADS. Nothing in Lean hashes anything: it is a label: what it is worth is what the hold of that sum in a sandbox is worth. -/
noncomputable def Tryz.pinned : Pinned := { name := "ytfjiiknfopmcjaagreatdoor", sum := "48ed373124a54ad26782847fc48406a3fe852fb2e3b52aef5a0844c0034bd6e2", checked := Tryz.checked }
namespace Rows
def none {H : Type} : Left H := { results := [], args := [] }

/- WHAT THE LISTED PACKAGE-LEVEL VARIABLES READ AS WHEN THE CALL BEGINS. Each datum BY PROGRAM (the guide's laid-datum.mjs) off the statement by which the dump's own 'gosem.cut.vars' lays the variable. In a bare row this is a premise. The card (YtfjiiknfopmcjaaGreatDoorCards.lean) ties it to the program's text. -/
def laid_unicode_utf8_acceptRanges {H : Type} : DataW H := .agg [.agg [.lit (.int .u8 128), .lit (.int .u8 191)], .agg [.lit (.int .u8 160), .lit (.int .u8 191)], .agg [.lit (.int .u8 128), .lit (.int .u8 159)], .agg [.lit (.int .u8 144), .lit (.int .u8 191)], .agg [.lit (.int .u8 128), .lit (.int .u8 143)], .agg [.lit (.int .u8 0), .lit (.int .u8 0)], .agg [.lit (.int .u8 0), .lit (.int .u8 0)], .agg [.lit (.int .u8 0), .lit (.int .u8 0)], .agg [.lit (.int .u8 0), .lit (.int .u8 0)], .agg [.lit (.int .u8 0), .lit (.int .u8 0)], .agg [.lit (.int .u8 0), .lit (.int .u8 0)], .agg [.lit (.int .u8 0), .lit (.int .u8 0)], .agg [.lit (.int .u8 0), .lit (.int .u8 0)], .agg [.lit (.int .u8 0), .lit (.int .u8 0)], .agg [.lit (.int .u8 0), .lit (.int .u8 0)], .agg [.lit (.int .u8 0), .lit (.int .u8 0)]]
def laid_emend_pptok_signs {H : Type} : DataW H := .agg [.lit (.string [46, 46, 46]), .lit (.string [60, 60, 61]), .lit (.string [62, 62, 61]), .lit (.string [45, 62]), .lit (.string [43, 43]), .lit (.string [45, 45]), .lit (.string [60, 60]), .lit (.string [62, 62]), .lit (.string [60, 61]), .lit (.string [62, 61]), .lit (.string [61, 61]), .lit (.string [33, 61]), .lit (.string [38, 38]), .lit (.string [124, 124]), .lit (.string [42, 61]), .lit (.string [47, 61]), .lit (.string [37, 61]), .lit (.string [43, 61]), .lit (.string [45, 61]), .lit (.string [38, 61]), .lit (.string [94, 61]), .lit (.string [124, 61]), .lit (.string [35, 35]), .lit (.string [91]), .lit (.string [93]), .lit (.string [40]), .lit (.string [41]), .lit (.string [123]), .lit (.string [125]), .lit (.string [46]), .lit (.string [38]), .lit (.string [42]), .lit (.string [43]), .lit (.string [45]), .lit (.string [126]), .lit (.string [33]), .lit (.string [47]), .lit (.string [37]), .lit (.string [60]), .lit (.string [62]), .lit (.string [94]), .lit (.string [124]), .lit (.string [63]), .lit (.string [58]), .lit (.string [59]), .lit (.string [61]), .lit (.string [44]), .lit (.string [35])]
/-- One of Go's own tables, pinned by name: the form's constant. -/
def laid_unicode_utf8_first : DataW Unit := Go.Pinned.utf8First

/-- 'emendlaw08.ExpandNone': WHATEVER THE INPUT: true; the input reads as it did. -/
def expandNoneSpec : ChangeSpec := { name := "expandNone", fn := fun _ => fun
  | [d1, d2] => { results := [.lit (.bool true)], args := [d1, d2] }
  | _ => none }
def expandNoneRow : OpenClaim := { program := "ytfjiiknfopmcjaagreatdoor", sum := "48ed373124a54ad26782847fc48406a3fe852fb2e3b52aef5a0844c0034bd6e2", func := "emend/emendlaw08.ExpandNone", spec := "expandNone", inPlace := ["internal/bytealg.IndexByteString", "internal/bytealg.IndexString", "internal/abi.NoEscape", "internal/bytealg.CountString", "internal/bytealg.MakeNoZero"], unfollowed := true, recurses := true, named := ["internal/bytealg.MaxLen", "emend/pptok.signs", "unicode/utf8.first", "unicode/utf8.acceptRanges"], apart := false, laid := [("unicode/utf8.acceptRanges", laid_unicode_utf8_acceptRanges), ("emend/pptok.signs", laid_emend_pptok_signs), ("unicode/utf8.first", laid_unicode_utf8_first)] }
def ExpandNoneSaid : Prop := expandNoneRow.holds Tryz.pinned (OpenSpec.ofChange expandNoneSpec)

/-- ITS FALSE NEIGHBOUR: 'it returns false'. Refute it at one input. -/
def expandNoneWrong : ChangeSpec := { name := "expandNone", fn := fun _ => fun
  | [d1, d2] => { results := [.lit (.bool false)], args := [d1, d2] }
  | _ => none }
def ExpandNoneWrongFalsely : Prop := expandNoneRow.holds Tryz.pinned (OpenSpec.ofChange expandNoneWrong)

/-- 'emendlaw08.ExpandPlain': WHATEVER THE INPUT: true; the input reads as it did. -/
def expandPlainSpec : ChangeSpec := { name := "expandPlain", fn := fun _ => fun
  | [d1, d2, d3] => { results := [.lit (.bool true)], args := [d1, d2, d3] }
  | _ => none }
def expandPlainRow : OpenClaim := { program := "ytfjiiknfopmcjaagreatdoor", sum := "48ed373124a54ad26782847fc48406a3fe852fb2e3b52aef5a0844c0034bd6e2", func := "emend/emendlaw08.ExpandPlain", spec := "expandPlain", inPlace := ["internal/bytealg.IndexByteString", "internal/bytealg.IndexString", "internal/abi.NoEscape", "internal/bytealg.CountString", "internal/bytealg.MakeNoZero"], unfollowed := true, recurses := true, named := ["internal/bytealg.MaxLen", "emend/pptok.signs", "unicode/utf8.first", "unicode/utf8.acceptRanges"], apart := false, laid := [("unicode/utf8.acceptRanges", laid_unicode_utf8_acceptRanges), ("emend/pptok.signs", laid_emend_pptok_signs), ("unicode/utf8.first", laid_unicode_utf8_first)] }
def ExpandPlainSaid : Prop := expandPlainRow.holds Tryz.pinned (OpenSpec.ofChange expandPlainSpec)

/-- ITS FALSE NEIGHBOUR: 'it returns false'. Refute it at one input. -/
def expandPlainWrong : ChangeSpec := { name := "expandPlain", fn := fun _ => fun
  | [d1, d2, d3] => { results := [.lit (.bool false)], args := [d1, d2, d3] }
  | _ => none }
def ExpandPlainWrongFalsely : Prop := expandPlainRow.holds Tryz.pinned (OpenSpec.ofChange expandPlainWrong)

/-- 'emendlaw08.ExpandOrder': WHATEVER THE INPUT: true; the input reads as it did. -/
def expandOrderSpec : ChangeSpec := { name := "expandOrder", fn := fun _ => fun
  | [d1, d2, d3] => { results := [.lit (.bool true)], args := [d1, d2, d3] }
  | _ => none }
def expandOrderRow : OpenClaim := { program := "ytfjiiknfopmcjaagreatdoor", sum := "48ed373124a54ad26782847fc48406a3fe852fb2e3b52aef5a0844c0034bd6e2", func := "emend/emendlaw08.ExpandOrder", spec := "expandOrder", inPlace := ["internal/bytealg.IndexByteString", "internal/bytealg.IndexString", "internal/abi.NoEscape", "internal/bytealg.CountString", "internal/bytealg.MakeNoZero"], unfollowed := true, recurses := true, named := ["internal/bytealg.MaxLen", "emend/pptok.signs", "unicode/utf8.first", "unicode/utf8.acceptRanges"], apart := false, laid := [("unicode/utf8.acceptRanges", laid_unicode_utf8_acceptRanges), ("emend/pptok.signs", laid_emend_pptok_signs), ("unicode/utf8.first", laid_unicode_utf8_first)] }
def ExpandOrderSaid : Prop := expandOrderRow.holds Tryz.pinned (OpenSpec.ofChange expandOrderSpec)

/-- ITS FALSE NEIGHBOUR: 'it returns false'. Refute it at one input. -/
def expandOrderWrong : ChangeSpec := { name := "expandOrder", fn := fun _ => fun
  | [d1, d2, d3] => { results := [.lit (.bool false)], args := [d1, d2, d3] }
  | _ => none }
def ExpandOrderWrongFalsely : Prop := expandOrderRow.holds Tryz.pinned (OpenSpec.ofChange expandOrderWrong)

/-- 'emendlaw08.ExpandSelf': WHATEVER THE INPUT: true; the input reads as it did. -/
def expandSelfSpec : ChangeSpec := { name := "expandSelf", fn := fun _ => fun
  | [d1, d2, d3] => { results := [.lit (.bool true)], args := [d1, d2, d3] }
  | _ => none }
def expandSelfRow : OpenClaim := { program := "ytfjiiknfopmcjaagreatdoor", sum := "48ed373124a54ad26782847fc48406a3fe852fb2e3b52aef5a0844c0034bd6e2", func := "emend/emendlaw08.ExpandSelf", spec := "expandSelf", inPlace := ["internal/bytealg.IndexByteString", "internal/bytealg.IndexString", "internal/abi.NoEscape", "internal/bytealg.CountString", "internal/bytealg.MakeNoZero"], unfollowed := true, recurses := true, named := ["internal/bytealg.MaxLen", "emend/pptok.signs", "unicode/utf8.first", "unicode/utf8.acceptRanges"], apart := false, laid := [("unicode/utf8.acceptRanges", laid_unicode_utf8_acceptRanges), ("emend/pptok.signs", laid_emend_pptok_signs), ("unicode/utf8.first", laid_unicode_utf8_first)] }
def ExpandSelfSaid : Prop := expandSelfRow.holds Tryz.pinned (OpenSpec.ofChange expandSelfSpec)

/-- ITS FALSE NEIGHBOUR: 'it returns false'. Refute it at one input. -/
def expandSelfWrong : ChangeSpec := { name := "expandSelf", fn := fun _ => fun
  | [d1, d2, d3] => { results := [.lit (.bool false)], args := [d1, d2, d3] }
  | _ => none }
def ExpandSelfWrongFalsely : Prop := expandSelfRow.holds Tryz.pinned (OpenSpec.ofChange expandSelfWrong)

/- THE SECOND FORM. 'bulk': how many values and letters a reading holds, each counted each time it is reached (what is shared counts as often as it is met; a slice's spare places count too). A statement '..UptoSaid' is the law's where the arguments, and the package variables that the reading takes, are together of bulk at most 1048576: NARROWER than '..Said'. Prove '..Said' where nothing that the law and all that it calls make is longer than what came in: it says more and counts as full. Else prove '..UptoSaid'. A law counts once. -/
mutual
def uptoBulk {H : Type} : DataW H → Nat
  | .lit (.string bytes) => bytes.length + 1
  | .lit _ => 1
  | .nil => 1
  | .ptr d => uptoBulk d + 1
  | .slice elems spare => uptoBulkAll elems + uptoBulkAll spare + 1
  | .agg parts => uptoBulkAll parts + 1
  | .iface _ d => uptoBulk d + 1
  | .map entries => uptoBulkEntries entries + 1
  | .held _ => 1
def uptoBulkAll {H : Type} : List (DataW H) → Nat
  | [] => 0
  | d :: r => uptoBulk d + uptoBulkAll r
def uptoBulkEntries {H : Type} : List (Lit × DataW H) → Nat
  | [] => 0
  | x :: r => uptoBulkEntry x + uptoBulkEntries r
def uptoBulkEntry {H : Type} : Lit × DataW H → Nat
  | (.string bytes, d) => bytes.length + uptoBulk d + 1
  | (_, d) => uptoBulk d + 1
 end
def uptoSmall : (H : Type) → List (DataW H) → Bool := fun _ ds => decide (uptoBulkAll ds ≤ 1048576)
def OpenSpec.upto (s : _root_.Go.ChangeSpec) : _root_.Go.OpenSpec := { _root_.Go.OpenSpec.ofChange s with cond := some uptoSmall }

/-- 'emendlaw08.ExpandNone', WHERE WHAT IT READS IS OF BULK AT MOST 1048576: true; the input reads as it did. -/
def expandNoneUptoRow : OpenClaim := { program := "ytfjiiknfopmcjaagreatdoor", sum := "48ed373124a54ad26782847fc48406a3fe852fb2e3b52aef5a0844c0034bd6e2", func := "emend/emendlaw08.ExpandNone", spec := "expandNone", inPlace := ["internal/bytealg.IndexByteString", "internal/bytealg.IndexString", "internal/abi.NoEscape", "internal/bytealg.CountString", "internal/bytealg.MakeNoZero"], unfollowed := true, recurses := true, named := ["internal/bytealg.MaxLen", "emend/pptok.signs", "unicode/utf8.first", "unicode/utf8.acceptRanges"], apart := false, laid := [("unicode/utf8.acceptRanges", laid_unicode_utf8_acceptRanges), ("emend/pptok.signs", laid_emend_pptok_signs), ("unicode/utf8.first", laid_unicode_utf8_first)], narrowed := true }
def ExpandNoneUptoSaid : Prop := expandNoneUptoRow.holds Tryz.pinned (OpenSpec.upto expandNoneSpec)

/-- 'emendlaw08.ExpandPlain', WHERE WHAT IT READS IS OF BULK AT MOST 1048576: true; the input reads as it did. -/
def expandPlainUptoRow : OpenClaim := { program := "ytfjiiknfopmcjaagreatdoor", sum := "48ed373124a54ad26782847fc48406a3fe852fb2e3b52aef5a0844c0034bd6e2", func := "emend/emendlaw08.ExpandPlain", spec := "expandPlain", inPlace := ["internal/bytealg.IndexByteString", "internal/bytealg.IndexString", "internal/abi.NoEscape", "internal/bytealg.CountString", "internal/bytealg.MakeNoZero"], unfollowed := true, recurses := true, named := ["internal/bytealg.MaxLen", "emend/pptok.signs", "unicode/utf8.first", "unicode/utf8.acceptRanges"], apart := false, laid := [("unicode/utf8.acceptRanges", laid_unicode_utf8_acceptRanges), ("emend/pptok.signs", laid_emend_pptok_signs), ("unicode/utf8.first", laid_unicode_utf8_first)], narrowed := true }
def ExpandPlainUptoSaid : Prop := expandPlainUptoRow.holds Tryz.pinned (OpenSpec.upto expandPlainSpec)

/-- 'emendlaw08.ExpandOrder', WHERE WHAT IT READS IS OF BULK AT MOST 1048576: true; the input reads as it did. -/
def expandOrderUptoRow : OpenClaim := { program := "ytfjiiknfopmcjaagreatdoor", sum := "48ed373124a54ad26782847fc48406a3fe852fb2e3b52aef5a0844c0034bd6e2", func := "emend/emendlaw08.ExpandOrder", spec := "expandOrder", inPlace := ["internal/bytealg.IndexByteString", "internal/bytealg.IndexString", "internal/abi.NoEscape", "internal/bytealg.CountString", "internal/bytealg.MakeNoZero"], unfollowed := true, recurses := true, named := ["internal/bytealg.MaxLen", "emend/pptok.signs", "unicode/utf8.first", "unicode/utf8.acceptRanges"], apart := false, laid := [("unicode/utf8.acceptRanges", laid_unicode_utf8_acceptRanges), ("emend/pptok.signs", laid_emend_pptok_signs), ("unicode/utf8.first", laid_unicode_utf8_first)], narrowed := true }
def ExpandOrderUptoSaid : Prop := expandOrderUptoRow.holds Tryz.pinned (OpenSpec.upto expandOrderSpec)

/-- 'emendlaw08.ExpandSelf', WHERE WHAT IT READS IS OF BULK AT MOST 1048576: true; the input reads as it did. -/
def expandSelfUptoRow : OpenClaim := { program := "ytfjiiknfopmcjaagreatdoor", sum := "48ed373124a54ad26782847fc48406a3fe852fb2e3b52aef5a0844c0034bd6e2", func := "emend/emendlaw08.ExpandSelf", spec := "expandSelf", inPlace := ["internal/bytealg.IndexByteString", "internal/bytealg.IndexString", "internal/abi.NoEscape", "internal/bytealg.CountString", "internal/bytealg.MakeNoZero"], unfollowed := true, recurses := true, named := ["internal/bytealg.MaxLen", "emend/pptok.signs", "unicode/utf8.first", "unicode/utf8.acceptRanges"], apart := false, laid := [("unicode/utf8.acceptRanges", laid_unicode_utf8_acceptRanges), ("emend/pptok.signs", laid_emend_pptok_signs), ("unicode/utf8.first", laid_unicode_utf8_first)], narrowed := true }
def ExpandSelfUptoSaid : Prop := expandSelfUptoRow.holds Tryz.pinned (OpenSpec.upto expandSelfSpec)

end Rows
end Go.Proofs.YtfjiiknfopmcjaaGreatDoor
