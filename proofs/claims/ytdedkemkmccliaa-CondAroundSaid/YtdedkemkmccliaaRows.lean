/-
  No cell of these rows narrows 'for every input' (looked for: loops, veiled, ifaces, maps, wideKeys, modest, calm, conditions, laid).
  DERIVED. THE GIVEN ROWS OF THIS SEAT. 6 by the template 'for every input the law returns true; each argument reads behind the call as it read before'; 0 by the template 'total and deterministic' (their statements: YtdedkemkmccliaaTotals.lean).
  GIVEN WITH THE SEED: the statements are not yours to turn. If you find one false, say at which input.
  Laid BY PROGRAM, IN A SANDBOX (cutbox-rows.mjs): the forced cells as the released guide's own fill.sh prints them over the translation 8d5e54006b30b5a3… (all of the seat's roots in one cut). By AI agents, Wed Nov 11 2026. No macro, syntax, notation, axiom, sorry.
-/
import Derived.Test.YtdedkemkmccliaaChecked
import GoSem.Claim
import GoSem.ClaimJoined
import GoSem.ClaimMapViews
import Derived.JoinedTies
import Derived.KernelRfl
namespace Go.Proofs.Ytdedkemkmccliaa
/- THE CELL 'sum', in the pinned program and in every row, IS THE sha256 OF THE DUMP (.gsa) THAT YtdedkemkmccliaaProg.lean LOADS. Nothing in Lean hashes anything: it is a label: what it is worth is what the hold of that sum in a sandbox is worth. -/
noncomputable def Try.pinned : Pinned := { name := "ytdedkemkmccliaa", sum := "8d5e54006b30b5a364d97633dfb94d3bfac0675d8db3a8068bea57ff9b7640c5", checked := Try.checked }
namespace Rows
def none {H : Type} : Left H := { results := [], args := [] }

/-- 'emendlaw05.CondPlays': WHATEVER THE INPUT: true; the input reads as it did. -/
def condPlaysSpec : ChangeSpec := { name := "condPlays", fn := fun _ => fun
  | [d] => { results := [.lit (.bool true)], args := [d] }
  | _ => none }
def condPlaysRow : OpenClaim := { program := "ytdedkemkmccliaa", sum := "8d5e54006b30b5a364d97633dfb94d3bfac0675d8db3a8068bea57ff9b7640c5", func := "emend/emendlaw05.CondPlays", spec := "condPlays", recurses := true, apart := false }
def CondPlaysSaid : Prop := condPlaysRow.holds Try.pinned (OpenSpec.ofChange condPlaysSpec)

/-- ITS FALSE NEIGHBOUR: 'it returns false'. Refute it at one input. -/
def condPlaysWrong : ChangeSpec := { name := "condPlays", fn := fun _ => fun
  | [d] => { results := [.lit (.bool false)], args := [d] }
  | _ => none }
def CondPlaysWrongFalsely : Prop := condPlaysRow.holds Try.pinned (OpenSpec.ofChange condPlaysWrong)

/-- 'emendlaw05.CondPrefix': WHATEVER THE INPUT: true; the input reads as it did. -/
def condPrefixSpec : ChangeSpec := { name := "condPrefix", fn := fun _ => fun
  | [d1, d2] => { results := [.lit (.bool true)], args := [d1, d2] }
  | _ => none }
def condPrefixRow : OpenClaim := { program := "ytdedkemkmccliaa", sum := "8d5e54006b30b5a364d97633dfb94d3bfac0675d8db3a8068bea57ff9b7640c5", func := "emend/emendlaw05.CondPrefix", spec := "condPrefix", recurses := true, apart := false }
def CondPrefixSaid : Prop := condPrefixRow.holds Try.pinned (OpenSpec.ofChange condPrefixSpec)

/-- ITS FALSE NEIGHBOUR: 'it returns false'. Refute it at one input. -/
def condPrefixWrong : ChangeSpec := { name := "condPrefix", fn := fun _ => fun
  | [d1, d2] => { results := [.lit (.bool false)], args := [d1, d2] }
  | _ => none }
def CondPrefixWrongFalsely : Prop := condPrefixRow.holds Try.pinned (OpenSpec.ofChange condPrefixWrong)

/-- 'emendlaw05.CondAround': WHATEVER THE INPUT: true; the input reads as it did. -/
def condAroundSpec : ChangeSpec := { name := "condAround", fn := fun _ => fun
  | [d] => { results := [.lit (.bool true)], args := [d] }
  | _ => none }
def condAroundRow : OpenClaim := { program := "ytdedkemkmccliaa", sum := "8d5e54006b30b5a364d97633dfb94d3bfac0675d8db3a8068bea57ff9b7640c5", func := "emend/emendlaw05.CondAround", spec := "condAround", recurses := true, apart := false }
def CondAroundSaid : Prop := condAroundRow.holds Try.pinned (OpenSpec.ofChange condAroundSpec)

/-- ITS FALSE NEIGHBOUR: 'it returns false'. Refute it at one input. -/
def condAroundWrong : ChangeSpec := { name := "condAround", fn := fun _ => fun
  | [d] => { results := [.lit (.bool false)], args := [d] }
  | _ => none }
def CondAroundWrongFalsely : Prop := condAroundRow.holds Try.pinned (OpenSpec.ofChange condAroundWrong)

/-- 'emendlaw05.CondCovers': WHATEVER THE INPUT: true; the input reads as it did. -/
def condCoversSpec : ChangeSpec := { name := "condCovers", fn := fun _ => fun
  | [d] => { results := [.lit (.bool true)], args := [d] }
  | _ => none }
def condCoversRow : OpenClaim := { program := "ytdedkemkmccliaa", sum := "8d5e54006b30b5a364d97633dfb94d3bfac0675d8db3a8068bea57ff9b7640c5", func := "emend/emendlaw05.CondCovers", spec := "condCovers", recurses := true, apart := false }
def CondCoversSaid : Prop := condCoversRow.holds Try.pinned (OpenSpec.ofChange condCoversSpec)

/-- ITS FALSE NEIGHBOUR: 'it returns false'. Refute it at one input. -/
def condCoversWrong : ChangeSpec := { name := "condCovers", fn := fun _ => fun
  | [d] => { results := [.lit (.bool false)], args := [d] }
  | _ => none }
def CondCoversWrongFalsely : Prop := condCoversRow.holds Try.pinned (OpenSpec.ofChange condCoversWrong)

/-- 'emendlaw05.CondBoth': WHATEVER THE INPUT: true; the input reads as it did. -/
def condBothSpec : ChangeSpec := { name := "condBoth", fn := fun _ => fun
  | [d1, d2] => { results := [.lit (.bool true)], args := [d1, d2] }
  | _ => none }
def condBothRow : OpenClaim := { program := "ytdedkemkmccliaa", sum := "8d5e54006b30b5a364d97633dfb94d3bfac0675d8db3a8068bea57ff9b7640c5", func := "emend/emendlaw05.CondBoth", spec := "condBoth", recurses := true, apart := false }
def CondBothSaid : Prop := condBothRow.holds Try.pinned (OpenSpec.ofChange condBothSpec)

/-- ITS FALSE NEIGHBOUR: 'it returns false'. Refute it at one input. -/
def condBothWrong : ChangeSpec := { name := "condBoth", fn := fun _ => fun
  | [d1, d2] => { results := [.lit (.bool false)], args := [d1, d2] }
  | _ => none }
def CondBothWrongFalsely : Prop := condBothRow.holds Try.pinned (OpenSpec.ofChange condBothWrong)

/-- 'emendlaw05.CondWrapped': WHATEVER THE INPUT: true; the input reads as it did. -/
def condWrappedSpec : ChangeSpec := { name := "condWrapped", fn := fun _ => fun
  | [d] => { results := [.lit (.bool true)], args := [d] }
  | _ => none }
def condWrappedRow : OpenClaim := { program := "ytdedkemkmccliaa", sum := "8d5e54006b30b5a364d97633dfb94d3bfac0675d8db3a8068bea57ff9b7640c5", func := "emend/emendlaw05.CondWrapped", spec := "condWrapped", recurses := true, apart := false }
def CondWrappedSaid : Prop := condWrappedRow.holds Try.pinned (OpenSpec.ofChange condWrappedSpec)

/-- ITS FALSE NEIGHBOUR: 'it returns false'. Refute it at one input. -/
def condWrappedWrong : ChangeSpec := { name := "condWrapped", fn := fun _ => fun
  | [d] => { results := [.lit (.bool false)], args := [d] }
  | _ => none }
def CondWrappedWrongFalsely : Prop := condWrappedRow.holds Try.pinned (OpenSpec.ofChange condWrappedWrong)

/- THE SECOND FORM. 'bulk': how many values and letters a reading holds, each counted each time it is reached (what is shared counts as often as it is met; a slice's spare places count too). A statement '..UptoSaid' is the law's where the arguments, and the package variables that the reading takes, are together of bulk at most 1048576: NARROWER than '..Said'. Prove '..Said' where nothing that the law and all that it calls make is longer than what came in: it says more and counts as full. Else prove '..UptoSaid'. A law counts once. -/
mutual
def uptoBulk {H : Type} : DataW H → Nat
  | .lit (.string bytes) => bytes.length + 1
  | .lit _ => 1
  | .nil => 1
  | .ptr d => uptoBulk d + 1
  | .slice elems spare => uptoBulkAll elems + uptoBulkAll spare + 1
  | .agg parts => uptoBulkAll parts + 1
  | .iface _ d => uptoBulk d + 1
  | .map entries => uptoBulkEntries entries + 1
  | .held _ => 1
def uptoBulkAll {H : Type} : List (DataW H) → Nat
  | [] => 0
  | d :: r => uptoBulk d + uptoBulkAll r
def uptoBulkEntries {H : Type} : List (Lit × DataW H) → Nat
  | [] => 0
  | x :: r => uptoBulkEntry x + uptoBulkEntries r
def uptoBulkEntry {H : Type} : Lit × DataW H → Nat
  | (.string bytes, d) => bytes.length + uptoBulk d + 1
  | (_, d) => uptoBulk d + 1
 end
def uptoSmall : (H : Type) → List (DataW H) → Bool := fun _ ds => decide (uptoBulkAll ds ≤ 1048576)
def OpenSpec.upto (s : _root_.Go.ChangeSpec) : _root_.Go.OpenSpec := { _root_.Go.OpenSpec.ofChange s with cond := some uptoSmall }

/-- 'emendlaw05.CondPlays', WHERE WHAT IT READS IS OF BULK AT MOST 1048576: true; the input reads as it did. -/
def condPlaysUptoRow : OpenClaim := { program := "ytdedkemkmccliaa", sum := "8d5e54006b30b5a364d97633dfb94d3bfac0675d8db3a8068bea57ff9b7640c5", func := "emend/emendlaw05.CondPlays", spec := "condPlays", recurses := true, apart := false, narrowed := true }
def CondPlaysUptoSaid : Prop := condPlaysUptoRow.holds Try.pinned (OpenSpec.upto condPlaysSpec)

/-- 'emendlaw05.CondPrefix', WHERE WHAT IT READS IS OF BULK AT MOST 1048576: true; the input reads as it did. -/
def condPrefixUptoRow : OpenClaim := { program := "ytdedkemkmccliaa", sum := "8d5e54006b30b5a364d97633dfb94d3bfac0675d8db3a8068bea57ff9b7640c5", func := "emend/emendlaw05.CondPrefix", spec := "condPrefix", recurses := true, apart := false, narrowed := true }
def CondPrefixUptoSaid : Prop := condPrefixUptoRow.holds Try.pinned (OpenSpec.upto condPrefixSpec)

/-- 'emendlaw05.CondAround', WHERE WHAT IT READS IS OF BULK AT MOST 1048576: true; the input reads as it did. -/
def condAroundUptoRow : OpenClaim := { program := "ytdedkemkmccliaa", sum := "8d5e54006b30b5a364d97633dfb94d3bfac0675d8db3a8068bea57ff9b7640c5", func := "emend/emendlaw05.CondAround", spec := "condAround", recurses := true, apart := false, narrowed := true }
def CondAroundUptoSaid : Prop := condAroundUptoRow.holds Try.pinned (OpenSpec.upto condAroundSpec)

/-- 'emendlaw05.CondCovers', WHERE WHAT IT READS IS OF BULK AT MOST 1048576: true; the input reads as it did. -/
def condCoversUptoRow : OpenClaim := { program := "ytdedkemkmccliaa", sum := "8d5e54006b30b5a364d97633dfb94d3bfac0675d8db3a8068bea57ff9b7640c5", func := "emend/emendlaw05.CondCovers", spec := "condCovers", recurses := true, apart := false, narrowed := true }
def CondCoversUptoSaid : Prop := condCoversUptoRow.holds Try.pinned (OpenSpec.upto condCoversSpec)

/-- 'emendlaw05.CondBoth', WHERE WHAT IT READS IS OF BULK AT MOST 1048576: true; the input reads as it did. -/
def condBothUptoRow : OpenClaim := { program := "ytdedkemkmccliaa", sum := "8d5e54006b30b5a364d97633dfb94d3bfac0675d8db3a8068bea57ff9b7640c5", func := "emend/emendlaw05.CondBoth", spec := "condBoth", recurses := true, apart := false, narrowed := true }
def CondBothUptoSaid : Prop := condBothUptoRow.holds Try.pinned (OpenSpec.upto condBothSpec)

/-- 'emendlaw05.CondWrapped', WHERE WHAT IT READS IS OF BULK AT MOST 1048576: true; the input reads as it did. -/
def condWrappedUptoRow : OpenClaim := { program := "ytdedkemkmccliaa", sum := "8d5e54006b30b5a364d97633dfb94d3bfac0675d8db3a8068bea57ff9b7640c5", func := "emend/emendlaw05.CondWrapped", spec := "condWrapped", recurses := true, apart := false, narrowed := true }
def CondWrappedUptoSaid : Prop := condWrappedUptoRow.holds Try.pinned (OpenSpec.upto condWrappedSpec)

end Rows
end Go.Proofs.Ytdedkemkmccliaa
