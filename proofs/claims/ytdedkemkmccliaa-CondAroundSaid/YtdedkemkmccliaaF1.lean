/-
  The functions' data and their runs.
-/
import Derived.Test.YtdedkemkmccliaaT
set_option linter.unusedVariables false
set_option linter.unusedSimpArgs false
namespace Go.Proofs.Ytdedkemkmccliaa
open Go.Al Go.Den

abbrev as11 : List (AK UU) := [.ls TI.int]
abbrev rs11 : List (AK UU) := [.dl TI.line]
abbrev as15 : List (AK UU) := [.ls TI.int, .ls TI.int]
abbrev rs15 : List (AK UU) := [.bool]
def kf11 : Nat → List Nat
  | 0 => [0]
  | 1 => [0, 3]
  | 2 => [0, 3, 4]
  | 3 => [0, 3, 4, 8]
  | 4 => [0, 3, 4]
  | 5 => [0, 3, 4]
  | 6 => [2]
  | _ => []
def hd11 : List (Nat × Head UU) := [(3, ⟨[0], [(3, .ow true TI.line), (4, .int .i64)]⟩)]
def jn11 : List (Nat × Head UU) := []
noncomputable def fd11 : FD UU := ⟨⟨fun d => hasN [] d, fun d => hasN [] d, kf11, findF hd11, findF jn11⟩, bodyOf Try.f11, 20, [.tmp 2]⟩
def kf15 : Nat → List Nat
  | 0 => [0, 1]
  | 1 => [0, 1, 10]
  | 2 => [4]
  | 3 => [0, 1, 5]
  | 4 => [0, 1, 5, 14]
  | 5 => [0, 1, 5]
  | 6 => [0, 1, 5, 25]
  | 7 => [4]
  | 8 => [4]
  | _ => []
def hd15 : List (Nat × Head UU) := [(4, ⟨[0, 1], [(5, .int .i64)]⟩)]
def jn15 : List (Nat × Head UU) := []
noncomputable def fd15 : FD UU := ⟨⟨fun d => hasN [] d, fun d => hasN [] d, kf15, findF hd15, findF jn15⟩, bodyOf Try.f15, 26, [.tmp 4]⟩
noncomputable def run15 (fu : Nat) (nf : Nat → Bool) (x0 : List Int) (x1 : List Int) : Option (denAs rs15) :=
  runF CC Tb fu 2 (findF []) (findF []) fd15 as15 rs15 nf (x0, x1, ())
theorem fdok15 : FDOk Try.prog (hasN []) 15 fd15 := ⟨⟨Try.f15, Try.func15, by kernel_rfl, Try.ntmps15, Try.results15⟩, by kernel_rfl, by kernel_rfl, by kernel_rfl⟩
noncomputable def run11 (fu : Nat) (nf : Nat → Bool) (x0 : List Int) : Option (denAs rs11) :=
  runF CC Tb fu 2 (findF []) (findF []) fd11 as11 rs11 nf (x0, ())
theorem fdok11 : FDOk Try.prog (hasN []) 11 fd11 := ⟨⟨Try.f11, Try.func11, by kernel_rfl, Try.ntmps11, Try.results11⟩, by kernel_rfl, by kernel_rfl, by kernel_rfl⟩
end Go.Proofs.Ytdedkemkmccliaa
