/-
  The functions' data and their runs.
-/
import Derived.Test.YtdedkemkmccliaaP1
import Derived.Test.YtdedkemkmccliaaF3
set_option linter.unusedVariables false
set_option linter.unusedSimpArgs false
namespace Go.Proofs.Ytdedkemkmccliaa
open Go.Al Go.Den

abbrev as23 : List (AK UU) := [.ls TI.line]
abbrev rs23 : List (AK UU) := [.int .i64, .int .i64]
abbrev as24 : List (AK UU) := [.ls TI.line, .int .i64]
abbrev rs24 : List (AK UU) := [.dl TI.item, .int .i64]
abbrev as25 : List (AK UU) := [.int .i64]
abbrev rs25 : List (AK UU) := [.bool]
def kf12 : Nat → List Nat
  | 0 => [0]
  | 1 => [0, 5, 6]
  | 2 => [0, 5, 6, 15]
  | 3 => [2, 3, 4]
  | 4 => [7]
  | 5 => [2, 3, 4]
  | _ => []
def hd12 : List (Nat × Head UU) := []
def jn12 : List (Nat × Head UU) := []
noncomputable def fd12 : FD UU := ⟨⟨fun d => hasN [] d, fun d => hasN [] d, kf12, findF hd12, findF jn12⟩, bodyOf Try.f12, 24, [.tmp 2, .tmp 3, .tmp 4]⟩
def kf16 : Nat → List Nat
  | 0 => [0, 1]
  | 1 => [0, 1, 5]
  | 2 => [0, 1, 5, 6]
  | 3 => [0, 1, 5, 6, 16]
  | 4 => [0, 1, 5, 6]
  | 5 => [0, 1, 5, 6, 7]
  | 6 => [0, 1, 5, 6, 7, 25]
  | 7 => [0, 1, 5, 6, 7]
  | 8 => [0, 1, 5, 6, 7, 35]
  | 9 => [0, 1, 5, 6, 7]
  | 10 => [0, 1, 5, 6, 48]
  | 11 => [0, 1, 5, 6]
  | 12 => [4]
  | _ => []
def hd16 : List (Nat × Head UU) := [(3, ⟨[0, 1], [(5, .arr TI.int), (6, .int .i64)]⟩)]
def jn16 : List (Nat × Head UU) := [(10, ⟨[0, 1, 6, 7], [(5, .arr TI.int)]⟩), (8, ⟨[0, 1, 6, 7], [(5, .arr TI.int)]⟩)]
noncomputable def fd16 : FD UU := ⟨⟨fun d => hasN [29] d, fun d => hasN [] d, kf16, findF hd16, findF jn16⟩, bodyOf Try.f16, 55, [.tmp 4]⟩
def kf23 : Nat → List Nat
  | 0 => [0]
  | 1 => [0, 4]
  | 2 => [0, 4, 5]
  | 3 => [0, 4, 5, 6]
  | 4 => [0, 4, 5, 6, 12]
  | 5 => [0, 4, 5, 6]
  | 6 => [0, 4, 5, 6, 7]
  | 7 => [0, 4, 5, 6, 7, 8]
  | 8 => [0, 4, 5, 6, 7, 8, 23]
  | 9 => [0, 4, 5, 6, 7, 8]
  | 10 => [0, 4, 5, 6, 7, 8]
  | 11 => [0, 4, 5, 6, 7, 8, 55]
  | 12 => [2, 3]
  | 13 => [0, 4, 5, 6, 7, 8, 58]
  | 14 => [0, 4, 5, 6, 7, 8]
  | 15 => [0, 4, 5, 6, 8, 64]
  | 16 => [0, 4, 5, 6, 8]
  | 17 => [0, 4, 5, 6]
  | 18 => [4, 75]
  | 19 => [2, 3]
  | 20 => [2, 3]
  | _ => []
def hd23 : List (Nat × Head UU) := [(4, ⟨[0], [(4, .arr TI.int), (5, .arr TI.bool), (6, .int .i64)]⟩)]
def jn23 : List (Nat × Head UU) := [(15, ⟨[0, 6, 7, 8], [(4, .arr TI.int), (5, .arr TI.bool)]⟩), (11, ⟨[0, 6, 7, 8], [(4, .arr TI.int), (5, .arr TI.bool)]⟩)]
noncomputable def fd23 : FD UU := ⟨⟨fun d => hasN [27, 30] d, fun d => hasN [] d, kf23, findF hd23, findF jn23⟩, bodyOf Try.f23, 82, [.tmp 2, .tmp 3]⟩
def kf24 : Nat → List Nat
  | 0 => [0, 1]
  | 1 => [0, 1, 6]
  | 2 => [0, 1, 6, 14]
  | 3 => [0, 1, 6, 7]
  | 4 => [0, 1, 6, 7, 29]
  | 5 => [4, 5]
  | 6 => [0, 1, 6, 34]
  | 7 => [0, 1, 6]
  | 8 => [0, 1, 6]
  | 9 => [0, 1, 6, 8]
  | 10 => [0, 1, 6, 8, 56]
  | 11 => [0, 1, 6, 8, 9, 10]
  | 12 => [0, 6, 8, 10]
  | 13 => [0, 1, 6, 8]
  | 14 => [0, 1, 6, 8]
  | 15 => [0, 1, 6]
  | 16 => [0, 1, 6]
  | 17 => [4, 5]
  | _ => []
def hd24 : List (Nat × Head UU) := [(2, ⟨[0], [(1, .int .i64), (6, .ow true TI.item)]⟩), (10, ⟨[0], [(1, .int .i64), (6, .ow true TI.item), (8, .box [.int .i64, .int .i64, .ow true TI.br])]⟩)]
def jn24 : List (Nat × Head UU) := []
noncomputable def fd24 : FD UU := ⟨⟨fun d => hasN [] d, fun d => hasN [] d, kf24, findF hd24, findF jn24⟩, bodyOf Try.f24, 83, [.tmp 4, .tmp 5]⟩
def kf25 : Nat → List Nat
  | 0 => [0]
  | 1 => [2]
  | _ => []
def hd25 : List (Nat × Head UU) := []
def jn25 : List (Nat × Head UU) := []
noncomputable def fd25 : FD UU := ⟨⟨fun d => hasN [] d, fun d => hasN [] d, kf25, findF hd25, findF jn25⟩, bodyOf Try.f25, 13, [.tmp 2]⟩
noncomputable def run12 (fu : Nat) (c23 : List LineT × Unit → Option (Int × Int × Unit)) (c24 : List LineT × Int × Unit → Option (List It × Int × Unit)) (nf : Nat → Bool) (x0 : List LineT) : Option (denAs rs12) :=
  runF CC Tb fu 2 (findF []) (findF [(23, (⟨as23, rs23, c23⟩ : Con UU)), (24, (⟨as24, rs24, c24⟩ : Con UU))]) fd12 as12 rs12 nf (x0, ())
theorem fdok12 : FDOk Try.prog (hasN [23, 24]) 12 fd12 := ⟨⟨Try.f12, Try.func12, by kernel_rfl, Try.ntmps12, Try.results12⟩, by kernel_rfl, by kernel_rfl, by kernel_rfl⟩
noncomputable def run16 (fu : Nat) (nf : Nat → Bool) (x0 : List LineT) (x1 : Int) : Option (denAs rs16) :=
  runF CC Tb fu 3 (findF [(25, fd25)]) (findF []) fd16 as16 rs16 nf (x0, x1, ())
theorem fdok16 : FDOk Try.prog (hasN []) 16 fd16 := ⟨⟨Try.f16, Try.func16, by kernel_rfl, Try.ntmps16, Try.results16⟩, by kernel_rfl, by kernel_rfl, by kernel_rfl⟩
theorem fdok16_25 : FDOk Try.prog (hasN []) 25 fd25 := ⟨⟨Try.f25, Try.func25, by kernel_rfl, Try.ntmps25, Try.results25⟩, by kernel_rfl, by kernel_rfl, by kernel_rfl⟩
noncomputable def run23 (fu : Nat) (nf : Nat → Bool) (x0 : List LineT) : Option (denAs rs23) :=
  runF CC Tb fu 3 (findF [(25, fd25)]) (findF []) fd23 as23 rs23 nf (x0, ())
theorem fdok23 : FDOk Try.prog (hasN []) 23 fd23 := ⟨⟨Try.f23, Try.func23, by kernel_rfl, Try.ntmps23, Try.results23⟩, by kernel_rfl, by kernel_rfl, by kernel_rfl⟩
theorem fdok23_25 : FDOk Try.prog (hasN []) 25 fd25 := ⟨⟨Try.f25, Try.func25, by kernel_rfl, Try.ntmps25, Try.results25⟩, by kernel_rfl, by kernel_rfl, by kernel_rfl⟩
noncomputable def run24 (fu : Nat) (c24 : List LineT × Int × Unit → Option (List It × Int × Unit)) (nf : Nat → Bool) (x0 : List LineT) (x1 : Int) : Option (denAs rs24) :=
  runF CC Tb fu 3 (findF [(25, fd25)]) (findF [(24, (⟨as24, rs24, c24⟩ : Con UU))]) fd24 as24 rs24 nf (x0, x1, ())
theorem fdok24 : FDOk Try.prog (hasN [24]) 24 fd24 := ⟨⟨Try.f24, Try.func24, by kernel_rfl, Try.ntmps24, Try.results24⟩, by kernel_rfl, by kernel_rfl, by kernel_rfl⟩
theorem fdok24_25 : FDOk Try.prog (hasN [24]) 25 fd25 := ⟨⟨Try.f25, Try.func25, by kernel_rfl, Try.ntmps25, Try.results25⟩, by kernel_rfl, by kernel_rfl, by kernel_rfl⟩
end Go.Proofs.Ytdedkemkmccliaa
