/-
  The functions' data and their runs.
-/
import Derived.Test.YtdedkemkmccliaaT
set_option linter.unusedVariables false
set_option linter.unusedSimpArgs false
namespace Go.Proofs.Ytdedkemkmccliaa
open Go.Al Go.Den

abbrev as13 : List (AK UU) := [.ls TI.item, .ls TI.item]
abbrev rs13 : List (AK UU) := [.bool]
abbrev as14 : List (AK UU) := [.ls TI.item, .int .i64]
abbrev rs14 : List (AK UU) := [.dl TI.int]
abbrev as18 : List (AK UU) := [.ls TI.item]
abbrev rs18 : List (AK UU) := [.dl TI.int]
def kf13 : Nat → List Nat
  | 0 => [0, 1]
  | 1 => [0, 1, 12]
  | 2 => [4]
  | 3 => [0, 1, 5]
  | 4 => [0, 1, 5, 16]
  | 5 => [0, 1, 5]
  | 6 => [0, 1, 5, 57]
  | 7 => [4]
  | 8 => [0, 1, 5, 6]
  | 9 => [0, 1, 5, 6, 65]
  | 10 => [0, 1, 5, 6]
  | 11 => [0, 1, 5, 6, 7]
  | 12 => [0, 1, 5, 6, 109]
  | 13 => [4]
  | 14 => [4]
  | _ => []
def hd13 : List (Nat × Head UU) := [(4, ⟨[0, 1], [(5, .int .i64)]⟩), (9, ⟨[0, 1, 5], [(6, .int .i64)]⟩)]
def jn13 : List (Nat × Head UU) := []
noncomputable def fd13 : FD UU := ⟨⟨fun d => hasN [] d, fun d => hasN [] d, kf13, findF hd13, findF jn13⟩, bodyOf Try.f13, 110, [.tmp 4]⟩
def kf14 : Nat → List Nat
  | 0 => [0, 1]
  | 1 => [1, 13, 14, 15]
  | 2 => [1, 13, 14, 15, 16]
  | 3 => [1, 6, 13, 14, 15]
  | 4 => [1, 6, 13, 14, 15, 20, 21, 22]
  | 5 => [1, 6, 13, 14, 15, 20, 21, 22, 23]
  | 6 => [1, 6, 7, 8, 13, 14, 15, 20, 21, 22]
  | 7 => [1, 6, 8, 9, 13, 14, 15, 20, 21, 22]
  | 8 => [1, 6, 8, 13, 14, 15, 20, 21, 22, 45]
  | 9 => [4]
  | 10 => [1, 6, 8, 10, 13, 14, 15, 20, 21, 22]
  | 11 => [1, 6, 8, 10, 13, 14, 15, 20, 21, 22, 54]
  | 12 => [4]
  | 13 => [1, 6, 8, 13, 14, 15, 20, 21, 22, 61, 62, 63]
  | 14 => [1, 6, 8, 13, 14, 15, 20, 21, 22, 61, 62, 63, 64]
  | 15 => [1, 6, 8, 12, 13, 14, 15, 20, 21, 22, 61, 62, 63]
  | 16 => [1, 6, 8, 13, 14, 15, 20, 21, 22, 61, 62, 63, 76]
  | 17 => [4]
  | 18 => [1, 6, 8, 13, 14, 15, 20, 21, 22, 61, 62, 63]
  | 19 => [1, 6, 13, 14, 15, 20, 21, 22]
  | 20 => [1, 13, 14, 15]
  | 21 => [4]
  | _ => []
def hd14 : List (Nat × Head UU) := [(2, ⟨[1, 13, 14], [(15, .int .i64)]⟩), (5, ⟨[1, 13, 14, 15, 20, 21], [(6, .box [.int .i64, .int .i64, .dl TI.br]), (22, .int .i64)]⟩), (14, ⟨[1, 13, 14, 15, 20, 21, 22, 61, 62], [(6, .box [.int .i64, .int .i64, .dl TI.br]), (8, .box [.int .i64, .dl TI.item]), (63, .int .i64)]⟩)]
def jn14 : List (Nat × Head UU) := []
noncomputable def fd14 : FD UU := ⟨⟨fun d => hasN [] d, fun d => hasN [57] d, kf14, findF hd14, findF jn14⟩, bodyOf Try.f14, 83, [.tmp 4]⟩
def kf18 : Nat → List Nat
  | 0 => [0]
  | 1 => [0, 3]
  | 2 => [3, 8, 9, 10]
  | 3 => [3, 8, 9, 10, 11]
  | 4 => [3, 5, 8, 9, 10]
  | 5 => [3, 5, 8, 9, 10, 17]
  | 6 => [3, 8, 9, 10]
  | 7 => [3, 5, 8, 9, 10, 24, 25, 26]
  | 8 => [3, 5, 8, 9, 10, 24, 25, 26, 27]
  | 9 => [3, 5, 7, 8, 9, 10, 24, 25, 26]
  | 10 => [3, 5, 8, 9, 10, 24, 25, 26]
  | 11 => [3, 5, 8, 9, 10, 24, 25, 26]
  | 12 => [3, 8, 9, 10]
  | 13 => [3, 8, 9, 10]
  | 14 => [2]
  | _ => []
def hd18 : List (Nat × Head UU) := [(3, ⟨[8, 9], [(3, .ow true TI.int), (10, .int .i64)]⟩), (8, ⟨[8, 9, 10, 24, 25], [(3, .ow true TI.int), (5, .box [.int .i64, .int .i64, .dl TI.br]), (26, .int .i64)]⟩)]
def jn18 : List (Nat × Head UU) := []
noncomputable def fd18 : FD UU := ⟨⟨fun d => hasN [] d, fun d => hasN [] d, kf18, findF hd18, findF jn18⟩, bodyOf Try.f18, 47, [.tmp 2]⟩
noncomputable def run13 (fu : Nat) (c13 : List It × List It × Unit → Option (Bool × Unit)) (nf : Nat → Bool) (x0 : List It) (x1 : List It) : Option (denAs rs13) :=
  runF CC Tb fu 2 (findF []) (findF [(13, (⟨as13, rs13, c13⟩ : Con UU))]) fd13 as13 rs13 nf (x0, x1, ())
theorem fdok13 : FDOk Try.prog (hasN [13]) 13 fd13 := ⟨⟨Try.f13, Try.func13, by kernel_rfl, Try.ntmps13, Try.results13⟩, by kernel_rfl, by kernel_rfl, by kernel_rfl⟩
noncomputable def run14 (fu : Nat) (c14 : List It × Int × Unit → Option (List Int × Unit)) (nf : Nat → Bool) (x0 : List It) (x1 : Int) : Option (denAs rs14) :=
  runF CC Tb fu 2 (findF []) (findF [(14, (⟨as14, rs14, c14⟩ : Con UU))]) fd14 as14 rs14 nf (x0, x1, ())
theorem fdok14 : FDOk Try.prog (hasN [14]) 14 fd14 := ⟨⟨Try.f14, Try.func14, by kernel_rfl, Try.ntmps14, Try.results14⟩, by kernel_rfl, by kernel_rfl, by kernel_rfl⟩
noncomputable def run18 (fu : Nat) (c18 : List It × Unit → Option (List Int × Unit)) (nf : Nat → Bool) (x0 : List It) : Option (denAs rs18) :=
  runF CC Tb fu 2 (findF []) (findF [(18, (⟨as18, rs18, c18⟩ : Con UU))]) fd18 as18 rs18 nf (x0, ())
theorem fdok18 : FDOk Try.prog (hasN [18]) 18 fd18 := ⟨⟨Try.f18, Try.func18, by kernel_rfl, Try.ntmps18, Try.results18⟩, by kernel_rfl, by kernel_rfl, by kernel_rfl⟩
end Go.Proofs.Ytdedkemkmccliaa
