/-
  The functions' data and their runs.
-/
import Derived.Test.YtdedkemkmccliaaP1
import Derived.Test.YtdedkemkmccliaaF2
set_option linter.unusedVariables false
set_option linter.unusedSimpArgs false
namespace Go.Proofs.Ytdedkemkmccliaa
open Go.Al Go.Den

abbrev as3 : List (AK UU) := [.ls TI.int]
abbrev rs3 : List (AK UU) := [.bool]
abbrev as4 : List (AK UU) := [.ls TI.int, .ls TI.int]
abbrev rs4 : List (AK UU) := [.bool]
abbrev as5 : List (AK UU) := [.ls TI.int]
abbrev rs5 : List (AK UU) := [.bool]
abbrev as6 : List (AK UU) := [.ls TI.int]
abbrev rs6 : List (AK UU) := [.bool]
abbrev as7 : List (AK UU) := [.ls TI.int, .ls TI.int]
abbrev rs7 : List (AK UU) := [.bool]
abbrev as8 : List (AK UU) := [.ls TI.int]
abbrev rs8 : List (AK UU) := [.bool]
abbrev as9 : List (AK UU) := []
abbrev rs9 : List (AK UU) := [.bool]
abbrev as12 : List (AK UU) := [.ls TI.line]
abbrev rs12 : List (AK UU) := [.dl TI.item, .int .i64, .int .i64]
abbrev as16 : List (AK UU) := [.ls TI.line, .int .i64]
abbrev rs16 : List (AK UU) := [.dl TI.int]
def kf3 : Nat → List Nat
  | 0 => [0]
  | 1 => [0, 3]
  | 2 => [0, 3, 13]
  | 3 => [2]
  | 4 => [0, 3, 4, 5, 6]
  | 5 => [3, 4, 5, 6, 7, 8, 9]
  | 6 => [2]
  | _ => []
def hd3 : List (Nat × Head UU) := []
def jn3 : List (Nat × Head UU) := []
noncomputable def fd3 : FD UU := ⟨⟨fun d => hasN [] d, fun d => hasN [] d, kf3, findF hd3, findF jn3⟩, bodyOf Try.f3, 45, [.tmp 2]⟩
def kf4 : Nat → List Nat
  | 0 => [0, 1]
  | 1 => [0, 1, 5]
  | 2 => [0, 1, 5, 20]
  | 3 => [4]
  | 4 => [0, 1, 5, 7, 8]
  | 5 => [0, 5, 7, 8, 10, 11]
  | 6 => [0, 5, 7, 10, 11, 41]
  | 7 => [4]
  | 8 => [4]
  | _ => []
def hd4 : List (Nat × Head UU) := []
def jn4 : List (Nat × Head UU) := []
noncomputable def fd4 : FD UU := ⟨⟨fun d => hasN [] d, fun d => hasN [30] d, kf4, findF hd4, findF jn4⟩, bodyOf Try.f4, 63, [.tmp 4]⟩
def kf5 : Nat → List Nat
  | 0 => [0]
  | 1 => [0, 3]
  | 2 => [0, 3, 16]
  | 3 => [2]
  | 4 => [0, 3, 4, 6]
  | 5 => [0, 3, 4, 26]
  | 6 => [2]
  | 7 => [0, 3, 4, 7]
  | 8 => [0, 3, 4, 7, 8]
  | 9 => [0, 3, 4, 7, 8, 31]
  | 10 => [0, 3, 4, 7, 8]
  | 11 => [0, 3, 4, 7, 8, 9]
  | 12 => [0, 3, 4, 7, 8, 9, 43]
  | 13 => [2]
  | 14 => [0, 3, 4, 7, 8]
  | 15 => [0, 3, 4, 7, 10]
  | 16 => [3, 4, 7, 10, 11]
  | 17 => [3, 7, 10, 11, 12]
  | 18 => [2]
  | _ => []
def hd5 : List (Nat × Head UU) := [(9, ⟨[0, 3, 4], [(7, .int .i64), (8, .int .i64)]⟩)]
def jn5 : List (Nat × Head UU) := []
noncomputable def fd5 : FD UU := ⟨⟨fun d => hasN [] d, fun d => hasN [] d, kf5, findF hd5, findF jn5⟩, bodyOf Try.f5, 72, [.tmp 2]⟩
def kf6 : Nat → List Nat
  | 0 => [0]
  | 1 => [0, 3]
  | 2 => [0, 3, 12]
  | 3 => [2]
  | 4 => [0, 3, 4, 6]
  | 5 => [0, 3, 4, 6, 7]
  | 6 => [0, 3, 4, 7, 24]
  | 7 => [2]
  | 8 => [0, 3, 7, 8]
  | 9 => [0, 3, 7, 8, 34]
  | 10 => [0, 3, 7, 8]
  | 11 => [0, 3, 7, 8, 42]
  | 12 => [2]
  | 13 => [2]
  | _ => []
def hd6 : List (Nat × Head UU) := [(9, ⟨[0, 3, 7], [(8, .int .i64)]⟩)]
def jn6 : List (Nat × Head UU) := []
noncomputable def fd6 : FD UU := ⟨⟨fun d => hasN [] d, fun d => hasN [] d, kf6, findF hd6, findF jn6⟩, bodyOf Try.f6, 51, [.tmp 2]⟩
def kf7 : Nat → List Nat
  | 0 => [0, 1]
  | 1 => [0, 1, 5]
  | 2 => [0, 1, 5, 26]
  | 3 => [4]
  | 4 => [0, 1, 5, 6, 8]
  | 5 => [0, 1, 5, 6, 8, 9, 10, 11]
  | 6 => [0, 5, 6, 8, 9, 10, 11, 12, 13, 14]
  | 7 => [0, 5, 6, 9, 10, 11, 12, 13, 14, 54]
  | 8 => [4]
  | 9 => [0, 5, 6, 9, 10, 11, 12, 13, 14, 57]
  | 10 => [4]
  | 11 => [0, 5, 6, 9, 12, 88]
  | 12 => [4]
  | 13 => [0, 5, 6, 9, 12, 15]
  | 14 => [0, 5, 6, 12, 15, 16]
  | 15 => [0, 5, 6, 12, 15, 16, 17]
  | 16 => [0, 5, 6, 12, 15, 16, 17, 105]
  | 17 => [0, 5, 6, 12, 15, 16, 17]
  | 18 => [0, 5, 6, 12, 15, 16, 17, 119]
  | 19 => [4]
  | 20 => [4]
  | _ => []
def hd7 : List (Nat × Head UU) := [(16, ⟨[0, 5, 6, 12, 15, 16], [(17, .int .i64)]⟩)]
def jn7 : List (Nat × Head UU) := []
noncomputable def fd7 : FD UU := ⟨⟨fun d => hasN [] d, fun d => hasN [43] d, kf7, findF hd7, findF jn7⟩, bodyOf Try.f7, 136, [.tmp 4]⟩
def kf8 : Nat → List Nat
  | 0 => [0]
  | 1 => [0, 3]
  | 2 => [0, 3, 22]
  | 3 => [2]
  | 4 => [0, 3, 4, 6]
  | 5 => [0, 3, 4, 32]
  | 6 => [2]
  | 7 => [0, 3, 7]
  | 8 => [0, 3, 7, 8, 10]
  | 9 => [0, 3, 7, 8, 10, 11, 13]
  | 10 => [0, 3, 7, 8, 11, 89]
  | 11 => [2]
  | 12 => [0, 3, 7, 8, 11, 14]
  | 13 => [0, 3, 7, 8, 11, 14, 15]
  | 14 => [0, 3, 7, 8, 11, 14, 15, 16]
  | 15 => [0, 3, 7, 8, 11, 14, 15, 16, 17]
  | 16 => [0, 3, 7, 8, 11, 14, 15, 16, 17, 127]
  | 17 => [2]
  | 18 => [0, 3, 7, 8, 11, 14, 15, 16, 17, 18]
  | 19 => [0, 3, 7, 8, 11, 14, 15, 16, 17, 18, 131]
  | 20 => [0, 3, 7, 8, 11, 14, 15, 16, 17, 18]
  | 21 => [0, 3, 7, 8, 11, 14, 15, 16, 17, 18, 149]
  | 22 => [2]
  | 23 => [2]
  | _ => []
def hd8 : List (Nat × Head UU) := [(19, ⟨[0, 3, 7, 8, 11, 14, 15, 16, 17], [(18, .int .i64)]⟩)]
def jn8 : List (Nat × Head UU) := []
noncomputable def fd8 : FD UU := ⟨⟨fun d => hasN [] d, fun d => hasN [37, 48] d, kf8, findF hd8, findF jn8⟩, bodyOf Try.f8, 181, [.tmp 2]⟩
def kf9 : Nat → List Nat
  | 0 => []
  | 1 => [1, 2, 3]
  | 2 => [1, 2, 3, 5, 6]
  | 3 => [1, 2, 3, 5, 6, 8, 9]
  | 4 => [1, 2, 3, 5, 6, 8, 9, 11, 12]
  | 5 => [1, 2, 3, 5, 6, 8, 9, 11, 12, 13]
  | 6 => [1, 2, 3, 5, 6, 8, 9, 11, 12, 13, 14]
  | 7 => [1, 2, 3, 5, 6, 8, 9, 11, 12, 13, 14, 15]
  | 8 => [1, 2, 3, 5, 6, 8, 9, 11, 12, 13, 14, 15, 16]
  | 9 => [0]
  | _ => []
def hd9 : List (Nat × Head UU) := []
def jn9 : List (Nat × Head UU) := []
noncomputable def fd9 : FD UU := ⟨⟨fun d => hasN [] d, fun d => hasN [] d, kf9, findF hd9, findF jn9⟩, bodyOf Try.f9, 111, [.tmp 0]⟩
noncomputable def run9 (fu : Nat) (c10 : List LineT × Unit → Option (List It × Int × Int × Unit)) (c11 : List Int × Unit → Option (List LineT × Unit)) (c13 : List It × List It × Unit → Option (Bool × Unit)) (c14 : List It × Int × Unit → Option (List Int × Unit)) (c15 : List Int × List Int × Unit → Option (Bool × Unit)) (nf : Nat → Bool) : Option (denAs rs9) :=
  runF CC Tb fu 2 (findF []) (findF [(10, (⟨as10, rs10, c10⟩ : Con UU)), (11, (⟨as11, rs11, c11⟩ : Con UU)), (13, (⟨as13, rs13, c13⟩ : Con UU)), (14, (⟨as14, rs14, c14⟩ : Con UU)), (15, (⟨as15, rs15, c15⟩ : Con UU))]) fd9 as9 rs9 nf ()
theorem fdok9 : FDOk Try.prog (hasN [10, 11, 13, 14, 15]) 9 fd9 := ⟨⟨Try.f9, Try.func9, by kernel_rfl, Try.ntmps9, Try.results9⟩, by kernel_rfl, by kernel_rfl, by kernel_rfl⟩
noncomputable def run3 (fu : Nat) (c9 : Unit → Option (Bool × Unit)) (c10 : List LineT × Unit → Option (List It × Int × Int × Unit)) (c11 : List Int × Unit → Option (List LineT × Unit)) (c12 : List LineT × Unit → Option (List It × Int × Int × Unit)) (c13 : List It × List It × Unit → Option (Bool × Unit)) (nf : Nat → Bool) (x0 : List Int) : Option (denAs rs3) :=
  runF CC Tb fu 2 (findF []) (findF [(9, (⟨as9, rs9, c9⟩ : Con UU)), (10, (⟨as10, rs10, c10⟩ : Con UU)), (11, (⟨as11, rs11, c11⟩ : Con UU)), (12, (⟨as12, rs12, c12⟩ : Con UU)), (13, (⟨as13, rs13, c13⟩ : Con UU))]) fd3 as3 rs3 nf (x0, ())
theorem fdok3 : FDOk Try.prog (hasN [9, 10, 11, 12, 13]) 3 fd3 := ⟨⟨Try.f3, Try.func3, by kernel_rfl, Try.ntmps3, Try.results3⟩, by kernel_rfl, by kernel_rfl, by kernel_rfl⟩
noncomputable def run4 (fu : Nat) (c9 : Unit → Option (Bool × Unit)) (c10 : List LineT × Unit → Option (List It × Int × Int × Unit)) (c11 : List Int × Unit → Option (List LineT × Unit)) (nf : Nat → Bool) (x0 : List Int) (x1 : List Int) : Option (denAs rs4) :=
  runF CC Tb fu 2 (findF []) (findF [(9, (⟨as9, rs9, c9⟩ : Con UU)), (10, (⟨as10, rs10, c10⟩ : Con UU)), (11, (⟨as11, rs11, c11⟩ : Con UU))]) fd4 as4 rs4 nf (x0, x1, ())
theorem fdok4 : FDOk Try.prog (hasN [9, 10, 11]) 4 fd4 := ⟨⟨Try.f4, Try.func4, by kernel_rfl, Try.ntmps4, Try.results4⟩, by kernel_rfl, by kernel_rfl, by kernel_rfl⟩
noncomputable def run5 (fu : Nat) (c9 : Unit → Option (Bool × Unit)) (c10 : List LineT × Unit → Option (List It × Int × Int × Unit)) (c11 : List Int × Unit → Option (List LineT × Unit)) (c14 : List It × Int × Unit → Option (List Int × Unit)) (c15 : List Int × List Int × Unit → Option (Bool × Unit)) (c16 : List LineT × Int × Unit → Option (List Int × Unit)) (c17 : List It × Unit → Option (Int × Unit)) (nf : Nat → Bool) (x0 : List Int) : Option (denAs rs5) :=
  runF CC Tb fu 2 (findF []) (findF [(9, (⟨as9, rs9, c9⟩ : Con UU)), (10, (⟨as10, rs10, c10⟩ : Con UU)), (11, (⟨as11, rs11, c11⟩ : Con UU)), (14, (⟨as14, rs14, c14⟩ : Con UU)), (15, (⟨as15, rs15, c15⟩ : Con UU)), (16, (⟨as16, rs16, c16⟩ : Con UU)), (17, (⟨as17, rs17, c17⟩ : Con UU))]) fd5 as5 rs5 nf (x0, ())
theorem fdok5 : FDOk Try.prog (hasN [9, 10, 11, 14, 15, 16, 17]) 5 fd5 := ⟨⟨Try.f5, Try.func5, by kernel_rfl, Try.ntmps5, Try.results5⟩, by kernel_rfl, by kernel_rfl, by kernel_rfl⟩
noncomputable def run6 (fu : Nat) (c9 : Unit → Option (Bool × Unit)) (c10 : List LineT × Unit → Option (List It × Int × Int × Unit)) (c11 : List Int × Unit → Option (List LineT × Unit)) (c18 : List It × Unit → Option (List Int × Unit)) (nf : Nat → Bool) (x0 : List Int) : Option (denAs rs6) :=
  runF CC Tb fu 2 (findF []) (findF [(9, (⟨as9, rs9, c9⟩ : Con UU)), (10, (⟨as10, rs10, c10⟩ : Con UU)), (11, (⟨as11, rs11, c11⟩ : Con UU)), (18, (⟨as18, rs18, c18⟩ : Con UU))]) fd6 as6 rs6 nf (x0, ())
theorem fdok6 : FDOk Try.prog (hasN [9, 10, 11, 18]) 6 fd6 := ⟨⟨Try.f6, Try.func6, by kernel_rfl, Try.ntmps6, Try.results6⟩, by kernel_rfl, by kernel_rfl, by kernel_rfl⟩
noncomputable def run7 (fu : Nat) (c9 : Unit → Option (Bool × Unit)) (c10 : List LineT × Unit → Option (List It × Int × Int × Unit)) (c11 : List Int × Unit → Option (List LineT × Unit)) (c13 : List It × List It × Unit → Option (Bool × Unit)) (c18 : List It × Unit → Option (List Int × Unit)) (nf : Nat → Bool) (x0 : List Int) (x1 : List Int) : Option (denAs rs7) :=
  runF CC Tb fu 2 (findF []) (findF [(9, (⟨as9, rs9, c9⟩ : Con UU)), (10, (⟨as10, rs10, c10⟩ : Con UU)), (11, (⟨as11, rs11, c11⟩ : Con UU)), (13, (⟨as13, rs13, c13⟩ : Con UU)), (18, (⟨as18, rs18, c18⟩ : Con UU))]) fd7 as7 rs7 nf (x0, x1, ())
theorem fdok7 : FDOk Try.prog (hasN [9, 10, 11, 13, 18]) 7 fd7 := ⟨⟨Try.f7, Try.func7, by kernel_rfl, Try.ntmps7, Try.results7⟩, by kernel_rfl, by kernel_rfl, by kernel_rfl⟩
noncomputable def run8 (fu : Nat) (c9 : Unit → Option (Bool × Unit)) (c10 : List LineT × Unit → Option (List It × Int × Int × Unit)) (c11 : List Int × Unit → Option (List LineT × Unit)) (c17 : List It × Unit → Option (Int × Unit)) (c18 : List It × Unit → Option (List Int × Unit)) (nf : Nat → Bool) (x0 : List Int) : Option (denAs rs8) :=
  runF CC Tb fu 2 (findF []) (findF [(9, (⟨as9, rs9, c9⟩ : Con UU)), (10, (⟨as10, rs10, c10⟩ : Con UU)), (11, (⟨as11, rs11, c11⟩ : Con UU)), (17, (⟨as17, rs17, c17⟩ : Con UU)), (18, (⟨as18, rs18, c18⟩ : Con UU))]) fd8 as8 rs8 nf (x0, ())
theorem fdok8 : FDOk Try.prog (hasN [9, 10, 11, 17, 18]) 8 fd8 := ⟨⟨Try.f8, Try.func8, by kernel_rfl, Try.ntmps8, Try.results8⟩, by kernel_rfl, by kernel_rfl, by kernel_rfl⟩
end Go.Proofs.Ytdedkemkmccliaa
