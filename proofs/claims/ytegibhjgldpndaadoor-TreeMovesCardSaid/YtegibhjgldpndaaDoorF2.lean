/-
  The functions' data and their runs.
-/
import Derived.Test.YtegibhjgldpndaaDoorF1
set_option linter.unusedVariables false
set_option linter.unusedSimpArgs false
namespace Go.Proofs.YtegibhjgldpndaaDoor
open Go.Al Go.Den

abbrev as3 : List (AK UU) := [.str]
abbrev rs3 : List (AK UU) := [.bool]
abbrev as4 : List (AK UU) := [.str, .int .i64, .int .i64]
abbrev rs4 : List (AK UU) := [.bool]
abbrev as5 : List (AK UU) := [.str, .str]
abbrev rs5 : List (AK UU) := [.bool]
abbrev as6 : List (AK UU) := [.str, .str, .int .i64]
abbrev rs6 : List (AK UU) := [.bool]
abbrev as7 : List (AK UU) := [.str, .int .i64]
abbrev rs7 : List (AK UU) := [.bool]
abbrev as8 : List (AK UU) := [.str, .str, .int .i64]
abbrev rs8 : List (AK UU) := [.bool]
abbrev as9 : List (AK UU) := []
abbrev rs9 : List (AK UU) := [.bool]
abbrev as13 : List (AK UU) := [.st TI.node]
abbrev rs13 : List (AK UU) := [.dl TI.int]
abbrev as15 : List (AK UU) := [.st TI.node, .int .i64]
abbrev rs15 : List (AK UU) := [.dl TI.node]
abbrev as23 : List (AK UU) := [.st TI.node, .int .i64]
abbrev rs23 : List (AK UU) := [.bool]
def kf3 : Nat → List Nat
  | 0 => [0]
  | 1 => [0, 3]
  | 2 => [0, 3, 4, 5]
  | 3 => [0, 3, 4, 5, 16]
  | 4 => [2]
  | 5 => [0, 3, 4, 18]
  | 6 => [2]
  | 7 => [0, 3, 6]
  | 8 => [2]
  | _ => []
def hd3 : List (Nat × Head UU) := []
def jn3 : List (Nat × Head UU) := []
noncomputable def fd3 : FD UU := ⟨⟨fun d => hasN [] d, fun d => hasN [] d, kf3, findF hd3, findF jn3⟩, bodyOf Tryd.f3, 44, [.tmp 2]⟩
def kf4 : Nat → List Nat
  | 0 => [0, 1, 2]
  | 1 => [0, 1, 2, 7]
  | 2 => [0, 1, 2, 7, 8, 9]
  | 3 => [0, 1, 2, 7, 8, 21]
  | 4 => [6]
  | 5 => [0, 1, 2, 7, 8, 10]
  | 6 => [0, 1, 2, 7, 8, 10, 11]
  | 7 => [0, 1, 2, 7, 10, 11, 12]
  | 8 => [0, 1, 2, 7, 10, 11, 12, 13]
  | 9 => [0, 1, 2, 7, 10, 11, 12, 13, 34]
  | 10 => [0, 1, 2, 7, 10, 11, 12, 13]
  | 11 => [0, 1, 2, 7, 10, 11, 12, 13, 43]
  | 12 => [6]
  | 13 => [6]
  | _ => []
def hd4 : List (Nat × Head UU) := [(9, ⟨[0, 1, 2, 7, 10, 11, 12], [(13, .int .i64)]⟩)]
def jn4 : List (Nat × Head UU) := []
noncomputable def fd4 : FD UU := ⟨⟨fun d => hasN [] d, fun d => hasN [] d, kf4, findF hd4, findF jn4⟩, bodyOf Tryd.f4, 66, [.tmp 6]⟩
def kf5 : Nat → List Nat
  | 0 => [0, 1]
  | 1 => [0, 1, 5]
  | 2 => [0, 1, 5, 6, 7]
  | 3 => [0, 1, 5, 6, 7, 8, 9]
  | 4 => [0, 1, 5, 6, 8, 28]
  | 5 => [4]
  | 6 => [0, 1, 5, 6, 10]
  | 7 => [0, 1, 5, 10, 11]
  | 8 => [4]
  | _ => []
def hd5 : List (Nat × Head UU) := []
def jn5 : List (Nat × Head UU) := []
noncomputable def fd5 : FD UU := ⟨⟨fun d => hasN [] d, fun d => hasN [] d, kf5, findF hd5, findF jn5⟩, bodyOf Tryd.f5, 47, [.tmp 4]⟩
def kf6 : Nat → List Nat
  | 0 => [0, 1, 2]
  | 1 => [0, 1, 2, 7]
  | 2 => [0, 1, 2, 7, 8, 9]
  | 3 => [0, 1, 2, 7, 8, 9, 10, 11]
  | 4 => [0, 1, 2, 7, 8, 10, 52]
  | 5 => [6]
  | 6 => [0, 1, 2, 7, 8, 10, 12]
  | 7 => [0, 1, 2, 7, 8, 10, 12, 13]
  | 8 => [0, 1, 2, 7, 8, 10, 12, 13, 14]
  | 9 => [0, 1, 2, 7, 8, 10, 12, 13, 14, 65]
  | 10 => [6]
  | 11 => [0, 1, 2, 7, 10, 12, 13, 14, 15]
  | 12 => [0, 1, 2, 7, 12, 13, 14, 15, 16]
  | 13 => [0, 1, 7, 13, 14, 15, 16, 17]
  | 14 => [6]
  | _ => []
def hd6 : List (Nat × Head UU) := []
def jn6 : List (Nat × Head UU) := []
noncomputable def fd6 : FD UU := ⟨⟨fun d => hasN [] d, fun d => hasN [] d, kf6, findF hd6, findF jn6⟩, bodyOf Tryd.f6, 103, [.tmp 6]⟩
def kf7 : Nat → List Nat
  | 0 => [0, 1]
  | 1 => [0, 1, 5]
  | 2 => [0, 1, 5, 6, 7]
  | 3 => [0, 1, 5, 6, 31]
  | 4 => [4]
  | 5 => [1, 5, 6, 8]
  | 6 => [1, 5, 6, 8, 9]
  | 7 => [1, 5, 6, 8, 9, 38]
  | 8 => [1, 5, 6, 8, 9]
  | 9 => [1, 5, 6, 8, 9, 56]
  | 10 => [4]
  | 11 => [1, 5, 6, 10]
  | 12 => [1, 5, 6, 10, 11]
  | 13 => [1, 5, 6, 10, 12]
  | 14 => [1, 5, 10, 12, 13]
  | 15 => [1, 5, 12, 13, 14]
  | 16 => [1, 5, 12, 13, 14, 76]
  | 17 => [4]
  | 18 => [1, 5, 12, 13, 14, 15]
  | 19 => [1, 5, 12, 13, 14, 15, 80]
  | 20 => [1, 5, 12, 13, 14, 15]
  | 21 => [1, 5, 12, 13, 14, 15, 93]
  | 22 => [4]
  | 23 => [4]
  | _ => []
def hd7 : List (Nat × Head UU) := [(7, ⟨[1, 5, 8], [(6, .box [.int .i64, .int .i64, .dl TI.node]), (9, .int .i64)]⟩), (19, ⟨[1, 5, 12, 13, 14], [(15, .int .i64)]⟩)]
def jn7 : List (Nat × Head UU) := []
noncomputable def fd7 : FD UU := ⟨⟨fun d => hasN [] d, fun d => hasN [] d, kf7, findF hd7, findF jn7⟩, bodyOf Tryd.f7, 98, [.tmp 4]⟩
def kf8 : Nat → List Nat
  | 0 => [0, 1, 2]
  | 1 => [0, 1, 2, 7]
  | 2 => [0, 1, 2, 7, 8, 9]
  | 3 => [0, 1, 2, 7, 8, 9, 10, 11]
  | 4 => [1, 2, 7, 8, 10, 48]
  | 5 => [6]
  | 6 => [2, 7, 8, 10, 12]
  | 7 => [2, 7, 8, 10, 12, 13]
  | 8 => [2, 7, 8, 10, 12, 13, 55]
  | 9 => [2, 7, 8, 10, 12, 13]
  | 10 => [2, 7, 8, 10, 12, 13, 62]
  | 11 => [6]
  | 12 => [2, 7, 8, 10, 14]
  | 13 => [2, 7, 8, 10, 14, 15]
  | 14 => [2, 7, 8, 10, 14, 15, 16]
  | 15 => [7, 8, 10, 14, 15, 16, 17]
  | 16 => [7, 8, 10, 14, 15, 16, 17, 18]
  | 17 => [7, 8, 10, 14, 15, 16, 17, 18, 78]
  | 18 => [7, 8, 10, 14, 15, 16, 17, 18]
  | 19 => [7, 8, 10, 14, 15, 16, 17, 18]
  | 20 => [7, 8, 10, 14, 15, 16, 17, 19]
  | 21 => [7, 8, 10, 14, 15, 16, 17, 19, 20]
  | 22 => [7, 14, 17, 19, 20, 21]
  | 23 => [6]
  | _ => []
def hd8 : List (Nat × Head UU) := [(8, ⟨[2, 7, 12], [(8, .box [.int .i64, .int .i64, .dl TI.node]), (10, .box [.int .i64, .int .i64, .dl TI.node]), (13, .int .i64)]⟩), (17, ⟨[7, 14, 15, 16], [(8, .box [.int .i64, .int .i64, .dl TI.node]), (10, .box [.int .i64, .int .i64, .dl TI.node]), (17, .bool), (18, .int .i64)]⟩)]
def jn8 : List (Nat × Head UU) := []
noncomputable def fd8 : FD UU := ⟨⟨fun d => hasN [] d, fun d => hasN [] d, kf8, findF hd8, findF jn8⟩, bodyOf Tryd.f8, 126, [.tmp 6]⟩
def kf9 : Nat → List Nat
  | 0 => []
  | 1 => [1]
  | 2 => [1, 2]
  | 3 => [1, 2, 3, 4]
  | 4 => [1, 2, 3, 4, 5, 6]
  | 5 => [1, 2, 3, 4, 5, 6, 8]
  | 6 => [1, 2, 3, 4, 5, 6, 8, 10]
  | 7 => [1, 2, 3, 4, 5, 6, 8, 10, 12]
  | 8 => [1, 2, 3, 4, 5, 6, 8, 10, 12, 14]
  | 9 => [1, 2, 3, 4, 5, 6, 8, 10, 12, 14, 15]
  | 10 => [1, 2, 3, 4, 5, 6, 8, 10, 12, 14, 15, 16]
  | 11 => [1, 2, 3, 4, 5, 6, 8, 10, 12, 14, 15, 16, 17]
  | 12 => [2, 4, 5, 6, 8, 10, 12, 14, 15, 16, 17, 18]
  | 13 => [0]
  | _ => []
def hd9 : List (Nat × Head UU) := []
def jn9 : List (Nat × Head UU) := []
noncomputable def fd9 : FD UU := ⟨⟨fun d => hasN [] d, fun d => hasN [] d, kf9, findF hd9, findF jn9⟩, bodyOf Tryd.f9, 108, [.tmp 0]⟩
def kf23 : Nat → List Nat
  | 0 => [1, 2]
  | 1 => [1, 5]
  | 2 => [1, 5, 10, 11, 12]
  | 3 => [1, 5, 10, 11, 12, 13]
  | 4 => [1, 5, 6, 7, 10, 11, 12]
  | 5 => [1, 5, 10, 11, 12, 19]
  | 6 => [4]
  | 7 => [1, 5, 10, 11, 12]
  | 8 => [4]
  | _ => []
def hd23 : List (Nat × Head UU) := [(3, ⟨[1, 5, 10, 11], [(12, .int .i64)]⟩)]
def jn23 : List (Nat × Head UU) := []
noncomputable def fd23 : FD UU := ⟨⟨fun d => hasN [] d, fun d => hasN [] d, kf23, findF hd23, findF jn23⟩, bodyOf Tryd.f23, 25, [.tmp 4]⟩
noncomputable def run9 (fu : Nat) (c10 : List UInt8 × Unit → Option (Nd × Int × Unit)) (c12 : Nd × Unit → Option (List UInt8 × Unit)) (c13 : Nd × Unit → Option (List Int × Unit)) (c14 : Nd × Int × Unit → Option (List Int × Unit)) (c15 : Nd × Int × Unit → Option (List Nd × Unit)) (c16 : List Int × List Int × Unit → Option (Bool × Unit)) (c20 : Nd × Nd × Unit → Option (Bool × Unit)) (c21 : Int × List Nd × Unit → Option (Nd × Unit)) (c24 : Int × Unit → Option (Nd × Unit)) (nf : Nat → Bool) : Option (denAs rs9) :=
  runF2 CC Tb fu 2 (findF []) (findF [(10, (⟨as10, rs10, c10⟩ : Con UU)), (12, (⟨as12, rs12, c12⟩ : Con UU)), (13, (⟨as13, rs13, c13⟩ : Con UU)), (14, (⟨as14, rs14, c14⟩ : Con UU)), (15, (⟨as15, rs15, c15⟩ : Con UU)), (16, (⟨as16, rs16, c16⟩ : Con UU)), (20, (⟨as20, rs20, c20⟩ : Con UU)), (21, (⟨as21, rs21, c21⟩ : Con UU)), (24, (⟨as24, rs24, c24⟩ : Con UU))]) fd9 as9 rs9 nf ()
theorem fdok9 : FDOk Tryd.prog (hasN [10, 12, 13, 14, 15, 16, 20, 21, 24]) 9 fd9 := ⟨⟨Tryd.f9, Tryd.func9, by kernel_rfl, Tryd.ntmps9, Tryd.results9⟩, by kernel_rfl, by kernel_rfl, by kernel_rfl⟩
noncomputable def run3 (fu : Nat) (c9 : Unit → Option (Bool × Unit)) (c10 : List UInt8 × Unit → Option (Nd × Int × Unit)) (c11 : List UInt8 × Unit → Option (Int × Unit)) (c12 : Nd × Unit → Option (List UInt8 × Unit)) (nf : Nat → Bool) (x0 : List UInt8) : Option (denAs rs3) :=
  runF2 CC Tb fu 2 (findF []) (findF [(9, (⟨as9, rs9, c9⟩ : Con UU)), (10, (⟨as10, rs10, c10⟩ : Con UU)), (11, (⟨as11, rs11, c11⟩ : Con UU)), (12, (⟨as12, rs12, c12⟩ : Con UU))]) fd3 as3 rs3 nf (x0, ())
theorem fdok3 : FDOk Tryd.prog (hasN [9, 10, 11, 12]) 3 fd3 := ⟨⟨Tryd.f3, Tryd.func3, by kernel_rfl, Tryd.ntmps3, Tryd.results3⟩, by kernel_rfl, by kernel_rfl, by kernel_rfl⟩
noncomputable def run4 (fu : Nat) (c9 : Unit → Option (Bool × Unit)) (c10 : List UInt8 × Unit → Option (Nd × Int × Unit)) (c13 : Nd × Unit → Option (List Int × Unit)) (c14 : Nd × Int × Unit → Option (List Int × Unit)) (c15 : Nd × Int × Unit → Option (List Nd × Unit)) (c16 : List Int × List Int × Unit → Option (Bool × Unit)) (c17 : List UInt8 × Unit → Option (List Int × Unit)) (c18 : List UInt8 × Int × Unit → Option ((Bool × List Int) × Unit)) (c19 : List UInt8 × Int × Unit → Option (Int × Unit)) (nf : Nat → Bool) (x0 : List UInt8) (x1 : Int) (x2 : Int) : Option (denAs rs4) :=
  runF2 CC Tb fu 2 (findF []) (findF [(9, (⟨as9, rs9, c9⟩ : Con UU)), (10, (⟨as10, rs10, c10⟩ : Con UU)), (13, (⟨as13, rs13, c13⟩ : Con UU)), (14, (⟨as14, rs14, c14⟩ : Con UU)), (15, (⟨as15, rs15, c15⟩ : Con UU)), (16, (⟨as16, rs16, c16⟩ : Con UU)), (17, (⟨as17, rs17, c17⟩ : Con UU)), (18, (⟨as18, rs18, c18⟩ : Con UU)), (19, (⟨as19, rs19, c19⟩ : Con UU))]) fd4 as4 rs4 nf (x0, x1, x2, ())
theorem fdok4 : FDOk Tryd.prog (hasN [9, 10, 13, 14, 15, 16, 17, 18, 19]) 4 fd4 := ⟨⟨Tryd.f4, Tryd.func4, by kernel_rfl, Tryd.ntmps4, Tryd.results4⟩, by kernel_rfl, by kernel_rfl, by kernel_rfl⟩
noncomputable def run5 (fu : Nat) (c9 : Unit → Option (Bool × Unit)) (c10 : List UInt8 × Unit → Option (Nd × Int × Unit)) (c20 : Nd × Nd × Unit → Option (Bool × Unit)) (nf : Nat → Bool) (x0 : List UInt8) (x1 : List UInt8) : Option (denAs rs5) :=
  runF2 CC Tb fu 2 (findF []) (findF [(9, (⟨as9, rs9, c9⟩ : Con UU)), (10, (⟨as10, rs10, c10⟩ : Con UU)), (20, (⟨as20, rs20, c20⟩ : Con UU))]) fd5 as5 rs5 nf (x0, x1, ())
theorem fdok5 : FDOk Tryd.prog (hasN [9, 10, 20]) 5 fd5 := ⟨⟨Tryd.f5, Tryd.func5, by kernel_rfl, Tryd.ntmps5, Tryd.results5⟩, by kernel_rfl, by kernel_rfl, by kernel_rfl⟩
noncomputable def run6 (fu : Nat) (c9 : Unit → Option (Bool × Unit)) (c10 : List UInt8 × Unit → Option (Nd × Int × Unit)) (c11 : List UInt8 × Unit → Option (Int × Unit)) (c12 : Nd × Unit → Option (List UInt8 × Unit)) (c15 : Nd × Int × Unit → Option (List Nd × Unit)) (c21 : Int × List Nd × Unit → Option (Nd × Unit)) (nf : Nat → Bool) (x0 : List UInt8) (x1 : List UInt8) (x2 : Int) : Option (denAs rs6) :=
  runF2 CC Tb fu 2 (findF []) (findF [(9, (⟨as9, rs9, c9⟩ : Con UU)), (10, (⟨as10, rs10, c10⟩ : Con UU)), (11, (⟨as11, rs11, c11⟩ : Con UU)), (12, (⟨as12, rs12, c12⟩ : Con UU)), (15, (⟨as15, rs15, c15⟩ : Con UU)), (21, (⟨as21, rs21, c21⟩ : Con UU))]) fd6 as6 rs6 nf (x0, x1, x2, ())
theorem fdok6 : FDOk Tryd.prog (hasN [9, 10, 11, 12, 15, 21]) 6 fd6 := ⟨⟨Tryd.f6, Tryd.func6, by kernel_rfl, Tryd.ntmps6, Tryd.results6⟩, by kernel_rfl, by kernel_rfl, by kernel_rfl⟩
noncomputable def run7 (fu : Nat) (c9 : Unit → Option (Bool × Unit)) (c10 : List UInt8 × Unit → Option (Nd × Int × Unit)) (c13 : Nd × Unit → Option (List Int × Unit)) (c17 : List UInt8 × Unit → Option (List Int × Unit)) (c20 : Nd × Nd × Unit → Option (Bool × Unit)) (c22 : Nd × Int × Unit → Option (Nd × Unit)) (nf : Nat → Bool) (x0 : List UInt8) (x1 : Int) : Option (denAs rs7) :=
  runF2 CC Tb fu 2 (findF []) (findF [(9, (⟨as9, rs9, c9⟩ : Con UU)), (10, (⟨as10, rs10, c10⟩ : Con UU)), (13, (⟨as13, rs13, c13⟩ : Con UU)), (17, (⟨as17, rs17, c17⟩ : Con UU)), (20, (⟨as20, rs20, c20⟩ : Con UU)), (22, (⟨as22, rs22, c22⟩ : Con UU))]) fd7 as7 rs7 nf (x0, x1, ())
theorem fdok7 : FDOk Tryd.prog (hasN [9, 10, 13, 17, 20, 22]) 7 fd7 := ⟨⟨Tryd.f7, Tryd.func7, by kernel_rfl, Tryd.ntmps7, Tryd.results7⟩, by kernel_rfl, by kernel_rfl, by kernel_rfl⟩
noncomputable def run8 (fu : Nat) (c9 : Unit → Option (Bool × Unit)) (c10 : List UInt8 × Unit → Option (Nd × Int × Unit)) (c11 : List UInt8 × Unit → Option (Int × Unit)) (c13 : Nd × Unit → Option (List Int × Unit)) (c17 : List UInt8 × Unit → Option (List Int × Unit)) (c21 : Int × List Nd × Unit → Option (Nd × Unit)) (c22 : Nd × Int × Unit → Option (Nd × Unit)) (c23 : Nd × Int × Unit → Option (Bool × Unit)) (nf : Nat → Bool) (x0 : List UInt8) (x1 : List UInt8) (x2 : Int) : Option (denAs rs8) :=
  runF2 CC Tb fu 2 (findF []) (findF [(9, (⟨as9, rs9, c9⟩ : Con UU)), (10, (⟨as10, rs10, c10⟩ : Con UU)), (11, (⟨as11, rs11, c11⟩ : Con UU)), (13, (⟨as13, rs13, c13⟩ : Con UU)), (17, (⟨as17, rs17, c17⟩ : Con UU)), (21, (⟨as21, rs21, c21⟩ : Con UU)), (22, (⟨as22, rs22, c22⟩ : Con UU)), (23, (⟨as23, rs23, c23⟩ : Con UU))]) fd8 as8 rs8 nf (x0, x1, x2, ())
theorem fdok8 : FDOk Tryd.prog (hasN [9, 10, 11, 13, 17, 21, 22, 23]) 8 fd8 := ⟨⟨Tryd.f8, Tryd.func8, by kernel_rfl, Tryd.ntmps8, Tryd.results8⟩, by kernel_rfl, by kernel_rfl, by kernel_rfl⟩
noncomputable def run23 (fu : Nat) (c13 : Nd × Unit → Option (List Int × Unit)) (nf : Nat → Bool) (x0 : Nd) (x1 : Int) : Option (denAs rs23) :=
  runF2 CC Tb fu 2 (findF []) (findF [(13, (⟨as13, rs13, c13⟩ : Con UU))]) fd23 as23 rs23 nf (x0, x1, ())
theorem fdok23 : FDOk Tryd.prog (hasN [13]) 23 fd23 := ⟨⟨Tryd.f23, Tryd.func23, by kernel_rfl, Tryd.ntmps23, Tryd.results23⟩, by kernel_rfl, by kernel_rfl, by kernel_rfl⟩
end Go.Proofs.YtegibhjgldpndaaDoor
