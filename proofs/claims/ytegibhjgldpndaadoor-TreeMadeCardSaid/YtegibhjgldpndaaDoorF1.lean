/-
  The functions' data and their runs.
-/
import Derived.Test.YtegibhjgldpndaaDoorT
set_option linter.unusedVariables false
set_option linter.unusedSimpArgs false
namespace Go.Proofs.YtegibhjgldpndaaDoor
open Go.Al Go.Den

abbrev as10 : List (AK UU) := [.str]
abbrev rs10 : List (AK UU) := [.st TI.node, .int .i64]
abbrev as11 : List (AK UU) := [.str]
abbrev rs11 : List (AK UU) := [.int .i64]
abbrev as12 : List (AK UU) := [.st TI.node]
abbrev rs12 : List (AK UU) := [.str]
abbrev as14 : List (AK UU) := [.st TI.node, .int .i64]
abbrev rs14 : List (AK UU) := [.dl TI.int]
abbrev as16 : List (AK UU) := [.ls TI.int, .ls TI.int]
abbrev rs16 : List (AK UU) := [.bool]
abbrev as17 : List (AK UU) := [.str]
abbrev rs17 : List (AK UU) := [.dl TI.int]
abbrev as18 : List (AK UU) := [.str, .int .i64]
abbrev rs18 : List (AK UU) := [.bl TI.int]
abbrev as19 : List (AK UU) := [.str, .int .i64]
abbrev rs19 : List (AK UU) := [.int .i64]
abbrev as20 : List (AK UU) := [.st TI.node, .st TI.node]
abbrev rs20 : List (AK UU) := [.bool]
abbrev as21 : List (AK UU) := [.int .i64, .dl TI.node]
abbrev rs21 : List (AK UU) := [.st TI.node]
abbrev as22 : List (AK UU) := [.st TI.node, .int .i64]
abbrev rs22 : List (AK UU) := [.st TI.node]
abbrev as24 : List (AK UU) := [.int .i64]
abbrev rs24 : List (AK UU) := [.st TI.node]
abbrev as25 : List (AK UU) := [.str]
abbrev rs25 : List (AK UU) := [.st TI.node, .str, .int .i64, .bool]
abbrev as26 : List (AK UU) := [.str]
abbrev rs26 : List (AK UU) := [.dl TI.piece, .int .i64, .bool]
abbrev as27 : List (AK UU) := [.int .i64]
abbrev rs27 : List (AK UU) := [.str]
abbrev as29 : List (AK UU) := [.st TI.node, .int .i64]
abbrev rs29 : List (AK UU) := [.dl TI.int, .bool]
abbrev as30 : List (AK UU) := [.str, .str]
abbrev rs30 : List (AK UU) := [.bool]
abbrev as31 : List (AK UU) := [.str, .int .i64, .int .i64]
abbrev rs31 : List (AK UU) := [.int .i64, .str, .bool]
abbrev as32 : List (AK UU) := [.str, .str]
abbrev rs32 : List (AK UU) := [.str]
abbrev as33 : List (AK UU) := [.str, .int .i64, .int .i64, .int .i64]
abbrev rs33 : List (AK UU) := [.int .i64, .int .i64]
abbrev as37 : List (AK UU) := [.str, .str]
abbrev rs37 : List (AK UU) := [.bool]
abbrev as38 : List (AK UU) := [.str]
abbrev rs38 : List (AK UU) := [.int .i64, .err]
abbrev as39 : List (AK UU) := [.str, .str]
abbrev rs39 : List (AK UU) := [.str]
def kf10 : Nat → List Nat
  | 0 => [0, 2]
  | 1 => [0, 2, 10]
  | 2 => [2, 3]
  | 3 => [2, 4, 5, 6, 7]
  | 4 => [2, 4, 6, 19]
  | 5 => [2, 3]
  | 6 => [2, 4, 27]
  | 7 => [2, 3]
  | 8 => [2, 3]
  | _ => []
def hd10 : List (Nat × Head UU) := []
def jn10 : List (Nat × Head UU) := []
noncomputable def fd10 : FD UU := ⟨⟨fun d => hasN [] d, fun d => hasN [] d, kf10, findF hd10, findF jn10⟩, bodyOf Tryd.f10, 32, [.cell 2 25, .tmp 3]⟩
def kf11 : Nat → List Nat
  | 0 => [0]
  | 1 => [0, 8]
  | 2 => [2]
  | 3 => [4, 5]
  | 4 => [4, 16]
  | 5 => [2]
  | 6 => [18]
  | 7 => [2]
  | 8 => [2]
  | _ => []
def hd11 : List (Nat × Head UU) := []
def jn11 : List (Nat × Head UU) := []
noncomputable def fd11 : FD UU := ⟨⟨fun d => hasN [] d, fun d => hasN [] d, kf11, findF hd11, findF jn11⟩, bodyOf Tryd.f11, 19, [.tmp 2]⟩
def kf12 : Nat → List Nat
  | 0 => [1]
  | 1 => [1, 8]
  | 2 => [2]
  | 3 => [1, 3]
  | 4 => [3, 17, 18, 19]
  | 5 => [3, 17, 18, 19, 20]
  | 6 => [3, 5, 17, 18, 19]
  | 7 => [3, 17, 18, 19]
  | 8 => [3, 17, 18, 19]
  | 9 => [2]
  | _ => []
def hd12 : List (Nat × Head UU) := [(5, ⟨[17, 18], [(3, .str), (19, .int .i64)]⟩)]
def jn12 : List (Nat × Head UU) := []
noncomputable def fd12 : FD UU := ⟨⟨fun d => hasN [] d, fun d => hasN [] d, kf12, findF hd12, findF jn12⟩, bodyOf Tryd.f12, 31, [.tmp 2]⟩
def kf14 : Nat → List Nat
  | 0 => [1, 2]
  | 1 => [5]
  | 2 => [4]
  | _ => []
def hd14 : List (Nat × Head UU) := []
def jn14 : List (Nat × Head UU) := []
noncomputable def fd14 : FD UU := ⟨⟨fun d => hasN [] d, fun d => hasN [] d, kf14, findF hd14, findF jn14⟩, bodyOf Tryd.f14, 14, [.tmp 4]⟩
def kf16 : Nat → List Nat
  | 0 => [0, 1]
  | 1 => [0, 1, 10]
  | 2 => [4]
  | 3 => [0, 1, 5]
  | 4 => [0, 1, 5, 14]
  | 5 => [0, 1, 5]
  | 6 => [0, 1, 5, 25]
  | 7 => [4]
  | 8 => [4]
  | _ => []
def hd16 : List (Nat × Head UU) := [(4, ⟨[0, 1], [(5, .int .i64)]⟩)]
def jn16 : List (Nat × Head UU) := []
noncomputable def fd16 : FD UU := ⟨⟨fun d => hasN [] d, fun d => hasN [] d, kf16, findF hd16, findF jn16⟩, bodyOf Tryd.f16, 26, [.tmp 4]⟩
def kf17 : Nat → List Nat
  | 0 => [0]
  | 1 => [3]
  | 2 => [3, 6]
  | 3 => [3, 6, 7]
  | 4 => [3, 6, 7, 17]
  | 5 => [3, 6, 7]
  | 6 => [3, 6, 7, 25]
  | 7 => [3, 6, 7]
  | 8 => [2]
  | _ => []
def hd17 : List (Nat × Head UU) := [(4, ⟨[3], [(6, .ow true TI.int), (7, .int .i64)]⟩)]
def jn17 : List (Nat × Head UU) := []
noncomputable def fd17 : FD UU := ⟨⟨fun d => hasN [] d, fun d => hasN [] d, kf17, findF hd17, findF jn17⟩, bodyOf Tryd.f17, 35, [.tmp 2]⟩
def kf18 : Nat → List Nat
  | 0 => [0, 1]
  | 1 => [1, 5]
  | 2 => [1, 5, 8]
  | 3 => [1, 5, 8, 9]
  | 4 => [1, 5, 8, 9, 19]
  | 5 => [1, 5, 8, 9]
  | 6 => [1, 5, 8, 9, 27]
  | 7 => [1, 5, 8, 9]
  | 8 => [1, 5, 8, 9, 41]
  | 9 => [1, 5, 8, 9]
  | 10 => [1, 5, 8, 9, 61]
  | 11 => [4]
  | 12 => [4]
  | _ => []
def hd18 : List (Nat × Head UU) := [(4, ⟨[1, 5], [(8, .arr TI.int), (9, .int .i64)]⟩)]
def jn18 : List (Nat × Head UU) := [(10, ⟨[1, 5, 9], [(8, .arr TI.int)]⟩), (8, ⟨[1, 5, 9], [(8, .arr TI.int)]⟩)]
noncomputable def fd18 : FD UU := ⟨⟨fun d => hasN [35] d, fun d => hasN [] d, kf18, findF hd18, findF jn18⟩, bodyOf Tryd.f18, 63, [.tmp 4]⟩
def kf19 : Nat → List Nat
  | 0 => [0, 1]
  | 1 => [1, 5]
  | 2 => [1, 5, 8]
  | 3 => [1, 5, 8, 9]
  | 4 => [1, 5, 8, 9, 19]
  | 5 => [1, 5, 8, 9]
  | 6 => [1, 5, 8, 9, 48]
  | 7 => [1, 5, 8, 9]
  | 8 => [4]
  | _ => []
def hd19 : List (Nat × Head UU) := [(4, ⟨[1, 5], [(8, .int .i64), (9, .int .i64)]⟩)]
def jn19 : List (Nat × Head UU) := []
noncomputable def fd19 : FD UU := ⟨⟨fun d => hasN [] d, fun d => hasN [] d, kf19, findF hd19, findF jn19⟩, bodyOf Tryd.f19, 52, [.tmp 4]⟩
def kf20 : Nat → List Nat
  | 0 => [2, 3]
  | 1 => [2, 3, 27]
  | 2 => [4]
  | 3 => [3, 29, 30, 31]
  | 4 => [3, 29, 30, 31, 32]
  | 5 => [3, 5, 6, 29, 30, 31]
  | 6 => [3, 29, 30, 31, 43]
  | 7 => [4]
  | 8 => [3, 29, 30, 31]
  | 9 => [4]
  | _ => []
def hd20 : List (Nat × Head UU) := [(4, ⟨[29, 30], [(3, .box [.int .i64, .int .i64, .dl TI.node]), (31, .int .i64)]⟩)]
def jn20 : List (Nat × Head UU) := []
noncomputable def fd20 : FD UU := ⟨⟨fun d => hasN [] d, fun d => hasN [] d, kf20, findF hd20, findF jn20⟩, bodyOf Tryd.f20, 45, [.tmp 4]⟩
def kf21 : Nat → List Nat
  | 0 => [0, 1, 4]
  | 1 => [4]
  | _ => []
def hd21 : List (Nat × Head UU) := []
def jn21 : List (Nat × Head UU) := []
noncomputable def fd21 : FD UU := ⟨⟨fun d => hasN [] d, fun d => hasN [] d, kf21, findF hd21, findF jn21⟩, bodyOf Tryd.f21, 8, [.cell 4 25]⟩
def kf22 : Nat → List Nat
  | 0 => [1, 2, 4]
  | 1 => [1, 2, 4, 10]
  | 2 => [4]
  | 3 => [1, 2, 4, 5]
  | 4 => [1, 2, 4, 5, 17, 18, 19]
  | 5 => [1, 2, 4, 5, 17, 18, 19, 20]
  | 6 => [1, 2, 4, 5, 7, 17, 18, 19]
  | 7 => [1, 2, 4, 5, 17, 18, 19]
  | 8 => [1, 2, 4, 5, 17, 18, 19]
  | 9 => [4]
  | _ => []
def hd22 : List (Nat × Head UU) := [(5, ⟨[1, 17, 18], [(2, .box [.int .i64, .int .i64, .dl TI.node]), (4, .box [.int .i64, .int .i64, .dl TI.node]), (5, .ow true TI.node), (19, .int .i64)]⟩)]
def jn22 : List (Nat × Head UU) := []
noncomputable def fd22 : FD UU := ⟨⟨fun d => hasN [] d, fun d => hasN [] d, kf22, findF hd22, findF jn22⟩, bodyOf Tryd.f22, 34, [.cell 4 25]⟩
def kf24 : Nat → List Nat
  | 0 => [0, 2]
  | 1 => [2]
  | _ => []
def hd24 : List (Nat × Head UU) := []
def jn24 : List (Nat × Head UU) := []
noncomputable def fd24 : FD UU := ⟨⟨fun d => hasN [] d, fun d => hasN [] d, kf24, findF hd24, findF jn24⟩, bodyOf Tryd.f24, 5, [.cell 2 25]⟩
def kf25 : Nat → List Nat
  | 0 => [0, 2, 4]
  | 1 => [0, 2, 4, 10]
  | 2 => [2, 3, 5]
  | 3 => [2, 3, 4, 5]
  | 4 => [0, 2, 4, 5]
  | 5 => [0, 2, 4, 5, 33]
  | 6 => [0, 2, 4, 6]
  | 7 => [0, 2, 4, 6]
  | 8 => [0, 2, 4, 5, 6, 7]
  | 9 => [0, 2, 4, 5, 6]
  | 10 => [0, 2, 4, 5]
  | 11 => [2, 3, 4, 5]
  | _ => []
def hd25 : List (Nat × Head UU) := [(5, ⟨[], [(0, .str), (2, .box [.int .i64, .int .i64, .ow true TI.node]), (4, .int .i64), (5, .bool)]⟩)]
def jn25 : List (Nat × Head UU) := []
noncomputable def fd25 : FD UU := ⟨⟨fun d => hasN [] d, fun d => hasN [] d, kf25, findF hd25, findF jn25⟩, bodyOf Tryd.f25, 61, [.cell 2 25, .tmp 3, .tmp 4, .tmp 5]⟩
def kf26 : Nat → List Nat
  | 0 => [0]
  | 1 => [0, 5]
  | 2 => [0, 5, 6]
  | 3 => [0, 5, 6, 7]
  | 4 => [0, 5, 6, 7, 8]
  | 5 => [0, 5, 6, 7, 8, 22]
  | 6 => [0, 5, 6, 7, 9, 10]
  | 7 => [0, 5, 6, 7, 9, 10, 31]
  | 8 => [2, 3, 4]
  | 9 => [0, 5, 6, 7, 10]
  | 10 => [0, 5, 6, 7, 10]
  | 11 => [0, 5, 6, 7, 10]
  | 12 => [0, 5, 6, 7, 8]
  | 13 => [0, 5, 6, 7, 11, 12]
  | 14 => [0, 5, 6, 7, 11, 12, 50]
  | 15 => [2, 3, 4]
  | 16 => [0, 5, 6, 7, 12]
  | 17 => [0, 5, 6, 7, 8]
  | 18 => [0, 5, 6, 7, 8, 70]
  | 19 => [0, 5, 6, 7, 8]
  | 20 => [0, 5, 6, 7, 8]
  | 21 => [0, 5, 6, 7, 8]
  | 22 => [0, 5, 6, 7, 8, 80]
  | 23 => [2, 3, 4]
  | 24 => [0, 5, 6, 7, 8, 96]
  | 25 => [2, 3, 4]
  | 26 => [0, 5, 6, 7, 8]
  | _ => []
def hd26 : List (Nat × Head UU) := [(5, ⟨[0], [(5, .ow true TI.piece), (6, .int .i64), (7, .int .i64), (8, .int .i64)]⟩), (18, ⟨[0, 7], [(5, .ow true TI.piece), (6, .int .i64), (8, .int .i64)]⟩)]
def jn26 : List (Nat × Head UU) := [(18, ⟨[0], [(5, .ow true TI.piece), (6, .int .i64), (7, .int .i64), (8, .int .i64)]⟩)]
noncomputable def fd26 : FD UU := ⟨⟨fun d => hasN [] d, fun d => hasN [] d, kf26, findF hd26, findF jn26⟩, bodyOf Tryd.f26, 99, [.tmp 2, .tmp 3, .tmp 4]⟩
def kf29 : Nat → List Nat
  | 0 => [1, 2]
  | 1 => [1, 2, 12]
  | 2 => [4, 5]
  | 3 => [1, 2, 18, 19, 20]
  | 4 => [1, 2, 18, 19, 20, 21]
  | 5 => [1, 2, 7, 18, 19, 20]
  | 6 => [1, 2, 8, 9, 18, 19, 20]
  | 7 => [1, 2, 8, 18, 19, 20, 30]
  | 8 => [4, 5]
  | 9 => [1, 2, 18, 19, 20]
  | 10 => [4, 5]
  | _ => []
def hd29 : List (Nat × Head UU) := [(4, ⟨[1, 18, 19], [(2, .box [.int .i64, .int .i64, .dl TI.node]), (20, .int .i64)]⟩)]
def jn29 : List (Nat × Head UU) := []
noncomputable def fd29 : FD UU := ⟨⟨fun d => hasN [] d, fun d => hasN [33] d, kf29, findF hd29, findF jn29⟩, bodyOf Tryd.f29, 37, [.tmp 4, .tmp 5]⟩
def kf30 : Nat → List Nat
  | 0 => [0, 1]
  | 1 => [4]
  | _ => []
def hd30 : List (Nat × Head UU) := []
def jn30 : List (Nat × Head UU) := []
noncomputable def fd30 : FD UU := ⟨⟨fun d => hasN [] d, fun d => hasN [] d, kf30, findF hd30, findF jn30⟩, bodyOf Tryd.f30, 8, [.tmp 4]⟩
def kf31 : Nat → List Nat
  | 0 => [0, 1, 2]
  | 1 => [0, 1, 2, 9]
  | 2 => [0, 1, 2, 9, 26]
  | 3 => [0, 1, 2, 9]
  | 4 => [0, 1, 2, 6, 9, 10]
  | 5 => [0, 6, 8, 9]
  | 6 => [6, 7, 8]
  | _ => []
def hd31 : List (Nat × Head UU) := [(2, ⟨[0, 1, 2], [(9, .int .i64)]⟩)]
def jn31 : List (Nat × Head UU) := []
noncomputable def fd31 : FD UU := ⟨⟨fun d => hasN [] d, fun d => hasN [] d, kf31, findF hd31, findF jn31⟩, bodyOf Tryd.f31, 62, [.tmp 6, .tmp 7, .tmp 8]⟩
def kf32 : Nat → List Nat
  | 0 => [0, 1]
  | 1 => [4]
  | _ => []
def hd32 : List (Nat × Head UU) := []
def jn32 : List (Nat × Head UU) := []
noncomputable def fd32 : FD UU := ⟨⟨fun d => hasN [] d, fun d => hasN [] d, kf32, findF hd32, findF jn32⟩, bodyOf Tryd.f32, 8, [.tmp 4]⟩
def kf33 : Nat → List Nat
  | 0 => [0, 1, 2, 3]
  | 1 => [0, 1, 2, 3, 10]
  | 2 => [0, 1, 2, 3, 10, 11]
  | 3 => [0, 1, 2, 3, 10, 11, 34]
  | 4 => [0, 1, 2, 3, 10, 11]
  | 5 => [0, 1, 2, 3, 10, 11]
  | 6 => [1, 11, 87]
  | 7 => [8, 9]
  | 8 => [8, 9]
  | _ => []
def hd33 : List (Nat × Head UU) := [(3, ⟨[0, 2, 3, 10], [(1, .int .i64), (11, .int .i64)]⟩)]
def jn33 : List (Nat × Head UU) := []
noncomputable def fd33 : FD UU := ⟨⟨fun d => hasN [] d, fun d => hasN [] d, kf33, findF hd33, findF jn33⟩, bodyOf Tryd.f33, 90, [.tmp 8, .tmp 9]⟩
def kf37 : Nat → List Nat
  | 0 => [0, 1]
  | 1 => [4]
  | _ => []
def hd37 : List (Nat × Head UU) := []
def jn37 : List (Nat × Head UU) := []
noncomputable def fd37 : FD UU := ⟨⟨fun d => hasN [] d, fun d => hasN [] d, kf37, findF hd37, findF jn37⟩, bodyOf Tryd.f37, 18, [.tmp 4]⟩
def kf39 : Nat → List Nat
  | 0 => [0, 1]
  | 1 => [0, 1, 7]
  | 2 => [4]
  | 3 => [4]
  | _ => []
def hd39 : List (Nat × Head UU) := []
def jn39 : List (Nat × Head UU) := []
noncomputable def fd39 : FD UU := ⟨⟨fun d => hasN [] d, fun d => hasN [] d, kf39, findF hd39, findF jn39⟩, bodyOf Tryd.f39, 13, [.tmp 4]⟩
noncomputable def run30 (fu : Nat) (nf : Nat → Bool) (x0 : List UInt8) (x1 : List UInt8) : Option (denAs rs30) :=
  runF2 CC Tb fu 3 (findF [(37, fd37)]) (findF []) fd30 as30 rs30 nf (x0, x1, ())
theorem fdok30 : FDOk Tryd.prog (hasN []) 30 fd30 := ⟨⟨Tryd.f30, Tryd.func30, by kernel_rfl, Tryd.ntmps30, Tryd.results30⟩, by kernel_rfl, by kernel_rfl, by kernel_rfl⟩
theorem fdok30_37 : FDOk Tryd.prog (hasN []) 37 fd37 := ⟨⟨Tryd.f37, Tryd.func37, by kernel_rfl, Tryd.ntmps37, Tryd.results37⟩, by kernel_rfl, by kernel_rfl, by kernel_rfl⟩
noncomputable def run32 (fu : Nat) (nf : Nat → Bool) (x0 : List UInt8) (x1 : List UInt8) : Option (denAs rs32) :=
  runF2 CC Tb fu 4 (findF [(37, fd37), (39, fd39)]) (findF []) fd32 as32 rs32 nf (x0, x1, ())
theorem fdok32 : FDOk Tryd.prog (hasN []) 32 fd32 := ⟨⟨Tryd.f32, Tryd.func32, by kernel_rfl, Tryd.ntmps32, Tryd.results32⟩, by kernel_rfl, by kernel_rfl, by kernel_rfl⟩
theorem fdok32_37 : FDOk Tryd.prog (hasN []) 37 fd37 := ⟨⟨Tryd.f37, Tryd.func37, by kernel_rfl, Tryd.ntmps37, Tryd.results37⟩, by kernel_rfl, by kernel_rfl, by kernel_rfl⟩
theorem fdok32_39 : FDOk Tryd.prog (hasN []) 39 fd39 := ⟨⟨Tryd.f39, Tryd.func39, by kernel_rfl, Tryd.ntmps39, Tryd.results39⟩, by kernel_rfl, by kernel_rfl, by kernel_rfl⟩
noncomputable def run33 (fu : Nat) (nf : Nat → Bool) (x0 : List UInt8) (x1 : Int) (x2 : Int) (x3 : Int) : Option (denAs rs33) :=
  runF2 CC Tb fu 2 (findF []) (findF []) fd33 as33 rs33 nf (x0, x1, x2, x3, ())
theorem fdok33 : FDOk Tryd.prog (hasN []) 33 fd33 := ⟨⟨Tryd.f33, Tryd.func33, by kernel_rfl, Tryd.ntmps33, Tryd.results33⟩, by kernel_rfl, by kernel_rfl, by kernel_rfl⟩
noncomputable def run31 (fu : Nat) (c38 : List UInt8 × Unit → Option (Int × Bool × Unit)) (nf : Nat → Bool) (x0 : List UInt8) (x1 : Int) (x2 : Int) : Option (denAs rs31) :=
  runF2 CC Tb fu 2 (findF []) (findF [(38, (⟨as38, rs38, c38⟩ : Con UU))]) fd31 as31 rs31 nf (x0, x1, x2, ())
theorem fdok31 : FDOk Tryd.prog (hasN [38]) 31 fd31 := ⟨⟨Tryd.f31, Tryd.func31, by kernel_rfl, Tryd.ntmps31, Tryd.results31⟩, by kernel_rfl, by kernel_rfl, by kernel_rfl⟩
noncomputable def run24 (fu : Nat) (nf : Nat → Bool) (x0 : Int) : Option (denAs rs24) :=
  runF2 CC Tb fu 2 (findF []) (findF []) fd24 as24 rs24 nf (x0, ())
theorem fdok24 : FDOk Tryd.prog (hasN []) 24 fd24 := ⟨⟨Tryd.f24, Tryd.func24, by kernel_rfl, Tryd.ntmps24, Tryd.results24⟩, by kernel_rfl, by kernel_rfl, by kernel_rfl⟩
noncomputable def run21 (fu : Nat) (nf : Nat → Bool) (x0 : Int) (x1 : List Nd) : Option (denAs rs21) :=
  runF2 CC Tb fu 2 (findF []) (findF []) fd21 as21 rs21 nf (x0, x1, ())
theorem fdok21 : FDOk Tryd.prog (hasN []) 21 fd21 := ⟨⟨Tryd.f21, Tryd.func21, by kernel_rfl, Tryd.ntmps21, Tryd.results21⟩, by kernel_rfl, by kernel_rfl, by kernel_rfl⟩
noncomputable def run20 (fu : Nat) (c20 : Nd × Nd × Unit → Option (Bool × Unit)) (nf : Nat → Bool) (x0 : Nd) (x1 : Nd) : Option (denAs rs20) :=
  runF2 CC Tb fu 2 (findF []) (findF [(20, (⟨as20, rs20, c20⟩ : Con UU))]) fd20 as20 rs20 nf (x0, x1, ())
theorem fdok20 : FDOk Tryd.prog (hasN [20]) 20 fd20 := ⟨⟨Tryd.f20, Tryd.func20, by kernel_rfl, Tryd.ntmps20, Tryd.results20⟩, by kernel_rfl, by kernel_rfl, by kernel_rfl⟩
noncomputable def run16 (fu : Nat) (nf : Nat → Bool) (x0 : List Int) (x1 : List Int) : Option (denAs rs16) :=
  runF2 CC Tb fu 2 (findF []) (findF []) fd16 as16 rs16 nf (x0, x1, ())
theorem fdok16 : FDOk Tryd.prog (hasN []) 16 fd16 := ⟨⟨Tryd.f16, Tryd.func16, by kernel_rfl, Tryd.ntmps16, Tryd.results16⟩, by kernel_rfl, by kernel_rfl, by kernel_rfl⟩
noncomputable def run29 (fu : Nat) (c29 : Nd × Int × Unit → Option (List Int × Bool × Unit)) (nf : Nat → Bool) (x0 : Nd) (x1 : Int) : Option (denAs rs29) :=
  runF2 CC Tb fu 2 (findF []) (findF [(29, (⟨as29, rs29, c29⟩ : Con UU))]) fd29 as29 rs29 nf (x0, x1, ())
theorem fdok29 : FDOk Tryd.prog (hasN [29]) 29 fd29 := ⟨⟨Tryd.f29, Tryd.func29, by kernel_rfl, Tryd.ntmps29, Tryd.results29⟩, by kernel_rfl, by kernel_rfl, by kernel_rfl⟩
noncomputable def run14 (fu : Nat) (c29 : Nd × Int × Unit → Option (List Int × Bool × Unit)) (nf : Nat → Bool) (x0 : Nd) (x1 : Int) : Option (denAs rs14) :=
  runF2 CC Tb fu 2 (findF []) (findF [(29, (⟨as29, rs29, c29⟩ : Con UU))]) fd14 as14 rs14 nf (x0, x1, ())
theorem fdok14 : FDOk Tryd.prog (hasN [29]) 14 fd14 := ⟨⟨Tryd.f14, Tryd.func14, by kernel_rfl, Tryd.ntmps14, Tryd.results14⟩, by kernel_rfl, by kernel_rfl, by kernel_rfl⟩
noncomputable def run22 (fu : Nat) (c21 : Int × List Nd × Unit → Option (Nd × Unit)) (c22 : Nd × Int × Unit → Option (Nd × Unit)) (c24 : Int × Unit → Option (Nd × Unit)) (nf : Nat → Bool) (x0 : Nd) (x1 : Int) : Option (denAs rs22) :=
  runF2 CC Tb fu 2 (findF []) (findF [(21, (⟨as21, rs21, c21⟩ : Con UU)), (22, (⟨as22, rs22, c22⟩ : Con UU)), (24, (⟨as24, rs24, c24⟩ : Con UU))]) fd22 as22 rs22 nf (x0, x1, ())
theorem fdok22 : FDOk Tryd.prog (hasN [21, 22, 24]) 22 fd22 := ⟨⟨Tryd.f22, Tryd.func22, by kernel_rfl, Tryd.ntmps22, Tryd.results22⟩, by kernel_rfl, by kernel_rfl, by kernel_rfl⟩
noncomputable def run12 (fu : Nat) (c12 : Nd × Unit → Option (List UInt8 × Unit)) (c27 : Int × Unit → Option (List UInt8 × Unit)) (nf : Nat → Bool) (x0 : Nd) : Option (denAs rs12) :=
  runF2 CC Tb fu 2 (findF []) (findF [(12, (⟨as12, rs12, c12⟩ : Con UU)), (27, (⟨as27, rs27, c27⟩ : Con UU))]) fd12 as12 rs12 nf (x0, ())
theorem fdok12 : FDOk Tryd.prog (hasN [12, 27]) 12 fd12 := ⟨⟨Tryd.f12, Tryd.func12, by kernel_rfl, Tryd.ntmps12, Tryd.results12⟩, by kernel_rfl, by kernel_rfl, by kernel_rfl⟩
noncomputable def run25 (fu : Nat) (c25 : List UInt8 × Unit → Option (Nd × List UInt8 × Int × Bool × Unit)) (c30 : List UInt8 × List UInt8 × Unit → Option (Bool × Unit)) (c31 : List UInt8 × Int × Int × Unit → Option (Int × List UInt8 × Bool × Unit)) (c32 : List UInt8 × List UInt8 × Unit → Option (List UInt8 × Unit)) (nf : Nat → Bool) (x0 : List UInt8) : Option (denAs rs25) :=
  runF2 CC Tb fu 2 (findF []) (findF [(25, (⟨as25, rs25, c25⟩ : Con UU)), (30, (⟨as30, rs30, c30⟩ : Con UU)), (31, (⟨as31, rs31, c31⟩ : Con UU)), (32, (⟨as32, rs32, c32⟩ : Con UU))]) fd25 as25 rs25 nf (x0, ())
theorem fdok25 : FDOk Tryd.prog (hasN [25, 30, 31, 32]) 25 fd25 := ⟨⟨Tryd.f25, Tryd.func25, by kernel_rfl, Tryd.ntmps25, Tryd.results25⟩, by kernel_rfl, by kernel_rfl, by kernel_rfl⟩
noncomputable def run10 (fu : Nat) (c25 : List UInt8 × Unit → Option (Nd × List UInt8 × Int × Bool × Unit)) (nf : Nat → Bool) (x0 : List UInt8) : Option (denAs rs10) :=
  runF2 CC Tb fu 2 (findF []) (findF [(25, (⟨as25, rs25, c25⟩ : Con UU))]) fd10 as10 rs10 nf (x0, ())
theorem fdok10 : FDOk Tryd.prog (hasN [25]) 10 fd10 := ⟨⟨Tryd.f10, Tryd.func10, by kernel_rfl, Tryd.ntmps10, Tryd.results10⟩, by kernel_rfl, by kernel_rfl, by kernel_rfl⟩
noncomputable def run26 (fu : Nat) (c33 : List UInt8 × Int × Int × Int × Unit → Option (Int × Int × Unit)) (nf : Nat → Bool) (x0 : List UInt8) : Option (denAs rs26) :=
  runF2 CC Tb fu 2 (findF []) (findF [(33, (⟨as33, rs33, c33⟩ : Con UU))]) fd26 as26 rs26 nf (x0, ())
theorem fdok26 : FDOk Tryd.prog (hasN [33]) 26 fd26 := ⟨⟨Tryd.f26, Tryd.func26, by kernel_rfl, Tryd.ntmps26, Tryd.results26⟩, by kernel_rfl, by kernel_rfl, by kernel_rfl⟩
noncomputable def run11 (fu : Nat) (c26 : List UInt8 × Unit → Option (List PieceT × Int × Bool × Unit)) (nf : Nat → Bool) (x0 : List UInt8) : Option (denAs rs11) :=
  runF2 CC Tb fu 2 (findF []) (findF [(26, (⟨as26, rs26, c26⟩ : Con UU))]) fd11 as11 rs11 nf (x0, ())
theorem fdok11 : FDOk Tryd.prog (hasN [26]) 11 fd11 := ⟨⟨Tryd.f11, Tryd.func11, by kernel_rfl, Tryd.ntmps11, Tryd.results11⟩, by kernel_rfl, by kernel_rfl, by kernel_rfl⟩
noncomputable def run17 (fu : Nat) (c26 : List UInt8 × Unit → Option (List PieceT × Int × Bool × Unit)) (nf : Nat → Bool) (x0 : List UInt8) : Option (denAs rs17) :=
  runF2 CC Tb fu 2 (findF []) (findF [(26, (⟨as26, rs26, c26⟩ : Con UU))]) fd17 as17 rs17 nf (x0, ())
theorem fdok17 : FDOk Tryd.prog (hasN [26]) 17 fd17 := ⟨⟨Tryd.f17, Tryd.func17, by kernel_rfl, Tryd.ntmps17, Tryd.results17⟩, by kernel_rfl, by kernel_rfl, by kernel_rfl⟩
noncomputable def run18 (fu : Nat) (c26 : List UInt8 × Unit → Option (List PieceT × Int × Bool × Unit)) (nf : Nat → Bool) (x0 : List UInt8) (x1 : Int) : Option (denAs rs18) :=
  runF2 CC Tb fu 2 (findF []) (findF [(26, (⟨as26, rs26, c26⟩ : Con UU))]) fd18 as18 rs18 nf (x0, x1, ())
theorem fdok18 : FDOk Tryd.prog (hasN [26]) 18 fd18 := ⟨⟨Tryd.f18, Tryd.func18, by kernel_rfl, Tryd.ntmps18, Tryd.results18⟩, by kernel_rfl, by kernel_rfl, by kernel_rfl⟩
noncomputable def run19 (fu : Nat) (c26 : List UInt8 × Unit → Option (List PieceT × Int × Bool × Unit)) (nf : Nat → Bool) (x0 : List UInt8) (x1 : Int) : Option (denAs rs19) :=
  runF2 CC Tb fu 2 (findF []) (findF [(26, (⟨as26, rs26, c26⟩ : Con UU))]) fd19 as19 rs19 nf (x0, x1, ())
theorem fdok19 : FDOk Tryd.prog (hasN [26]) 19 fd19 := ⟨⟨Tryd.f19, Tryd.func19, by kernel_rfl, Tryd.ntmps19, Tryd.results19⟩, by kernel_rfl, by kernel_rfl, by kernel_rfl⟩
end Go.Proofs.YtegibhjgldpndaaDoor
