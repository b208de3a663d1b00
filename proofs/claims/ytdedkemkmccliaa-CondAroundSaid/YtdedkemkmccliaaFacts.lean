/-
  Closed facts on the program's types and functions; which slots live across its regions.
-/
import Derived.Test.YtdedkemkmccliaaAC
import Derived.Test.YtdedkemkmccliaaRows
set_option linter.unusedVariables false
set_option linter.unusedSimpArgs false
namespace Go.Proofs.Ytdedkemkmccliaa
open Go.Al
theorem hasT3 : hasT Try.prog 3 = true := by kernel_rfl
theorem aggT3 : isAggT Try.prog 3 = false := by kernel_rfl
theorem cells3 : Try.prog.cellsOf 3 = 1 := by kernel_rfl
theorem bytes3 : Try.prog.bytesOf 3 = 8 := by kernel_rfl
theorem zero3 : zeroC Try.prog 3 = some [.at (.int .i64 0)] := by kernel_rfl
theorem hasT4 : hasT Try.prog 4 = true := by kernel_rfl
theorem aggT4 : isAggT Try.prog 4 = false := by kernel_rfl
theorem cells4 : Try.prog.cellsOf 4 = 1 := by kernel_rfl
theorem bytes4 : Try.prog.bytesOf 4 = 1 := by kernel_rfl
theorem boolT4 : isBoolT Try.prog 4 = true := by kernel_rfl
theorem zero4 : zeroC Try.prog 4 = some [.at (.bool false)] := by kernel_rfl
theorem hasT9 : hasT Try.prog 9 = true := by kernel_rfl
theorem aggT9 : isAggT Try.prog 9 = false := by kernel_rfl
theorem cells9 : Try.prog.cellsOf 9 = 1 := by kernel_rfl
theorem bytes9 : Try.prog.bytesOf 9 = 16 := by kernel_rfl
theorem strT9 : isStrT Try.prog 9 = true := by kernel_rfl
theorem zero9 : zeroC Try.prog 9 = some [.at (.string .empty)] := by kernel_rfl
theorem hasT22 : hasT Try.prog 22 = true := by kernel_rfl
theorem aggT22 : isAggT Try.prog 22 = false := by kernel_rfl
theorem cells22 : Try.prog.cellsOf 22 = 1 := by kernel_rfl
theorem bytes22 : Try.prog.bytesOf 22 = 24 := by kernel_rfl
theorem elT22 : elT Try.prog 22 = some 3 := by kernel_rfl
theorem zero22 : zeroC Try.prog 22 = some [.lst .nil []] := by kernel_rfl
theorem hasT24 : hasT Try.prog 24 = true := by kernel_rfl
theorem aggT24 : isAggT Try.prog 24 = false := by kernel_rfl
theorem cells24 : Try.prog.cellsOf 24 = 1 := by kernel_rfl
theorem bytes24 : Try.prog.bytesOf 24 = 24 := by kernel_rfl
theorem elT24 : elT Try.prog 24 = some 39 := by kernel_rfl
theorem zero24 : zeroC Try.prog 24 = some [.lst .nil []] := by kernel_rfl
theorem hasT25 : hasT Try.prog 25 = true := by kernel_rfl
theorem aggT25 : isAggT Try.prog 25 = false := by kernel_rfl
theorem cells25 : Try.prog.cellsOf 25 = 1 := by kernel_rfl
theorem bytes25 : Try.prog.bytesOf 25 = 8 := by kernel_rfl
theorem zero25 : zeroC Try.prog 25 = some [.at (.int .i64 0)] := by kernel_rfl
theorem hasT28 : hasT Try.prog 28 = true := by kernel_rfl
theorem aggT28 : isAggT Try.prog 28 = false := by kernel_rfl
theorem cells28 : Try.prog.cellsOf 28 = 1 := by kernel_rfl
theorem bytes28 : Try.prog.bytesOf 28 = 24 := by kernel_rfl
theorem elT28 : elT Try.prog 28 = some 47 := by kernel_rfl
theorem zero28 : zeroC Try.prog 28 = some [.lst .nil []] := by kernel_rfl
theorem hasT37 : hasT Try.prog 37 = true := by kernel_rfl
theorem aggT37 : isAggT Try.prog 37 = false := by kernel_rfl
theorem cells37 : Try.prog.cellsOf 37 = 1 := by kernel_rfl
theorem bytes37 : Try.prog.bytesOf 37 = 24 := by kernel_rfl
theorem elT37 : elT Try.prog 37 = some 41 := by kernel_rfl
theorem zero37 : zeroC Try.prog 37 = some [.lst .nil []] := by kernel_rfl
theorem hasT39 : hasT Try.prog 39 = true := by kernel_rfl
theorem aggT39 : isAggT Try.prog 39 = true := by kernel_rfl
theorem cells39 : Try.prog.cellsOf 39 = 3 := by kernel_rfl
theorem bytes39 : Try.prog.bytesOf 39 = 40 := by kernel_rfl
theorem structT39 : isStructT Try.prog 39 = true := by kernel_rfl
theorem fld39_0 : fieldAt Try.prog 39 0 = some (0, 3) := by kernel_rfl
theorem fld39_1 : fieldAt Try.prog 39 1 = some (1, 3) := by kernel_rfl
theorem fld39_2 : fieldAt Try.prog 39 2 = some (2, 37) := by kernel_rfl
theorem zero39 : zeroC Try.prog 39 = some [.at (.int .i64 0), .at (.int .i64 0), .lst .nil []] := by kernel_rfl
theorem hasT41 : hasT Try.prog 41 = true := by kernel_rfl
theorem aggT41 : isAggT Try.prog 41 = true := by kernel_rfl
theorem cells41 : Try.prog.cellsOf 41 = 2 := by kernel_rfl
theorem bytes41 : Try.prog.bytesOf 41 = 32 := by kernel_rfl
theorem structT41 : isStructT Try.prog 41 = true := by kernel_rfl
theorem fld41_0 : fieldAt Try.prog 41 0 = some (0, 3) := by kernel_rfl
theorem fld41_1 : fieldAt Try.prog 41 1 = some (1, 24) := by kernel_rfl
theorem zero41 : zeroC Try.prog 41 = some [.at (.int .i64 0), .lst .nil []] := by kernel_rfl
theorem hasT42 : hasT Try.prog 42 = true := by kernel_rfl
theorem aggT42 : isAggT Try.prog 42 = false := by kernel_rfl
theorem cells42 : Try.prog.cellsOf 42 = 1 := by kernel_rfl
theorem bytes42 : Try.prog.bytesOf 42 = 24 := by kernel_rfl
theorem elT42 : elT Try.prog 42 = some 50 := by kernel_rfl
theorem zero42 : zeroC Try.prog 42 = some [.lst .nil []] := by kernel_rfl
theorem hasT44 : hasT Try.prog 44 = true := by kernel_rfl
theorem aggT44 : isAggT Try.prog 44 = true := by kernel_rfl
theorem cells44 : Try.prog.cellsOf 44 = 1 := by kernel_rfl
theorem bytes44 : Try.prog.bytesOf 44 = 24 := by kernel_rfl
theorem structT44 : isStructT Try.prog 44 = true := by kernel_rfl
theorem fld44_0 : fieldAt Try.prog 44 0 = some (0, 42) := by kernel_rfl
theorem zero44 : zeroC Try.prog 44 = some [.lst .nil []] := by kernel_rfl
theorem hasT45 : hasT Try.prog 45 = true := by kernel_rfl
theorem aggT45 : isAggT Try.prog 45 = false := by kernel_rfl
theorem cells45 : Try.prog.cellsOf 45 = 1 := by kernel_rfl
theorem bytes45 : Try.prog.bytesOf 45 = 24 := by kernel_rfl
theorem elT45 : elT Try.prog 45 = some 79 := by kernel_rfl
theorem zero45 : zeroC Try.prog 45 = some [.lst .nil []] := by kernel_rfl
theorem hasT47 : hasT Try.prog 47 = true := by kernel_rfl
theorem aggT47 : isAggT Try.prog 47 = true := by kernel_rfl
theorem cells47 : Try.prog.cellsOf 47 = 4 := by kernel_rfl
theorem bytes47 : Try.prog.bytesOf 47 = 48 := by kernel_rfl
theorem structT47 : isStructT Try.prog 47 = true := by kernel_rfl
theorem fld47_0 : fieldAt Try.prog 47 0 = some (0, 3) := by kernel_rfl
theorem fld47_1 : fieldAt Try.prog 47 1 = some (1, 3) := by kernel_rfl
theorem fld47_2 : fieldAt Try.prog 47 2 = some (2, 3) := by kernel_rfl
theorem fld47_3 : fieldAt Try.prog 47 3 = some (3, 45) := by kernel_rfl
theorem zero47 : zeroC Try.prog 47 = some [.at (.int .i64 0), .at (.int .i64 0), .at (.int .i64 0), .lst .nil []] := by kernel_rfl
theorem hasT50 : hasT Try.prog 50 = true := by kernel_rfl
theorem aggT50 : isAggT Try.prog 50 = true := by kernel_rfl
theorem cells50 : Try.prog.cellsOf 50 = 4 := by kernel_rfl
theorem bytes50 : Try.prog.bytesOf 50 = 64 := by kernel_rfl
theorem structT50 : isStructT Try.prog 50 = true := by kernel_rfl
theorem fld50_0 : fieldAt Try.prog 50 0 = some (0, 3) := by kernel_rfl
theorem fld50_1 : fieldAt Try.prog 50 1 = some (1, 37) := by kernel_rfl
theorem fld50_2 : fieldAt Try.prog 50 2 = some (2, 4) := by kernel_rfl
theorem fld50_3 : fieldAt Try.prog 50 3 = some (3, 24) := by kernel_rfl
theorem zero50 : zeroC Try.prog 50 = some [.at (.int .i64 0), .lst .nil [], .at (.bool false), .lst .nil []] := by kernel_rfl
theorem hasT51 : hasT Try.prog 51 = true := by kernel_rfl
theorem aggT51 : isAggT Try.prog 51 = false := by kernel_rfl
theorem cells51 : Try.prog.cellsOf 51 = 1 := by kernel_rfl
theorem bytes51 : Try.prog.bytesOf 51 = 8 := by kernel_rfl
theorem zero51 : zeroC Try.prog 51 = some [.at (.pointer none)] := by kernel_rfl
theorem hasT60 : hasT Try.prog 60 = true := by kernel_rfl
theorem aggT60 : isAggT Try.prog 60 = false := by kernel_rfl
theorem cells60 : Try.prog.cellsOf 60 = 1 := by kernel_rfl
theorem bytes60 : Try.prog.bytesOf 60 = 8 := by kernel_rfl
theorem zero60 : zeroC Try.prog 60 = some [.at (.pointer none)] := by kernel_rfl
theorem hasT61 : hasT Try.prog 61 = true := by kernel_rfl
theorem aggT61 : isAggT Try.prog 61 = false := by kernel_rfl
theorem cells61 : Try.prog.cellsOf 61 = 1 := by kernel_rfl
theorem bytes61 : Try.prog.bytesOf 61 = 24 := by kernel_rfl
theorem elT61 : elT Try.prog 61 = some 4 := by kernel_rfl
theorem zero61 : zeroC Try.prog 61 = some [.lst .nil []] := by kernel_rfl
theorem hasT79 : hasT Try.prog 79 = true := by kernel_rfl
theorem aggT79 : isAggT Try.prog 79 = true := by kernel_rfl
theorem cells79 : Try.prog.cellsOf 79 = 6 := by kernel_rfl
theorem bytes79 : Try.prog.bytesOf 79 = 56 := by kernel_rfl
theorem structT79 : isStructT Try.prog 79 = true := by kernel_rfl
theorem fld79_0 : fieldAt Try.prog 79 0 = some (0, 3) := by kernel_rfl
theorem fld79_1 : fieldAt Try.prog 79 1 = some (1, 9) := by kernel_rfl
theorem fld79_2 : fieldAt Try.prog 79 2 = some (2, 3) := by kernel_rfl
theorem fld79_3 : fieldAt Try.prog 79 3 = some (3, 3) := by kernel_rfl
theorem fld79_4 : fieldAt Try.prog 79 4 = some (4, 3) := by kernel_rfl
theorem fld79_5 : fieldAt Try.prog 79 5 = some (5, 4) := by kernel_rfl
theorem zero79 : zeroC Try.prog 79 = some [.at (.int .i64 0), .at (.string .empty), .at (.int .i64 0), .at (.int .i64 0), .at (.int .i64 0), .at (.bool false)] := by kernel_rfl
theorem code3 : isCode Try.prog 3 = true := by kernel_rfl
theorem code4 : isCode Try.prog 4 = true := by kernel_rfl
theorem code5 : isCode Try.prog 5 = true := by kernel_rfl
theorem code6 : isCode Try.prog 6 = true := by kernel_rfl
theorem code7 : isCode Try.prog 7 = true := by kernel_rfl
theorem code8 : isCode Try.prog 8 = true := by kernel_rfl
theorem code9 : isCode Try.prog 9 = true := by kernel_rfl
theorem code10 : isCode Try.prog 10 = true := by kernel_rfl
theorem code11 : isCode Try.prog 11 = true := by kernel_rfl
theorem code12 : isCode Try.prog 12 = true := by kernel_rfl
theorem code13 : isCode Try.prog 13 = true := by kernel_rfl
theorem code14 : isCode Try.prog 14 = true := by kernel_rfl
theorem code15 : isCode Try.prog 15 = true := by kernel_rfl
theorem code16 : isCode Try.prog 16 = true := by kernel_rfl
theorem code17 : isCode Try.prog 17 = true := by kernel_rfl
theorem code18 : isCode Try.prog 18 = true := by kernel_rfl
theorem code19 : isCode Try.prog 19 = true := by kernel_rfl
theorem code20 : isCode Try.prog 20 = true := by kernel_rfl
theorem code21 : isCode Try.prog 21 = true := by kernel_rfl
theorem code22 : isCode Try.prog 22 = true := by kernel_rfl
theorem code23 : isCode Try.prog 23 = true := by kernel_rfl
theorem code24 : isCode Try.prog 24 = true := by kernel_rfl
theorem code25 : isCode Try.prog 25 = true := by kernel_rfl
def ks3 : Nat → List Nat
  | 0 => [0]
  | 1 => [0, 3]
  | 2 => [0, 3, 13]
  | 3 => [2]
  | 4 => [0, 3, 4, 5, 6]
  | 5 => [3, 4, 5, 6, 7, 8, 9]
  | 6 => [2]
  | _ => []
def ks4 : Nat → List Nat
  | 0 => [0, 1]
  | 1 => [0, 1, 5]
  | 2 => [0, 1, 5, 20]
  | 3 => [4]
  | 4 => [0, 1, 5, 7, 8]
  | 5 => [0, 5, 7, 8, 10, 11]
  | 6 => [0, 5, 7, 10, 11, 41]
  | 7 => [4]
  | 8 => [4]
  | _ => []
def ks5 : Nat → List Nat
  | 0 => [0]
  | 1 => [0, 3]
  | 2 => [0, 3, 16]
  | 3 => [2]
  | 4 => [0, 3, 4, 6]
  | 5 => [0, 3, 4, 26]
  | 6 => [2]
  | 7 => [0, 3, 4, 7]
  | 8 => [0, 3, 4, 7, 8]
  | 9 => [0, 3, 4, 7, 8, 31]
  | 10 => [0, 3, 4, 7, 8]
  | 11 => [0, 3, 4, 7, 8, 9]
  | 12 => [0, 3, 4, 7, 8, 9, 43]
  | 13 => [2]
  | 14 => [0, 3, 4, 7, 8]
  | 15 => [0, 3, 4, 7, 10]
  | 16 => [3, 4, 7, 10, 11]
  | 17 => [3, 7, 10, 11, 12]
  | 18 => [2]
  | _ => []
def ks6 : Nat → List Nat
  | 0 => [0]
  | 1 => [0, 3]
  | 2 => [0, 3, 12]
  | 3 => [2]
  | 4 => [0, 3, 4, 6]
  | 5 => [0, 3, 4, 6, 7]
  | 6 => [0, 3, 4, 7, 24]
  | 7 => [2]
  | 8 => [0, 3, 7, 8]
  | 9 => [0, 3, 7, 8, 34]
  | 10 => [0, 3, 7, 8]
  | 11 => [0, 3, 7, 8, 42]
  | 12 => [2]
  | 13 => [2]
  | _ => []
def ks7 : Nat → List Nat
  | 0 => [0, 1]
  | 1 => [0, 1, 5]
  | 2 => [0, 1, 5, 26]
  | 3 => [4]
  | 4 => [0, 1, 5, 6, 8]
  | 5 => [0, 1, 5, 6, 8, 9, 10, 11]
  | 6 => [0, 5, 6, 8, 9, 10, 11, 12, 13, 14]
  | 7 => [0, 5, 6, 9, 10, 11, 12, 13, 14, 54]
  | 8 => [4]
  | 9 => [0, 5, 6, 9, 10, 11, 12, 13, 14, 57]
  | 10 => [4]
  | 11 => [0, 5, 6, 9, 12, 88]
  | 12 => [4]
  | 13 => [0, 5, 6, 9, 12, 15]
  | 14 => [0, 5, 6, 12, 15, 16]
  | 15 => [0, 5, 6, 12, 15, 16, 17]
  | 16 => [0, 5, 6, 12, 15, 16, 17, 105]
  | 17 => [0, 5, 6, 12, 15, 16, 17]
  | 18 => [0, 5, 6, 12, 15, 16, 17, 119]
  | 19 => [4]
  | 20 => [4]
  | _ => []
def ks8 : Nat → List Nat
  | 0 => [0]
  | 1 => [0, 3]
  | 2 => [0, 3, 22]
  | 3 => [2]
  | 4 => [0, 3, 4, 6]
  | 5 => [0, 3, 4, 32]
  | 6 => [2]
  | 7 => [0, 3, 7]
  | 8 => [0, 3, 7, 8, 10]
  | 9 => [0, 3, 7, 8, 10, 11, 13]
  | 10 => [0, 3, 7, 8, 11, 89]
  | 11 => [2]
  | 12 => [0, 3, 7, 8, 11, 14]
  | 13 => [0, 3, 7, 8, 11, 14, 15]
  | 14 => [0, 3, 7, 8, 11, 14, 15, 16]
  | 15 => [0, 3, 7, 8, 11, 14, 15, 16, 17]
  | 16 => [0, 3, 7, 8, 11, 14, 15, 16, 17, 127]
  | 17 => [2]
  | 18 => [0, 3, 7, 8, 11, 14, 15, 16, 17, 18]
  | 19 => [0, 3, 7, 8, 11, 14, 15, 16, 17, 18, 131]
  | 20 => [0, 3, 7, 8, 11, 14, 15, 16, 17, 18]
  | 21 => [0, 3, 7, 8, 11, 14, 15, 16, 17, 18, 149]
  | 22 => [2]
  | 23 => [2]
  | _ => []
def ks9 : Nat → List Nat
  | 0 => []
  | 1 => [1, 2, 3]
  | 2 => [1, 2, 3, 5, 6]
  | 3 => [1, 2, 3, 5, 6, 8, 9]
  | 4 => [1, 2, 3, 5, 6, 8, 9, 11, 12]
  | 5 => [1, 2, 3, 5, 6, 8, 9, 11, 12, 13]
  | 6 => [1, 2, 3, 5, 6, 8, 9, 11, 12, 13, 14]
  | 7 => [1, 2, 3, 5, 6, 8, 9, 11, 12, 13, 14, 15]
  | 8 => [1, 2, 3, 5, 6, 8, 9, 11, 12, 13, 14, 15, 16]
  | 9 => [0]
  | _ => []
def ks10 : Nat → List Nat
  | 0 => [0, 2]
  | 1 => [0, 2, 5]
  | 2 => [2, 5, 10, 11, 12]
  | 3 => [2, 5, 10, 11, 12, 13]
  | 4 => [2, 5, 6, 7, 10, 11, 12]
  | 5 => [2, 5, 6, 7, 10, 11, 12, 18]
  | 6 => [2, 5, 10, 11, 12]
  | 7 => [2, 5, 6, 7, 10, 11, 12, 18, 25]
  | 8 => [2, 5, 6, 7, 10, 11, 12, 18, 25]
  | 9 => [2, 5, 6, 7, 10, 11, 12, 18, 25]
  | 10 => [5, 10, 11, 12]
  | 11 => [2, 5, 10, 11, 12]
  | 12 => [2, 5, 6, 7, 10, 11, 12, 18, 36]
  | 13 => [2, 5, 6, 7, 10, 11, 12, 18, 36]
  | 14 => [2, 5, 6, 7, 10, 11, 12, 48]
  | 15 => [2, 3, 4]
  | 16 => [2, 5, 6, 7, 8, 10, 11, 12]
  | 17 => [5, 6, 7, 8, 10, 11, 12]
  | 18 => [5, 7, 8, 10, 11, 12]
  | 19 => [5, 10, 11, 12]
  | 20 => [2, 5, 10, 11, 12]
  | 21 => [2, 5, 6, 10, 11, 12, 71]
  | 22 => [2, 5, 6, 10, 11, 12, 76]
  | 23 => [2, 3, 4]
  | 24 => [2, 5, 6, 9, 10, 11, 12]
  | 25 => [5, 6, 9, 10, 11, 12]
  | 26 => [2, 5, 10, 11, 12]
  | 27 => [2, 5, 10, 11, 12]
  | 28 => [2, 5, 95]
  | 29 => [2, 3, 4]
  | 30 => [2, 3, 4]
  | _ => []
def ks11 : Nat → List Nat
  | 0 => [0]
  | 1 => [0, 3]
  | 2 => [0, 3, 4]
  | 3 => [0, 3, 4, 8]
  | 4 => [0, 3, 4]
  | 5 => [0, 3, 4]
  | 6 => [2]
  | _ => []
def ks12 : Nat → List Nat
  | 0 => [0]
  | 1 => [0, 5, 6]
  | 2 => [0, 5, 6, 15]
  | 3 => [2, 3, 4]
  | 4 => [7]
  | 5 => [2, 3, 4]
  | _ => []
def ks13 : Nat → List Nat
  | 0 => [0, 1]
  | 1 => [0, 1, 12]
  | 2 => [4]
  | 3 => [0, 1, 5]
  | 4 => [0, 1, 5, 16]
  | 5 => [0, 1, 5]
  | 6 => [0, 1, 5, 57]
  | 7 => [4]
  | 8 => [0, 1, 5, 6]
  | 9 => [0, 1, 5, 6, 65]
  | 10 => [0, 1, 5, 6]
  | 11 => [0, 1, 5, 6, 7]
  | 12 => [0, 1, 5, 6, 109]
  | 13 => [4]
  | 14 => [4]
  | _ => []
def ks14 : Nat → List Nat
  | 0 => [0, 1]
  | 1 => [1, 13, 14, 15]
  | 2 => [1, 13, 14, 15, 16]
  | 3 => [1, 6, 13, 14, 15]
  | 4 => [1, 6, 13, 14, 15, 20, 21, 22]
  | 5 => [1, 6, 13, 14, 15, 20, 21, 22, 23]
  | 6 => [1, 6, 7, 8, 13, 14, 15, 20, 21, 22]
  | 7 => [1, 6, 8, 9, 13, 14, 15, 20, 21, 22]
  | 8 => [1, 6, 8, 13, 14, 15, 20, 21, 22, 45]
  | 9 => [4]
  | 10 => [1, 6, 8, 10, 13, 14, 15, 20, 21, 22]
  | 11 => [1, 6, 8, 10, 13, 14, 15, 20, 21, 22, 54]
  | 12 => [4]
  | 13 => [1, 6, 8, 13, 14, 15, 20, 21, 22, 61, 62, 63]
  | 14 => [1, 6, 8, 13, 14, 15, 20, 21, 22, 61, 62, 63, 64]
  | 15 => [1, 6, 8, 12, 13, 14, 15, 20, 21, 22, 61, 62, 63]
  | 16 => [1, 6, 8, 13, 14, 15, 20, 21, 22, 61, 62, 63, 76]
  | 17 => [4]
  | 18 => [1, 6, 8, 13, 14, 15, 20, 21, 22, 61, 62, 63]
  | 19 => [1, 6, 13, 14, 15, 20, 21, 22]
  | 20 => [1, 13, 14, 15]
  | 21 => [4]
  | _ => []
def ks15 : Nat → List Nat
  | 0 => [0, 1]
  | 1 => [0, 1, 10]
  | 2 => [4]
  | 3 => [0, 1, 5]
  | 4 => [0, 1, 5, 14]
  | 5 => [0, 1, 5]
  | 6 => [0, 1, 5, 25]
  | 7 => [4]
  | 8 => [4]
  | _ => []
def ks16 : Nat → List Nat
  | 0 => [0, 1]
  | 1 => [0, 1, 5]
  | 2 => [0, 1, 5, 6]
  | 3 => [0, 1, 5, 6, 16]
  | 4 => [0, 1, 5, 6]
  | 5 => [0, 1, 5, 6, 7]
  | 6 => [0, 1, 5, 6, 7, 25]
  | 7 => [0, 1, 5, 6, 7]
  | 8 => [0, 1, 5, 6, 7, 35]
  | 9 => [0, 1, 5, 6, 7]
  | 10 => [0, 1, 5, 6, 48]
  | 11 => [0, 1, 5, 6]
  | 12 => [4]
  | _ => []
def ks17 : Nat → List Nat
  | 0 => [0]
  | 1 => [0, 3]
  | 2 => [3, 8, 9, 10]
  | 3 => [3, 8, 9, 10, 11]
  | 4 => [3, 5, 8, 9, 10]
  | 5 => [3, 8, 9, 10, 15, 16, 17]
  | 6 => [3, 8, 9, 10, 15, 16, 17, 18]
  | 7 => [3, 7, 8, 9, 10, 15, 16, 17]
  | 8 => [3, 8, 9, 10, 15, 16, 17]
  | 9 => [3, 8, 9, 10, 15, 16, 17]
  | 10 => [3, 8, 9, 10]
  | 11 => [2]
  | _ => []
def ks18 : Nat → List Nat
  | 0 => [0]
  | 1 => [0, 3]
  | 2 => [3, 8, 9, 10]
  | 3 => [3, 8, 9, 10, 11]
  | 4 => [3, 5, 8, 9, 10]
  | 5 => [3, 5, 8, 9, 10, 17]
  | 6 => [3, 8, 9, 10]
  | 7 => [3, 5, 8, 9, 10, 24, 25, 26]
  | 8 => [3, 5, 8, 9, 10, 24, 25, 26, 27]
  | 9 => [3, 5, 7, 8, 9, 10, 24, 25, 26]
  | 10 => [3, 5, 8, 9, 10, 24, 25, 26]
  | 11 => [3, 5, 8, 9, 10, 24, 25, 26]
  | 12 => [3, 8, 9, 10]
  | 13 => [3, 8, 9, 10]
  | 14 => [2]
  | _ => []
def ks19 : Nat → List Nat
  | 0 => [0, 3]
  | 1 => []
  | _ => []
def ks20 : Nat → List Nat
  | 0 => [0]
  | 1 => [2]
  | _ => []
def ks21 : Nat → List Nat
  | 0 => []
  | _ => []
def ks22 : Nat → List Nat
  | 0 => [0, 2]
  | 1 => [0, 2, 3]
  | 2 => [2, 3]
  | 3 => [2]
  | _ => []
def ks23 : Nat → List Nat
  | 0 => [0]
  | 1 => [0, 4]
  | 2 => [0, 4, 5]
  | 3 => [0, 4, 5, 6]
  | 4 => [0, 4, 5, 6, 12]
  | 5 => [0, 4, 5, 6]
  | 6 => [0, 4, 5, 6, 7]
  | 7 => [0, 4, 5, 6, 7, 8]
  | 8 => [0, 4, 5, 6, 7, 8, 23]
  | 9 => [0, 4, 5, 6, 7, 8]
  | 10 => [0, 4, 5, 6, 7, 8]
  | 11 => [0, 4, 5, 6, 7, 8, 55]
  | 12 => [2, 3]
  | 13 => [0, 4, 5, 6, 7, 8, 58]
  | 14 => [0, 4, 5, 6, 7, 8]
  | 15 => [0, 4, 5, 6, 8, 64]
  | 16 => [0, 4, 5, 6, 8]
  | 17 => [0, 4, 5, 6]
  | 18 => [4, 75]
  | 19 => [2, 3]
  | 20 => [2, 3]
  | _ => []
def ks24 : Nat → List Nat
  | 0 => [0, 1]
  | 1 => [0, 1, 6]
  | 2 => [0, 1, 6, 14]
  | 3 => [0, 1, 6, 7]
  | 4 => [0, 1, 6, 7, 29]
  | 5 => [4, 5]
  | 6 => [0, 1, 6, 34]
  | 7 => [0, 1, 6]
  | 8 => [0, 1, 6]
  | 9 => [0, 1, 6, 8]
  | 10 => [0, 1, 6, 8, 56]
  | 11 => [0, 1, 6, 8, 9, 10]
  | 12 => [0, 6, 8, 10]
  | 13 => [0, 1, 6, 8]
  | 14 => [0, 1, 6, 8]
  | 15 => [0, 1, 6]
  | 16 => [0, 1, 6]
  | 17 => [4, 5]
  | _ => []
def ks25 : Nat → List Nat
  | 0 => [0]
  | 1 => [2]
  | _ => []
theorem mixed : Try.prog.follows .mixedOrders = true := by kernel_rfl
end Go.Proofs.Ytdedkemkmccliaa
