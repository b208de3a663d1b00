/-
  Closed facts on the program's types and functions; which slots live across its regions.
-/
import Derived.Test.YtegibhjgldpndaaDoorAC
import Derived.Test.YtegibhjgldpndaaDoorRows
set_option linter.unusedVariables false
set_option linter.unusedSimpArgs false
namespace Go.Proofs.YtegibhjgldpndaaDoor
open Go.Al
theorem hasT2 : hasT Tryd.prog 2 = true := by kernel_rfl
theorem aggT2 : isAggT Tryd.prog 2 = false := by kernel_rfl
theorem cells2 : Tryd.prog.cellsOf 2 = 1 := by kernel_rfl
theorem bytes2 : Tryd.prog.bytesOf 2 = 8 := by kernel_rfl
theorem zero2 : zeroC Tryd.prog 2 = some [.at (.int .i64 0)] := by kernel_rfl
theorem hasT3 : hasT Tryd.prog 3 = true := by kernel_rfl
theorem aggT3 : isAggT Tryd.prog 3 = false := by kernel_rfl
theorem cells3 : Tryd.prog.cellsOf 3 = 1 := by kernel_rfl
theorem bytes3 : Tryd.prog.bytesOf 3 = 8 := by kernel_rfl
theorem zero3 : zeroC Tryd.prog 3 = some [.at (.int .i64 0)] := by kernel_rfl
theorem hasT4 : hasT Tryd.prog 4 = true := by kernel_rfl
theorem aggT4 : isAggT Tryd.prog 4 = false := by kernel_rfl
theorem cells4 : Tryd.prog.cellsOf 4 = 1 := by kernel_rfl
theorem bytes4 : Tryd.prog.bytesOf 4 = 1 := by kernel_rfl
theorem boolT4 : isBoolT Tryd.prog 4 = true := by kernel_rfl
theorem zero4 : zeroC Tryd.prog 4 = some [.at (.bool false)] := by kernel_rfl
theorem hasT5 : hasT Tryd.prog 5 = true := by kernel_rfl
theorem aggT5 : isAggT Tryd.prog 5 = false := by kernel_rfl
theorem cells5 : Tryd.prog.cellsOf 5 = 1 := by kernel_rfl
theorem bytes5 : Tryd.prog.bytesOf 5 = 1 := by kernel_rfl
theorem zero5 : zeroC Tryd.prog 5 = some [.at (.int .u8 0)] := by kernel_rfl
theorem hasT9 : hasT Tryd.prog 9 = true := by kernel_rfl
theorem aggT9 : isAggT Tryd.prog 9 = false := by kernel_rfl
theorem cells9 : Tryd.prog.cellsOf 9 = 1 := by kernel_rfl
theorem bytes9 : Tryd.prog.bytesOf 9 = 16 := by kernel_rfl
theorem strT9 : isStrT Tryd.prog 9 = true := by kernel_rfl
theorem zero9 : zeroC Tryd.prog 9 = some [.at (.string .empty)] := by kernel_rfl
theorem hasT23 : hasT Tryd.prog 23 = true := by kernel_rfl
theorem aggT23 : isAggT Tryd.prog 23 = false := by kernel_rfl
theorem cells23 : Tryd.prog.cellsOf 23 = 1 := by kernel_rfl
theorem bytes23 : Tryd.prog.bytesOf 23 = 24 := by kernel_rfl
theorem elT23 : elT Tryd.prog 23 = some 25 := by kernel_rfl
theorem zero23 : zeroC Tryd.prog 23 = some [.lst .nil []] := by kernel_rfl
theorem hasT25 : hasT Tryd.prog 25 = true := by kernel_rfl
theorem aggT25 : isAggT Tryd.prog 25 = true := by kernel_rfl
theorem cells25 : Tryd.prog.cellsOf 25 = 3 := by kernel_rfl
theorem bytes25 : Tryd.prog.bytesOf 25 = 40 := by kernel_rfl
theorem structT25 : isStructT Tryd.prog 25 = true := by kernel_rfl
theorem fld25_0 : fieldAt Tryd.prog 25 0 = some (0, 3) := by kernel_rfl
theorem fld25_1 : fieldAt Tryd.prog 25 1 = some (1, 3) := by kernel_rfl
theorem fld25_2 : fieldAt Tryd.prog 25 2 = some (2, 23) := by kernel_rfl
theorem zero25 : zeroC Tryd.prog 25 = some [.at (.int .i64 0), .at (.int .i64 0), .lst .nil []] := by kernel_rfl
theorem hasT26 : hasT Tryd.prog 26 = true := by kernel_rfl
theorem aggT26 : isAggT Tryd.prog 26 = false := by kernel_rfl
theorem cells26 : Tryd.prog.cellsOf 26 = 1 := by kernel_rfl
theorem bytes26 : Tryd.prog.bytesOf 26 = 8 := by kernel_rfl
theorem zero26 : zeroC Tryd.prog 26 = some [.at (.int .i64 0)] := by kernel_rfl
theorem hasT32 : hasT Tryd.prog 32 = true := by kernel_rfl
theorem aggT32 : isAggT Tryd.prog 32 = false := by kernel_rfl
theorem cells32 : Tryd.prog.cellsOf 32 = 1 := by kernel_rfl
theorem bytes32 : Tryd.prog.bytesOf 32 = 24 := by kernel_rfl
theorem elT32 : elT Tryd.prog 32 = some 3 := by kernel_rfl
theorem zero32 : zeroC Tryd.prog 32 = some [.lst .nil []] := by kernel_rfl
theorem hasT51 : hasT Tryd.prog 51 = true := by kernel_rfl
theorem aggT51 : isAggT Tryd.prog 51 = false := by kernel_rfl
theorem cells51 : Tryd.prog.cellsOf 51 = 1 := by kernel_rfl
theorem bytes51 : Tryd.prog.bytesOf 51 = 24 := by kernel_rfl
theorem elT51 : elT Tryd.prog 51 = some 60 := by kernel_rfl
theorem zero51 : zeroC Tryd.prog 51 = some [.lst .nil []] := by kernel_rfl
theorem hasT55 : hasT Tryd.prog 55 = true := by kernel_rfl
theorem aggT55 : isAggT Tryd.prog 55 = false := by kernel_rfl
theorem cells55 : Tryd.prog.cellsOf 55 = 1 := by kernel_rfl
theorem bytes55 : Tryd.prog.bytesOf 55 = 8 := by kernel_rfl
theorem zero55 : zeroC Tryd.prog 55 = some [.at .nilFunc] := by kernel_rfl
theorem hasT60 : hasT Tryd.prog 60 = true := by kernel_rfl
theorem aggT60 : isAggT Tryd.prog 60 = true := by kernel_rfl
theorem cells60 : Tryd.prog.cellsOf 60 = 2 := by kernel_rfl
theorem bytes60 : Tryd.prog.bytesOf 60 = 16 := by kernel_rfl
theorem structT60 : isStructT Tryd.prog 60 = true := by kernel_rfl
theorem fld60_0 : fieldAt Tryd.prog 60 0 = some (0, 3) := by kernel_rfl
theorem fld60_1 : fieldAt Tryd.prog 60 1 = some (1, 3) := by kernel_rfl
theorem zero60 : zeroC Tryd.prog 60 = some [.at (.int .i64 0), .at (.int .i64 0)] := by kernel_rfl
theorem hasT66 : hasT Tryd.prog 66 = true := by kernel_rfl
theorem aggT66 : isAggT Tryd.prog 66 = false := by kernel_rfl
theorem cells66 : Tryd.prog.cellsOf 66 = 1 := by kernel_rfl
theorem bytes66 : Tryd.prog.bytesOf 66 = 8 := by kernel_rfl
theorem zero66 : zeroC Tryd.prog 66 = some [.at .nilFunc] := by kernel_rfl
theorem hasT68 : hasT Tryd.prog 68 = true := by kernel_rfl
theorem aggT68 : isAggT Tryd.prog 68 = false := by kernel_rfl
theorem cells68 : Tryd.prog.cellsOf 68 = 1 := by kernel_rfl
theorem bytes68 : Tryd.prog.bytesOf 68 = 16 := by kernel_rfl
theorem zero68 : zeroC Tryd.prog 68 = some [.at .nilIface] := by kernel_rfl
theorem code3 : isCode Tryd.prog 3 = true := by kernel_rfl
theorem code4 : isCode Tryd.prog 4 = true := by kernel_rfl
theorem code5 : isCode Tryd.prog 5 = true := by kernel_rfl
theorem code6 : isCode Tryd.prog 6 = true := by kernel_rfl
theorem code7 : isCode Tryd.prog 7 = true := by kernel_rfl
theorem code8 : isCode Tryd.prog 8 = true := by kernel_rfl
theorem code9 : isCode Tryd.prog 9 = true := by kernel_rfl
theorem code10 : isCode Tryd.prog 10 = true := by kernel_rfl
theorem code11 : isCode Tryd.prog 11 = true := by kernel_rfl
theorem code12 : isCode Tryd.prog 12 = true := by kernel_rfl
theorem code13 : isCode Tryd.prog 13 = true := by kernel_rfl
theorem code14 : isCode Tryd.prog 14 = true := by kernel_rfl
theorem code15 : isCode Tryd.prog 15 = true := by kernel_rfl
theorem code16 : isCode Tryd.prog 16 = true := by kernel_rfl
theorem code17 : isCode Tryd.prog 17 = true := by kernel_rfl
theorem code18 : isCode Tryd.prog 18 = true := by kernel_rfl
theorem code19 : isCode Tryd.prog 19 = true := by kernel_rfl
theorem code20 : isCode Tryd.prog 20 = true := by kernel_rfl
theorem code21 : isCode Tryd.prog 21 = true := by kernel_rfl
theorem code22 : isCode Tryd.prog 22 = true := by kernel_rfl
theorem code23 : isCode Tryd.prog 23 = true := by kernel_rfl
theorem code24 : isCode Tryd.prog 24 = true := by kernel_rfl
theorem code25 : isCode Tryd.prog 25 = true := by kernel_rfl
theorem code26 : isCode Tryd.prog 26 = true := by kernel_rfl
theorem code27 : isCode Tryd.prog 27 = true := by kernel_rfl
theorem code28 : isCode Tryd.prog 28 = true := by kernel_rfl
theorem code29 : isCode Tryd.prog 29 = true := by kernel_rfl
theorem code30 : isCode Tryd.prog 30 = true := by kernel_rfl
theorem code31 : isCode Tryd.prog 31 = true := by kernel_rfl
theorem code32 : isCode Tryd.prog 32 = true := by kernel_rfl
theorem code33 : isCode Tryd.prog 33 = true := by kernel_rfl
theorem code34 : isCode Tryd.prog 34 = true := by kernel_rfl
theorem code35 : isCode Tryd.prog 35 = true := by kernel_rfl
theorem code36 : isCode Tryd.prog 36 = true := by kernel_rfl
theorem code37 : isCode Tryd.prog 37 = true := by kernel_rfl
theorem code38 : isCode Tryd.prog 38 = true := by kernel_rfl
theorem code39 : isCode Tryd.prog 39 = true := by kernel_rfl
def ks3 : Nat → List Nat
  | 0 => [0]
  | 1 => [0, 3]
  | 2 => [0, 3, 4, 5]
  | 3 => [0, 3, 4, 5, 16]
  | 4 => [2]
  | 5 => [0, 3, 4, 18]
  | 6 => [2]
  | 7 => [0, 3, 6]
  | 8 => [2]
  | _ => []
def ks4 : Nat → List Nat
  | 0 => [0, 1, 2]
  | 1 => [0, 1, 2, 7]
  | 2 => [0, 1, 2, 7, 8, 9]
  | 3 => [0, 1, 2, 7, 8, 21]
  | 4 => [6]
  | 5 => [0, 1, 2, 7, 8, 10]
  | 6 => [0, 1, 2, 7, 8, 10, 11]
  | 7 => [0, 1, 2, 7, 10, 11, 12]
  | 8 => [0, 1, 2, 7, 10, 11, 12, 13]
  | 9 => [0, 1, 2, 7, 10, 11, 12, 13, 34]
  | 10 => [0, 1, 2, 7, 10, 11, 12, 13]
  | 11 => [0, 1, 2, 7, 10, 11, 12, 13, 43]
  | 12 => [6]
  | 13 => [6]
  | _ => []
def ks5 : Nat → List Nat
  | 0 => [0, 1]
  | 1 => [0, 1, 5]
  | 2 => [0, 1, 5, 6, 7]
  | 3 => [0, 1, 5, 6, 7, 8, 9]
  | 4 => [0, 1, 5, 6, 8, 28]
  | 5 => [4]
  | 6 => [0, 1, 5, 6, 10]
  | 7 => [0, 1, 5, 10, 11]
  | 8 => [4]
  | _ => []
def ks6 : Nat → List Nat
  | 0 => [0, 1, 2]
  | 1 => [0, 1, 2, 7]
  | 2 => [0, 1, 2, 7, 8, 9]
  | 3 => [0, 1, 2, 7, 8, 9, 10, 11]
  | 4 => [0, 1, 2, 7, 8, 10, 52]
  | 5 => [6]
  | 6 => [0, 1, 2, 7, 8, 10, 12]
  | 7 => [0, 1, 2, 7, 8, 10, 12, 13]
  | 8 => [0, 1, 2, 7, 8, 10, 12, 13, 14]
  | 9 => [0, 1, 2, 7, 8, 10, 12, 13, 14, 65]
  | 10 => [6]
  | 11 => [0, 1, 2, 7, 10, 12, 13, 14, 15]
  | 12 => [0, 1, 2, 7, 12, 13, 14, 15, 16]
  | 13 => [0, 1, 7, 13, 14, 15, 16, 17]
  | 14 => [6]
  | _ => []
def ks7 : Nat → List Nat
  | 0 => [0, 1]
  | 1 => [0, 1, 5]
  | 2 => [0, 1, 5, 6, 7]
  | 3 => [0, 1, 5, 6, 31]
  | 4 => [4]
  | 5 => [1, 5, 6, 8]
  | 6 => [1, 5, 6, 8, 9]
  | 7 => [1, 5, 6, 8, 9, 38]
  | 8 => [1, 5, 6, 8, 9]
  | 9 => [1, 5, 6, 8, 9, 56]
  | 10 => [4]
  | 11 => [1, 5, 6, 10]
  | 12 => [1, 5, 6, 10, 11]
  | 13 => [1, 5, 6, 10, 12]
  | 14 => [1, 5, 10, 12, 13]
  | 15 => [1, 5, 12, 13, 14]
  | 16 => [1, 5, 12, 13, 14, 76]
  | 17 => [4]
  | 18 => [1, 5, 12, 13, 14, 15]
  | 19 => [1, 5, 12, 13, 14, 15, 80]
  | 20 => [1, 5, 12, 13, 14, 15]
  | 21 => [1, 5, 12, 13, 14, 15, 93]
  | 22 => [4]
  | 23 => [4]
  | _ => []
def ks8 : Nat → List Nat
  | 0 => [0, 1, 2]
  | 1 => [0, 1, 2, 7]
  | 2 => [0, 1, 2, 7, 8, 9]
  | 3 => [0, 1, 2, 7, 8, 9, 10, 11]
  | 4 => [1, 2, 7, 8, 10, 48]
  | 5 => [6]
  | 6 => [2, 7, 8, 10, 12]
  | 7 => [2, 7, 8, 10, 12, 13]
  | 8 => [2, 7, 8, 10, 12, 13, 55]
  | 9 => [2, 7, 8, 10, 12, 13]
  | 10 => [2, 7, 8, 10, 12, 13, 62]
  | 11 => [6]
  | 12 => [2, 7, 8, 10, 14]
  | 13 => [2, 7, 8, 10, 14, 15]
  | 14 => [2, 7, 8, 10, 14, 15, 16]
  | 15 => [7, 8, 10, 14, 15, 16, 17]
  | 16 => [7, 8, 10, 14, 15, 16, 17, 18]
  | 17 => [7, 8, 10, 14, 15, 16, 17, 18, 78]
  | 18 => [7, 8, 10, 14, 15, 16, 17, 18]
  | 19 => [7, 8, 10, 14, 15, 16, 17, 18]
  | 20 => [7, 8, 10, 14, 15, 16, 17, 19]
  | 21 => [7, 8, 10, 14, 15, 16, 17, 19, 20]
  | 22 => [7, 14, 17, 19, 20, 21]
  | 23 => [6]
  | _ => []
def ks9 : Nat → List Nat
  | 0 => []
  | 1 => [1]
  | 2 => [1, 2]
  | 3 => [1, 2, 3, 4]
  | 4 => [1, 2, 3, 4, 5, 6]
  | 5 => [1, 2, 3, 4, 5, 6, 8]
  | 6 => [1, 2, 3, 4, 5, 6, 8, 10]
  | 7 => [1, 2, 3, 4, 5, 6, 8, 10, 12]
  | 8 => [1, 2, 3, 4, 5, 6, 8, 10, 12, 14]
  | 9 => [1, 2, 3, 4, 5, 6, 8, 10, 12, 14, 15]
  | 10 => [1, 2, 3, 4, 5, 6, 8, 10, 12, 14, 15, 16]
  | 11 => [1, 2, 3, 4, 5, 6, 8, 10, 12, 14, 15, 16, 17]
  | 12 => [2, 4, 5, 6, 8, 10, 12, 14, 15, 16, 17, 18]
  | 13 => [0]
  | _ => []
def ks10 : Nat → List Nat
  | 0 => [0, 2]
  | 1 => [0, 2, 10]
  | 2 => [2, 3]
  | 3 => [2, 4, 5, 6, 7]
  | 4 => [2, 4, 6, 19]
  | 5 => [2, 3]
  | 6 => [2, 4, 27]
  | 7 => [2, 3]
  | 8 => [2, 3]
  | _ => []
def ks11 : Nat → List Nat
  | 0 => [0]
  | 1 => [0, 8]
  | 2 => [2]
  | 3 => [4, 5]
  | 4 => [4, 16]
  | 5 => [2]
  | 6 => [18]
  | 7 => [2]
  | 8 => [2]
  | _ => []
def ks12 : Nat → List Nat
  | 0 => [1]
  | 1 => [1, 8]
  | 2 => [2]
  | 3 => [1, 3]
  | 4 => [3, 17, 18, 19]
  | 5 => [3, 17, 18, 19, 20]
  | 6 => [3, 5, 17, 18, 19]
  | 7 => [3, 17, 18, 19]
  | 8 => [3, 17, 18, 19]
  | 9 => [2]
  | _ => []
def ks13 : Nat → List Nat
  | 0 => [1]
  | 1 => [1, 3]
  | 2 => [3]
  | 6 => [2]
  | _ => []
def ks14 : Nat → List Nat
  | 0 => [1, 2]
  | 1 => [5]
  | 2 => [4]
  | _ => []
def ks15 : Nat → List Nat
  | 0 => [2]
  | 1 => [2, 5]
  | 2 => [5]
  | 6 => [4]
  | _ => []
def ks16 : Nat → List Nat
  | 0 => [0, 1]
  | 1 => [0, 1, 10]
  | 2 => [4]
  | 3 => [0, 1, 5]
  | 4 => [0, 1, 5, 14]
  | 5 => [0, 1, 5]
  | 6 => [0, 1, 5, 25]
  | 7 => [4]
  | 8 => [4]
  | _ => []
def ks17 : Nat → List Nat
  | 0 => [0]
  | 1 => [3]
  | 2 => [3, 6]
  | 3 => [3, 6, 7]
  | 4 => [3, 6, 7, 17]
  | 5 => [3, 6, 7]
  | 6 => [3, 6, 7, 25]
  | 7 => [3, 6, 7]
  | 8 => [2]
  | _ => []
def ks18 : Nat → List Nat
  | 0 => [0, 1]
  | 1 => [1, 5]
  | 2 => [1, 5, 8]
  | 3 => [1, 5, 8, 9]
  | 4 => [1, 5, 8, 9, 19]
  | 5 => [1, 5, 8, 9]
  | 6 => [1, 5, 8, 9, 27]
  | 7 => [1, 5, 8, 9]
  | 8 => [1, 5, 8, 9, 41]
  | 9 => [1, 5, 8, 9]
  | 10 => [1, 5, 8, 9, 61]
  | 11 => [4]
  | 12 => [4]
  | _ => []
def ks19 : Nat → List Nat
  | 0 => [0, 1]
  | 1 => [1, 5]
  | 2 => [1, 5, 8]
  | 3 => [1, 5, 8, 9]
  | 4 => [1, 5, 8, 9, 19]
  | 5 => [1, 5, 8, 9]
  | 6 => [1, 5, 8, 9, 48]
  | 7 => [1, 5, 8, 9]
  | 8 => [4]
  | _ => []
def ks20 : Nat → List Nat
  | 0 => [2, 3]
  | 1 => [2, 3, 27]
  | 2 => [4]
  | 3 => [3, 29, 30, 31]
  | 4 => [3, 29, 30, 31, 32]
  | 5 => [3, 5, 6, 29, 30, 31]
  | 6 => [3, 29, 30, 31, 43]
  | 7 => [4]
  | 8 => [3, 29, 30, 31]
  | 9 => [4]
  | _ => []
def ks21 : Nat → List Nat
  | 0 => [0, 1, 4]
  | 1 => [4]
  | _ => []
def ks22 : Nat → List Nat
  | 0 => [1, 2, 4]
  | 1 => [1, 2, 4, 10]
  | 2 => [4]
  | 3 => [1, 2, 4, 5]
  | 4 => [1, 2, 4, 5, 17, 18, 19]
  | 5 => [1, 2, 4, 5, 17, 18, 19, 20]
  | 6 => [1, 2, 4, 5, 7, 17, 18, 19]
  | 7 => [1, 2, 4, 5, 17, 18, 19]
  | 8 => [1, 2, 4, 5, 17, 18, 19]
  | 9 => [4]
  | _ => []
def ks23 : Nat → List Nat
  | 0 => [1, 2]
  | 1 => [1, 5]
  | 2 => [1, 5, 10, 11, 12]
  | 3 => [1, 5, 10, 11, 12, 13]
  | 4 => [1, 5, 6, 7, 10, 11, 12]
  | 5 => [1, 5, 10, 11, 12, 19]
  | 6 => [4]
  | 7 => [1, 5, 10, 11, 12]
  | 8 => [4]
  | _ => []
def ks24 : Nat → List Nat
  | 0 => [0, 2]
  | 1 => [2]
  | _ => []
def ks25 : Nat → List Nat
  | 0 => [0, 2, 4]
  | 1 => [0, 2, 4, 10]
  | 2 => [2, 3, 5]
  | 3 => [2, 3, 4, 5]
  | 4 => [0, 2, 4, 5]
  | 5 => [0, 2, 4, 5, 33]
  | 6 => [0, 2, 4, 6]
  | 7 => [0, 2, 4, 6]
  | 8 => [0, 2, 4, 5, 6, 7]
  | 9 => [0, 2, 4, 5, 6]
  | 10 => [0, 2, 4, 5]
  | 11 => [2, 3, 4, 5]
  | _ => []
def ks26 : Nat → List Nat
  | 0 => [0]
  | 1 => [0, 5]
  | 2 => [0, 5, 6]
  | 3 => [0, 5, 6, 7]
  | 4 => [0, 5, 6, 7, 8]
  | 5 => [0, 5, 6, 7, 8, 22]
  | 6 => [0, 5, 6, 7, 9, 10]
  | 7 => [0, 5, 6, 7, 9, 10, 31]
  | 8 => [2, 3, 4]
  | 9 => [0, 5, 6, 7, 10]
  | 10 => [0, 5, 6, 7, 10]
  | 11 => [0, 5, 6, 7, 10]
  | 12 => [0, 5, 6, 7, 8]
  | 13 => [0, 5, 6, 7, 11, 12]
  | 14 => [0, 5, 6, 7, 11, 12, 50]
  | 15 => [2, 3, 4]
  | 16 => [0, 5, 6, 7, 12]
  | 17 => [0, 5, 6, 7, 8]
  | 18 => [0, 5, 6, 7, 8, 70]
  | 19 => [0, 5, 6, 7, 8]
  | 20 => [0, 5, 6, 7, 8]
  | 21 => [0, 5, 6, 7, 8]
  | 22 => [0, 5, 6, 7, 8, 80]
  | 23 => [2, 3, 4]
  | 24 => [0, 5, 6, 7, 8, 96]
  | 25 => [2, 3, 4]
  | 26 => [0, 5, 6, 7, 8]
  | _ => []
def ks27 : Nat → List Nat
  | 0 => [0]
  | 1 => [2]
  | _ => []
def ks28 : Nat → List Nat
  | 0 => [1]
  | 1 => [2]
  | _ => []
def ks29 : Nat → List Nat
  | 0 => [1, 2]
  | 1 => [1, 2, 12]
  | 2 => [4, 5]
  | 3 => [1, 2, 18, 19, 20]
  | 4 => [1, 2, 18, 19, 20, 21]
  | 5 => [1, 2, 7, 18, 19, 20]
  | 6 => [1, 2, 8, 9, 18, 19, 20]
  | 7 => [1, 2, 8, 18, 19, 20, 30]
  | 8 => [4, 5]
  | 9 => [1, 2, 18, 19, 20]
  | 10 => [4, 5]
  | _ => []
def ks30 : Nat → List Nat
  | 0 => [0, 1]
  | 1 => [4]
  | _ => []
def ks31 : Nat → List Nat
  | 0 => [0, 1, 2]
  | 1 => [0, 1, 2, 9]
  | 2 => [0, 1, 2, 9, 26]
  | 3 => [0, 1, 2, 9]
  | 4 => [0, 1, 2, 6, 9, 10]
  | 5 => [0, 6, 8, 9]
  | 6 => [6, 7, 8]
  | _ => []
def ks32 : Nat → List Nat
  | 0 => [0, 1]
  | 1 => [4]
  | _ => []
def ks33 : Nat → List Nat
  | 0 => [0, 1, 2, 3]
  | 1 => [0, 1, 2, 3, 10]
  | 2 => [0, 1, 2, 3, 10, 11]
  | 3 => [0, 1, 2, 3, 10, 11, 34]
  | 4 => [0, 1, 2, 3, 10, 11]
  | 5 => [0, 1, 2, 3, 10, 11]
  | 6 => [1, 11, 87]
  | 7 => [8, 9]
  | 8 => [8, 9]
  | _ => []
def ks34 : Nat → List Nat
  | 0 => [0]
  | 1 => [2]
  | _ => []
def ks35 : Nat → List Nat
  | 0 => [1, 2]
  | 1 => [1, 2, 3]
  | 2 => [1, 3]
  | 3 => []
  | _ => []
def ks36 : Nat → List Nat
  | 0 => [1, 2, 3]
  | 1 => [2, 3, 10]
  | 2 => [4]
  | 3 => [2, 12, 13, 14]
  | 4 => [2, 12, 13, 14, 15]
  | 5 => [2, 6, 12, 13, 14]
  | 6 => [2, 12, 13, 14, 21]
  | 7 => [4]
  | 8 => [2, 12, 13, 14]
  | 9 => [4]
  | _ => []
def ks37 : Nat → List Nat
  | 0 => [0, 1]
  | 1 => [4]
  | _ => []
def ks38 : Nat → List Nat
  | 0 => [0]
  | 1 => [0, 4, 5]
  | 2 => [0, 4, 5, 12]
  | 3 => [2, 3]
  | 4 => [2, 3]
  | _ => []
def ks39 : Nat → List Nat
  | 0 => [0, 1]
  | 1 => [0, 1, 7]
  | 2 => [4]
  | 3 => [4]
  | _ => []
theorem mixed : Tryd.prog.follows .mixedOrders = true := by kernel_rfl
end Go.Proofs.YtegibhjgldpndaaDoor
