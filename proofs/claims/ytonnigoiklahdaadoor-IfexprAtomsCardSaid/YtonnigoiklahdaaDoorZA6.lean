/-
  The value of any text as a number, and as a quote, is as the document says: for every text the law IfexprAtoms answers true, and leaves its argument as it was. No condition, but that the listed package-level variables hold what the program's text lays (the card ties them).
-/
import Derived.Test.YtonnigoiklahdaaDoorZA5
import Derived.Test.YtonnigoiklahdaaDoorCards
set_option linter.unusedVariables false
set_option linter.unusedSimpArgs false
set_option linter.unusedSectionVars false
namespace Go.Proofs.YtonnigoiklahdaaDoor
section
open Go.Al Go.Den
def sh42 (fu:Nat) (nf:Nat->Bool) (x0:Int):(Option (Int×Unit)):=cond (ile 48 x0) (cond (ile x0 57) (some ((zL .i64 (isub .u8 x0 48)),())) (cond (ile 97 x0) (cond (ile x0 102) (some ((zL .i64 (iadd .u8 (isub .u8 x0 97) 10)),())) (cond (ile 65 x0) (cond (ile x0 70) (some ((zL .i64 (iadd .u8 (isub .u8 x0 65) 10)),())) (some (99,()))) (some (99,())))) (cond (ile 65 x0) (cond (ile x0 70) (some ((zL .i64 (iadd .u8 (isub .u8 x0 65) 10)),())) (some (99,()))) (some (99,()))))) (cond (ile 97 x0) (cond (ile x0 102) (some ((zL .i64 (iadd .u8 (isub .u8 x0 97) 10)),())) (cond (ile 65 x0) (cond (ile x0 70) (some ((zL .i64 (iadd .u8 (isub .u8 x0 65) 10)),())) (some (99,()))) (some (99,())))) (cond (ile 65 x0) (cond (ile x0 70) (some ((zL .i64 (iadd .u8 (isub .u8 x0 65) 10)),())) (some (99,()))) (some (99,()))))
theorem eq42:@run42 = @sh42:=by kernel_rfl
def sh43 (fu:Nat) (nf:Nat->Bool) (x0:Str):(Option (Bool×Unit)):=cond (seq x0 []) (some (true,())) (cond (seq x0 [117]) (some (true,())) (cond (seq x0 [85]) (some (true,())) (cond (seq x0 [108]) (some (true,())) (cond (seq x0 [76]) (some (true,())) (cond (seq x0 [108,108]) (some (true,())) (cond (seq x0 [76,76]) (some (true,())) (cond (seq x0 [117,108]) (some (true,())) (cond (seq x0 [117,76]) (some (true,())) (cond (seq x0 [117,108,108]) (some (true,())) (cond (seq x0 [117,76,76]) (some (true,())) (cond (seq x0 [85,108]) (some (true,())) (cond (seq x0 [85,76]) (some (true,())) (cond (seq x0 [85,108,108]) (some (true,())) (cond (seq x0 [85,76,76]) (some (true,())) (cond (seq x0 [108,117]) (some (true,())) (cond (seq x0 [108,85]) (some (true,())) (cond (seq x0 [76,117]) (some (true,())) (cond (seq x0 [76,85]) (some (true,())) (cond (seq x0 [108,108,117]) (some (true,())) (cond (seq x0 [108,108,85]) (some (true,())) (cond (seq x0 [76,76,117]) (some (true,())) (cond (seq x0 [76,76,85]) (some (true,())) (some (false,()))))))))))))))))))))))))
theorem eq43:@run43 = @sh43:=by kernel_rfl
def sh14 (fu:Nat) (c42:(Int×Unit)->(Option (Int×Unit))) (c43:(Str×Unit)->(Option (Bool×Unit))) (nf:Nat->Bool) (x0:Str):(Option (Int×(Int×Unit))):=cond (ile 2 (lenI x0)) (cond (inB 0 (List.length x0)) (cond (ieq (zH x0 0) 48) (cond (inB 1 (List.length x0)) (cond (ieq (zH x0 1) 120) (iter fu (fun (rec1:((Int×(Int×Unit))×Unit)->Option (Int×(Int×Unit))) (s1:((Int×(Int×Unit))×Unit))=>cond (ilt s1.1.1 (lenI x0)) (cond (inB s1.1.1 (List.length x0)) (Option.bind (c42 ((zH x0 s1.1.1),())) fun y0=>cond (ile 16 y0.1) (cond (ieq s1.1.1 2) (some (0,(91,()))) (cond (inS s1.1.1 (lenI x0) (List.length x0)) (Option.bind (c43 ((cutL x0 s1.1.1 (lenI x0)),())) fun y1=>cond (!y1.1) (some (0,(91,()))) (some (s1.1.2.1,(0,())))) (none))) (cond (ine 16 0) (cond (ilt (iquo .i64 (isub .i64 9223372036854775807 y0.1) 16) s1.1.2.1) (some (0,(91,()))) (rec1 (((iadd .i64 s1.1.1 1),((iadd .i64 (imul .i64 s1.1.2.1 16) y0.1),())),()))) (none))) (none)) (cond (ieq s1.1.1 2) (some (0,(91,()))) (cond (inS s1.1.1 (lenI x0) (List.length x0)) (Option.bind (c43 ((cutL x0 s1.1.1 (lenI x0)),())) fun y0=>cond (!y0.1) (some (0,(91,()))) (some (s1.1.2.1,(0,())))) (none)))) ((2,(0,())),())) (cond (inB 1 (List.length x0)) (cond (ieq (zH x0 1) 88) (iter fu (fun (rec1:((Int×(Int×Unit))×Unit)->Option (Int×(Int×Unit))) (s1:((Int×(Int×Unit))×Unit))=>cond (ilt s1.1.1 (lenI x0)) (cond (inB s1.1.1 (List.length x0)) (Option.bind (c42 ((zH x0 s1.1.1),())) fun y0=>cond (ile 16 y0.1) (cond (ieq s1.1.1 2) (some (0,(91,()))) (cond (inS s1.1.1 (lenI x0) (List.length x0)) (Option.bind (c43 ((cutL x0 s1.1.1 (lenI x0)),())) fun y1=>cond (!y1.1) (some (0,(91,()))) (some (s1.1.2.1,(0,())))) (none))) (cond (ine 16 0) (cond (ilt (iquo .i64 (isub .i64 9223372036854775807 y0.1) 16) s1.1.2.1) (some (0,(91,()))) (rec1 (((iadd .i64 s1.1.1 1),((iadd .i64 (imul .i64 s1.1.2.1 16) y0.1),())),()))) (none))) (none)) (cond (ieq s1.1.1 2) (some (0,(91,()))) (cond (inS s1.1.1 (lenI x0) (List.length x0)) (Option.bind (c43 ((cutL x0 s1.1.1 (lenI x0)),())) fun y0=>cond (!y0.1) (some (0,(91,()))) (some (s1.1.2.1,(0,())))) (none)))) ((2,(0,())),())) (cond (ile 1 (lenI x0)) (cond (inB 0 (List.length x0)) (cond (ieq (zH x0 0) 48) (iter fu (fun (rec1:((Int×(Int×Unit))×Unit)->Option (Int×(Int×Unit))) (s1:((Int×(Int×Unit))×Unit))=>cond (ilt s1.1.1 (lenI x0)) (cond (inB s1.1.1 (List.length x0)) (Option.bind (c42 ((zH x0 s1.1.1),())) fun y0=>cond (ile 8 y0.1) (cond (ieq s1.1.1 0) (some (0,(91,()))) (cond (inS s1.1.1 (lenI x0) (List.length x0)) (Option.bind (c43 ((cutL x0 s1.1.1 (lenI x0)),())) fun y1=>cond (!y1.1) (some (0,(91,()))) (some (s1.1.2.1,(0,())))) (none))) (cond (ine 8 0) (cond (ilt (iquo .i64 (isub .i64 9223372036854775807 y0.1) 8) s1.1.2.1) (some (0,(91,()))) (rec1 (((iadd .i64 s1.1.1 1),((iadd .i64 (imul .i64 s1.1.2.1 8) y0.1),())),()))) (none))) (none)) (cond (ieq s1.1.1 0) (some (0,(91,()))) (cond (inS s1.1.1 (lenI x0) (List.length x0)) (Option.bind (c43 ((cutL x0 s1.1.1 (lenI x0)),())) fun y0=>cond (!y0.1) (some (0,(91,()))) (some (s1.1.2.1,(0,())))) (none)))) ((0,(0,())),())) (iter fu (fun (rec1:((Int×(Int×Unit))×Unit)->Option (Int×(Int×Unit))) (s1:((Int×(Int×Unit))×Unit))=>cond (ilt s1.1.1 (lenI x0)) (cond (inB s1.1.1 (List.length x0)) (Option.bind (c42 ((zH x0 s1.1.1),())) fun y0=>cond (ile 10 y0.1) (cond (ieq s1.1.1 0) (some (0,(91,()))) (cond (inS s1.1.1 (lenI x0) (List.length x0)) (Option.bind (c43 ((cutL x0 s1.1.1 (lenI x0)),())) fun y1=>cond (!y1.1) (some (0,(91,()))) (some (s1.1.2.1,(0,())))) (none))) (cond (ine 10 0) (cond (ilt (iquo .i64 (isub .i64 9223372036854775807 y0.1) 10) s1.1.2.1) (some (0,(91,()))) (rec1 (((iadd .i64 s1.1.1 1),((iadd .i64 (imul .i64 s1.1.2.1 10) y0.1),())),()))) (none))) (none)) (cond (ieq s1.1.1 0) (some (0,(91,()))) (cond (inS s1.1.1 (lenI x0) (List.length x0)) (Option.bind (c43 ((cutL x0 s1.1.1 (lenI x0)),())) fun y0=>cond (!y0.1) (some (0,(91,()))) (some (s1.1.2.1,(0,())))) (none)))) ((0,(0,())),()))) (none)) (iter fu (fun (rec1:((Int×(Int×Unit))×Unit)->Option (Int×(Int×Unit))) (s1:((Int×(Int×Unit))×Unit))=>cond (ilt s1.1.1 (lenI x0)) (cond (inB s1.1.1 (List.length x0)) (Option.bind (c42 ((zH x0 s1.1.1),())) fun y0=>cond (ile 10 y0.1) (cond (ieq s1.1.1 0) (some (0,(91,()))) (cond (inS s1.1.1 (lenI x0) (List.length x0)) (Option.bind (c43 ((cutL x0 s1.1.1 (lenI x0)),())) fun y1=>cond (!y1.1) (some (0,(91,()))) (some (s1.1.2.1,(0,())))) (none))) (cond (ine 10 0) (cond (ilt (iquo .i64 (isub .i64 9223372036854775807 y0.1) 10) s1.1.2.1) (some (0,(91,()))) (rec1 (((iadd .i64 s1.1.1 1),((iadd .i64 (imul .i64 s1.1.2.1 10) y0.1),())),()))) (none))) (none)) (cond (ieq s1.1.1 0) (some (0,(91,()))) (cond (inS s1.1.1 (lenI x0) (List.length x0)) (Option.bind (c43 ((cutL x0 s1.1.1 (lenI x0)),())) fun y0=>cond (!y0.1) (some (0,(91,()))) (some (s1.1.2.1,(0,())))) (none)))) ((0,(0,())),())))) (none))) (none)) (cond (ile 1 (lenI x0)) (cond (inB 0 (List.length x0)) (cond (ieq (zH x0 0) 48) (iter fu (fun (rec1:((Int×(Int×Unit))×Unit)->Option (Int×(Int×Unit))) (s1:((Int×(Int×Unit))×Unit))=>cond (ilt s1.1.1 (lenI x0)) (cond (inB s1.1.1 (List.length x0)) (Option.bind (c42 ((zH x0 s1.1.1),())) fun y0=>cond (ile 8 y0.1) (cond (ieq s1.1.1 0) (some (0,(91,()))) (cond (inS s1.1.1 (lenI x0) (List.length x0)) (Option.bind (c43 ((cutL x0 s1.1.1 (lenI x0)),())) fun y1=>cond (!y1.1) (some (0,(91,()))) (some (s1.1.2.1,(0,())))) (none))) (cond (ine 8 0) (cond (ilt (iquo .i64 (isub .i64 9223372036854775807 y0.1) 8) s1.1.2.1) (some (0,(91,()))) (rec1 (((iadd .i64 s1.1.1 1),((iadd .i64 (imul .i64 s1.1.2.1 8) y0.1),())),()))) (none))) (none)) (cond (ieq s1.1.1 0) (some (0,(91,()))) (cond (inS s1.1.1 (lenI x0) (List.length x0)) (Option.bind (c43 ((cutL x0 s1.1.1 (lenI x0)),())) fun y0=>cond (!y0.1) (some (0,(91,()))) (some (s1.1.2.1,(0,())))) (none)))) ((0,(0,())),())) (iter fu (fun (rec1:((Int×(Int×Unit))×Unit)->Option (Int×(Int×Unit))) (s1:((Int×(Int×Unit))×Unit))=>cond (ilt s1.1.1 (lenI x0)) (cond (inB s1.1.1 (List.length x0)) (Option.bind (c42 ((zH x0 s1.1.1),())) fun y0=>cond (ile 10 y0.1) (cond (ieq s1.1.1 0) (some (0,(91,()))) (cond (inS s1.1.1 (lenI x0) (List.length x0)) (Option.bind (c43 ((cutL x0 s1.1.1 (lenI x0)),())) fun y1=>cond (!y1.1) (some (0,(91,()))) (some (s1.1.2.1,(0,())))) (none))) (cond (ine 10 0) (cond (ilt (iquo .i64 (isub .i64 9223372036854775807 y0.1) 10) s1.1.2.1) (some (0,(91,()))) (rec1 (((iadd .i64 s1.1.1 1),((iadd .i64 (imul .i64 s1.1.2.1 10) y0.1),())),()))) (none))) (none)) (cond (ieq s1.1.1 0) (some (0,(91,()))) (cond (inS s1.1.1 (lenI x0) (List.length x0)) (Option.bind (c43 ((cutL x0 s1.1.1 (lenI x0)),())) fun y0=>cond (!y0.1) (some (0,(91,()))) (some (s1.1.2.1,(0,())))) (none)))) ((0,(0,())),()))) (none)) (iter fu (fun (rec1:((Int×(Int×Unit))×Unit)->Option (Int×(Int×Unit))) (s1:((Int×(Int×Unit))×Unit))=>cond (ilt s1.1.1 (lenI x0)) (cond (inB s1.1.1 (List.length x0)) (Option.bind (c42 ((zH x0 s1.1.1),())) fun y0=>cond (ile 10 y0.1) (cond (ieq s1.1.1 0) (some (0,(91,()))) (cond (inS s1.1.1 (lenI x0) (List.length x0)) (Option.bind (c43 ((cutL x0 s1.1.1 (lenI x0)),())) fun y1=>cond (!y1.1) (some (0,(91,()))) (some (s1.1.2.1,(0,())))) (none))) (cond (ine 10 0) (cond (ilt (iquo .i64 (isub .i64 9223372036854775807 y0.1) 10) s1.1.2.1) (some (0,(91,()))) (rec1 (((iadd .i64 s1.1.1 1),((iadd .i64 (imul .i64 s1.1.2.1 10) y0.1),())),()))) (none))) (none)) (cond (ieq s1.1.1 0) (some (0,(91,()))) (cond (inS s1.1.1 (lenI x0) (List.length x0)) (Option.bind (c43 ((cutL x0 s1.1.1 (lenI x0)),())) fun y0=>cond (!y0.1) (some (0,(91,()))) (some (s1.1.2.1,(0,())))) (none)))) ((0,(0,())),())))) (none)) (cond (ile 1 (lenI x0)) (cond (inB 0 (List.length x0)) (cond (ieq (zH x0 0) 48) (iter fu (fun (rec1:((Int×(Int×Unit))×Unit)->Option (Int×(Int×Unit))) (s1:((Int×(Int×Unit))×Unit))=>cond (ilt s1.1.1 (lenI x0)) (cond (inB s1.1.1 (List.length x0)) (Option.bind (c42 ((zH x0 s1.1.1),())) fun y0=>cond (ile 8 y0.1) (cond (ieq s1.1.1 0) (some (0,(91,()))) (cond (inS s1.1.1 (lenI x0) (List.length x0)) (Option.bind (c43 ((cutL x0 s1.1.1 (lenI x0)),())) fun y1=>cond (!y1.1) (some (0,(91,()))) (some (s1.1.2.1,(0,())))) (none))) (cond (ine 8 0) (cond (ilt (iquo .i64 (isub .i64 9223372036854775807 y0.1) 8) s1.1.2.1) (some (0,(91,()))) (rec1 (((iadd .i64 s1.1.1 1),((iadd .i64 (imul .i64 s1.1.2.1 8) y0.1),())),()))) (none))) (none)) (cond (ieq s1.1.1 0) (some (0,(91,()))) (cond (inS s1.1.1 (lenI x0) (List.length x0)) (Option.bind (c43 ((cutL x0 s1.1.1 (lenI x0)),())) fun y0=>cond (!y0.1) (some (0,(91,()))) (some (s1.1.2.1,(0,())))) (none)))) ((0,(0,())),())) (iter fu (fun (rec1:((Int×(Int×Unit))×Unit)->Option (Int×(Int×Unit))) (s1:((Int×(Int×Unit))×Unit))=>cond (ilt s1.1.1 (lenI x0)) (cond (inB s1.1.1 (List.length x0)) (Option.bind (c42 ((zH x0 s1.1.1),())) fun y0=>cond (ile 10 y0.1) (cond (ieq s1.1.1 0) (some (0,(91,()))) (cond (inS s1.1.1 (lenI x0) (List.length x0)) (Option.bind (c43 ((cutL x0 s1.1.1 (lenI x0)),())) fun y1=>cond (!y1.1) (some (0,(91,()))) (some (s1.1.2.1,(0,())))) (none))) (cond (ine 10 0) (cond (ilt (iquo .i64 (isub .i64 9223372036854775807 y0.1) 10) s1.1.2.1) (some (0,(91,()))) (rec1 (((iadd .i64 s1.1.1 1),((iadd .i64 (imul .i64 s1.1.2.1 10) y0.1),())),()))) (none))) (none)) (cond (ieq s1.1.1 0) (some (0,(91,()))) (cond (inS s1.1.1 (lenI x0) (List.length x0)) (Option.bind (c43 ((cutL x0 s1.1.1 (lenI x0)),())) fun y0=>cond (!y0.1) (some (0,(91,()))) (some (s1.1.2.1,(0,())))) (none)))) ((0,(0,())),()))) (none)) (iter fu (fun (rec1:((Int×(Int×Unit))×Unit)->Option (Int×(Int×Unit))) (s1:((Int×(Int×Unit))×Unit))=>cond (ilt s1.1.1 (lenI x0)) (cond (inB s1.1.1 (List.length x0)) (Option.bind (c42 ((zH x0 s1.1.1),())) fun y0=>cond (ile 10 y0.1) (cond (ieq s1.1.1 0) (some (0,(91,()))) (cond (inS s1.1.1 (lenI x0) (List.length x0)) (Option.bind (c43 ((cutL x0 s1.1.1 (lenI x0)),())) fun y1=>cond (!y1.1) (some (0,(91,()))) (some (s1.1.2.1,(0,())))) (none))) (cond (ine 10 0) (cond (ilt (iquo .i64 (isub .i64 9223372036854775807 y0.1) 10) s1.1.2.1) (some (0,(91,()))) (rec1 (((iadd .i64 s1.1.1 1),((iadd .i64 (imul .i64 s1.1.2.1 10) y0.1),())),()))) (none))) (none)) (cond (ieq s1.1.1 0) (some (0,(91,()))) (cond (inS s1.1.1 (lenI x0) (List.length x0)) (Option.bind (c43 ((cutL x0 s1.1.1 (lenI x0)),())) fun y0=>cond (!y0.1) (some (0,(91,()))) (some (s1.1.2.1,(0,())))) (none)))) ((0,(0,())),())))
theorem eq14:@run14 = @sh14:=by kernel_rfl
def sh16 (fu:Nat) (nf:Nat->Bool) (x0:Str):(Option (Int×(Int×Unit))):=cond (ilt (lenI x0) 3) (some (0,(91,()))) (cond (ilt 4 (lenI x0)) (some (0,(91,()))) (cond (inB 0 (List.length x0)) (cond (ine (zH x0 0) 39) (some (0,(91,()))) (cond (inB (isub .i64 (lenI x0) 1) (List.length x0)) (cond (ine (zH x0 (isub .i64 (lenI x0) 1)) 39) (some (0,(91,()))) (cond (ieq (lenI x0) 3) (cond (inB 1 (List.length x0)) (cond (ine (zH x0 1) 92) (cond (inB 1 (List.length x0)) (some ((zL .i64 (zH x0 1)),(0,()))) (none)) (cond (ieq (lenI x0) 3) (some (0,(91,()))) (cond (inB 1 (List.length x0)) (cond (ine (zH x0 1) 92) (some (0,(91,()))) (cond (inB 2 (List.length x0)) (cond (ieq (zH x0 2) 110) (some (10,(0,()))) (cond (ieq (zH x0 2) 116) (some (9,(0,()))) (cond (ieq (zH x0 2) 114) (some (13,(0,()))) (cond (ieq (zH x0 2) 48) (some (0,(0,()))) (cond (ieq (zH x0 2) 97) (some (7,(0,()))) (cond (ieq (zH x0 2) 98) (some (8,(0,()))) (cond (ieq (zH x0 2) 102) (some (12,(0,()))) (cond (ieq (zH x0 2) 118) (some (11,(0,()))) (cond (ieq (zH x0 2) 92) (cond (inB 2 (List.length x0)) (some ((zL .i64 (zH x0 2)),(0,()))) (none)) (cond (ieq (zH x0 2) 39) (cond (inB 2 (List.length x0)) (some ((zL .i64 (zH x0 2)),(0,()))) (none)) (cond (ieq (zH x0 2) 34) (cond (inB 2 (List.length x0)) (some ((zL .i64 (zH x0 2)),(0,()))) (none)) (cond (ieq (zH x0 2) 63) (cond (inB 2 (List.length x0)) (some ((zL .i64 (zH x0 2)),(0,()))) (none)) (some (0,(91,()))))))))))))))) (none))) (none)))) (none)) (cond (ieq (lenI x0) 3) (some (0,(91,()))) (cond (inB 1 (List.length x0)) (cond (ine (zH x0 1) 92) (some (0,(91,()))) (cond (inB 2 (List.length x0)) (cond (ieq (zH x0 2) 110) (some (10,(0,()))) (cond (ieq (zH x0 2) 116) (some (9,(0,()))) (cond (ieq (zH x0 2) 114) (some (13,(0,()))) (cond (ieq (zH x0 2) 48) (some (0,(0,()))) (cond (ieq (zH x0 2) 97) (some (7,(0,()))) (cond (ieq (zH x0 2) 98) (some (8,(0,()))) (cond (ieq (zH x0 2) 102) (some (12,(0,()))) (cond (ieq (zH x0 2) 118) (some (11,(0,()))) (cond (ieq (zH x0 2) 92) (cond (inB 2 (List.length x0)) (some ((zL .i64 (zH x0 2)),(0,()))) (none)) (cond (ieq (zH x0 2) 39) (cond (inB 2 (List.length x0)) (some ((zL .i64 (zH x0 2)),(0,()))) (none)) (cond (ieq (zH x0 2) 34) (cond (inB 2 (List.length x0)) (some ((zL .i64 (zH x0 2)),(0,()))) (none)) (cond (ieq (zH x0 2) 63) (cond (inB 2 (List.length x0)) (some ((zL .i64 (zH x0 2)),(0,()))) (none)) (some (0,(91,()))))))))))))))) (none))) (none))))) (none))) (none)))
theorem eq16:@run16 = @sh16:=by kernel_rfl
def sh8 (fu:Nat) (c18:(Str×Unit)->(Option (Int×Unit))) (nf:Nat->Bool):(Option (Bool×Unit)):=Option.bind (c18 ([49,32,43,32,50,32,42,32,51],())) fun y0=>cond (ieq y0.1 7) (Option.bind (c18 ([40,49,32,43,32,50,41,32,42,32,51],())) fun y1=>cond (ieq y1.1 9) (Option.bind (c18 ([45,55,32,47,32,50],())) fun y2=>cond (ieq y2.1 (Neg.neg 3)) (Option.bind (c18 ([45,55,32,37,32,50],())) fun y3=>Option.bind (c18 ([49,32,124,124,32,49,32,47,32,48],())) fun y4=>cond (ieq y4.1 1) (Option.bind (c18 ([49,32,47,32,48],())) fun y5=>cond (ieq y5.1 (Neg.neg 1092)) (Option.bind (c18 ([48,32,63,32,49,47,48,32,58,32,53],())) fun y6=>cond (ieq y6.1 5) (Option.bind (c18 ([88,32,61,61,32,48,32,38,38,32,39,97,39,32,61,61,32,57,55],())) fun y7=>Option.bind (c18 ([48,120,49,48,117],())) fun y8=>cond (ieq y8.1 16) (Option.bind (c18 ([48,56],())) fun y9=>cond (ieq y9.1 (Neg.neg 1091)) (Option.bind (c18 ([49,32,60,60,32,54,52],())) fun y10=>cond (ieq y10.1 (Neg.neg 1093)) (Option.bind (c18 ([49,32,43],())) fun y11=>cond (ieq y11.1 (Neg.neg 1090)) (Option.bind (c18 ([],())) fun y12=>cond (ieq y12.1 (Neg.neg 1090)) (Option.bind (c18 ([49,32,63,32,50,32,58,32,48,32,63,32,51,32,58,32,52],())) fun y13=>cond (ieq y3.1 (Neg.neg 1)) (cond (ieq y7.1 1) (some ((ieq y13.1 2),())) (some (false,()))) (some (false,()))) (cond (ieq y3.1 (Neg.neg 1)) (cond (ieq y7.1 1) (some (false,())) (some (false,()))) (some (false,())))) (cond (ieq y3.1 (Neg.neg 1)) (cond (ieq y7.1 1) (some (false,())) (some (false,()))) (some (false,())))) (cond (ieq y3.1 (Neg.neg 1)) (cond (ieq y7.1 1) (some (false,())) (some (false,()))) (some (false,())))) (cond (ieq y3.1 (Neg.neg 1)) (cond (ieq y7.1 1) (some (false,())) (some (false,()))) (some (false,())))) (cond (ieq y3.1 (Neg.neg 1)) (cond (ieq y7.1 1) (some (false,())) (some (false,()))) (some (false,())))) (Option.bind (c18 ([48,120,49,48,117],())) fun y7=>cond (ieq y7.1 16) (Option.bind (c18 ([48,56],())) fun y8=>cond (ieq y8.1 (Neg.neg 1091)) (Option.bind (c18 ([49,32,60,60,32,54,52],())) fun y9=>cond (ieq y9.1 (Neg.neg 1093)) (Option.bind (c18 ([49,32,43],())) fun y10=>cond (ieq y10.1 (Neg.neg 1090)) (Option.bind (c18 ([],())) fun y11=>cond (ieq y11.1 (Neg.neg 1090)) (Option.bind (c18 ([49,32,63,32,50,32,58,32,48,32,63,32,51,32,58,32,52],())) fun y12=>cond (ieq y3.1 (Neg.neg 1)) (some (false,())) (some (false,()))) (cond (ieq y3.1 (Neg.neg 1)) (some (false,())) (some (false,())))) (cond (ieq y3.1 (Neg.neg 1)) (some (false,())) (some (false,())))) (cond (ieq y3.1 (Neg.neg 1)) (some (false,())) (some (false,())))) (cond (ieq y3.1 (Neg.neg 1)) (some (false,())) (some (false,())))) (cond (ieq y3.1 (Neg.neg 1)) (some (false,())) (some (false,()))))) (Option.bind (c18 ([48,120,49,48,117],())) fun y6=>cond (ieq y6.1 16) (Option.bind (c18 ([48,56],())) fun y7=>cond (ieq y7.1 (Neg.neg 1091)) (Option.bind (c18 ([49,32,60,60,32,54,52],())) fun y8=>cond (ieq y8.1 (Neg.neg 1093)) (Option.bind (c18 ([49,32,43],())) fun y9=>cond (ieq y9.1 (Neg.neg 1090)) (Option.bind (c18 ([],())) fun y10=>cond (ieq y10.1 (Neg.neg 1090)) (Option.bind (c18 ([49,32,63,32,50,32,58,32,48,32,63,32,51,32,58,32,52],())) fun y11=>cond (ieq y3.1 (Neg.neg 1)) (some (false,())) (some (false,()))) (cond (ieq y3.1 (Neg.neg 1)) (some (false,())) (some (false,())))) (cond (ieq y3.1 (Neg.neg 1)) (some (false,())) (some (false,())))) (cond (ieq y3.1 (Neg.neg 1)) (some (false,())) (some (false,())))) (cond (ieq y3.1 (Neg.neg 1)) (some (false,())) (some (false,())))) (cond (ieq y3.1 (Neg.neg 1)) (some (false,())) (some (false,()))))) (Option.bind (c18 ([48,120,49,48,117],())) fun y5=>cond (ieq y5.1 16) (Option.bind (c18 ([48,56],())) fun y6=>cond (ieq y6.1 (Neg.neg 1091)) (Option.bind (c18 ([49,32,60,60,32,54,52],())) fun y7=>cond (ieq y7.1 (Neg.neg 1093)) (Option.bind (c18 ([49,32,43],())) fun y8=>cond (ieq y8.1 (Neg.neg 1090)) (Option.bind (c18 ([],())) fun y9=>cond (ieq y9.1 (Neg.neg 1090)) (Option.bind (c18 ([49,32,63,32,50,32,58,32,48,32,63,32,51,32,58,32,52],())) fun y10=>cond (ieq y3.1 (Neg.neg 1)) (some (false,())) (some (false,()))) (cond (ieq y3.1 (Neg.neg 1)) (some (false,())) (some (false,())))) (cond (ieq y3.1 (Neg.neg 1)) (some (false,())) (some (false,())))) (cond (ieq y3.1 (Neg.neg 1)) (some (false,())) (some (false,())))) (cond (ieq y3.1 (Neg.neg 1)) (some (false,())) (some (false,())))) (cond (ieq y3.1 (Neg.neg 1)) (some (false,())) (some (false,()))))) (Option.bind (c18 ([49,32,124,124,32,49,32,47,32,48],())) fun y3=>cond (ieq y3.1 1) (Option.bind (c18 ([49,32,47,32,48],())) fun y4=>cond (ieq y4.1 (Neg.neg 1092)) (Option.bind (c18 ([48,32,63,32,49,47,48,32,58,32,53],())) fun y5=>cond (ieq y5.1 5) (Option.bind (c18 ([88,32,61,61,32,48,32,38,38,32,39,97,39,32,61,61,32,57,55],())) fun y6=>Option.bind (c18 ([48,120,49,48,117],())) fun y7=>cond (ieq y7.1 16) (Option.bind (c18 ([48,56],())) fun y8=>cond (ieq y8.1 (Neg.neg 1091)) (Option.bind (c18 ([49,32,60,60,32,54,52],())) fun y9=>cond (ieq y9.1 (Neg.neg 1093)) (Option.bind (c18 ([49,32,43],())) fun y10=>cond (ieq y10.1 (Neg.neg 1090)) (Option.bind (c18 ([],())) fun y11=>cond (ieq y11.1 (Neg.neg 1090)) (Option.bind (c18 ([49,32,63,32,50,32,58,32,48,32,63,32,51,32,58,32,52],())) fun y12=>some (false,())) (some (false,()))) (some (false,()))) (some (false,()))) (some (false,()))) (some (false,()))) (Option.bind (c18 ([48,120,49,48,117],())) fun y6=>cond (ieq y6.1 16) (Option.bind (c18 ([48,56],())) fun y7=>cond (ieq y7.1 (Neg.neg 1091)) (Option.bind (c18 ([49,32,60,60,32,54,52],())) fun y8=>cond (ieq y8.1 (Neg.neg 1093)) (Option.bind (c18 ([49,32,43],())) fun y9=>cond (ieq y9.1 (Neg.neg 1090)) (Option.bind (c18 ([],())) fun y10=>cond (ieq y10.1 (Neg.neg 1090)) (Option.bind (c18 ([49,32,63,32,50,32,58,32,48,32,63,32,51,32,58,32,52],())) fun y11=>some (false,())) (some (false,()))) (some (false,()))) (some (false,()))) (some (false,()))) (some (false,())))) (Option.bind (c18 ([48,120,49,48,117],())) fun y5=>cond (ieq y5.1 16) (Option.bind (c18 ([48,56],())) fun y6=>cond (ieq y6.1 (Neg.neg 1091)) (Option.bind (c18 ([49,32,60,60,32,54,52],())) fun y7=>cond (ieq y7.1 (Neg.neg 1093)) (Option.bind (c18 ([49,32,43],())) fun y8=>cond (ieq y8.1 (Neg.neg 1090)) (Option.bind (c18 ([],())) fun y9=>cond (ieq y9.1 (Neg.neg 1090)) (Option.bind (c18 ([49,32,63,32,50,32,58,32,48,32,63,32,51,32,58,32,52],())) fun y10=>some (false,())) (some (false,()))) (some (false,()))) (some (false,()))) (some (false,()))) (some (false,())))) (Option.bind (c18 ([48,120,49,48,117],())) fun y4=>cond (ieq y4.1 16) (Option.bind (c18 ([48,56],())) fun y5=>cond (ieq y5.1 (Neg.neg 1091)) (Option.bind (c18 ([49,32,60,60,32,54,52],())) fun y6=>cond (ieq y6.1 (Neg.neg 1093)) (Option.bind (c18 ([49,32,43],())) fun y7=>cond (ieq y7.1 (Neg.neg 1090)) (Option.bind (c18 ([],())) fun y8=>cond (ieq y8.1 (Neg.neg 1090)) (Option.bind (c18 ([49,32,63,32,50,32,58,32,48,32,63,32,51,32,58,32,52],())) fun y9=>some (false,())) (some (false,()))) (some (false,()))) (some (false,()))) (some (false,()))) (some (false,()))))) (Option.bind (c18 ([49,32,124,124,32,49,32,47,32,48],())) fun y2=>cond (ieq y2.1 1) (Option.bind (c18 ([49,32,47,32,48],())) fun y3=>cond (ieq y3.1 (Neg.neg 1092)) (Option.bind (c18 ([48,32,63,32,49,47,48,32,58,32,53],())) fun y4=>cond (ieq y4.1 5) (Option.bind (c18 ([88,32,61,61,32,48,32,38,38,32,39,97,39,32,61,61,32,57,55],())) fun y5=>Option.bind (c18 ([48,120,49,48,117],())) fun y6=>cond (ieq y6.1 16) (Option.bind (c18 ([48,56],())) fun y7=>cond (ieq y7.1 (Neg.neg 1091)) (Option.bind (c18 ([49,32,60,60,32,54,52],())) fun y8=>cond (ieq y8.1 (Neg.neg 1093)) (Option.bind (c18 ([49,32,43],())) fun y9=>cond (ieq y9.1 (Neg.neg 1090)) (Option.bind (c18 ([],())) fun y10=>cond (ieq y10.1 (Neg.neg 1090)) (Option.bind (c18 ([49,32,63,32,50,32,58,32,48,32,63,32,51,32,58,32,52],())) fun y11=>some (false,())) (some (false,()))) (some (false,()))) (some (false,()))) (some (false,()))) (some (false,()))) (Option.bind (c18 ([48,120,49,48,117],())) fun y5=>cond (ieq y5.1 16) (Option.bind (c18 ([48,56],())) fun y6=>cond (ieq y6.1 (Neg.neg 1091)) (Option.bind (c18 ([49,32,60,60,32,54,52],())) fun y7=>cond (ieq y7.1 (Neg.neg 1093)) (Option.bind (c18 ([49,32,43],())) fun y8=>cond (ieq y8.1 (Neg.neg 1090)) (Option.bind (c18 ([],())) fun y9=>cond (ieq y9.1 (Neg.neg 1090)) (Option.bind (c18 ([49,32,63,32,50,32,58,32,48,32,63,32,51,32,58,32,52],())) fun y10=>some (false,())) (some (false,()))) (some (false,()))) (some (false,()))) (some (false,()))) (some (false,())))) (Option.bind (c18 ([48,120,49,48,117],())) fun y4=>cond (ieq y4.1 16) (Option.bind (c18 ([48,56],())) fun y5=>cond (ieq y5.1 (Neg.neg 1091)) (Option.bind (c18 ([49,32,60,60,32,54,52],())) fun y6=>cond (ieq y6.1 (Neg.neg 1093)) (Option.bind (c18 ([49,32,43],())) fun y7=>cond (ieq y7.1 (Neg.neg 1090)) (Option.bind (c18 ([],())) fun y8=>cond (ieq y8.1 (Neg.neg 1090)) (Option.bind (c18 ([49,32,63,32,50,32,58,32,48,32,63,32,51,32,58,32,52],())) fun y9=>some (false,())) (some (false,()))) (some (false,()))) (some (false,()))) (some (false,()))) (some (false,())))) (Option.bind (c18 ([48,120,49,48,117],())) fun y3=>cond (ieq y3.1 16) (Option.bind (c18 ([48,56],())) fun y4=>cond (ieq y4.1 (Neg.neg 1091)) (Option.bind (c18 ([49,32,60,60,32,54,52],())) fun y5=>cond (ieq y5.1 (Neg.neg 1093)) (Option.bind (c18 ([49,32,43],())) fun y6=>cond (ieq y6.1 (Neg.neg 1090)) (Option.bind (c18 ([],())) fun y7=>cond (ieq y7.1 (Neg.neg 1090)) (Option.bind (c18 ([49,32,63,32,50,32,58,32,48,32,63,32,51,32,58,32,52],())) fun y8=>some (false,())) (some (false,()))) (some (false,()))) (some (false,()))) (some (false,()))) (some (false,()))))) (Option.bind (c18 ([49,32,124,124,32,49,32,47,32,48],())) fun y1=>cond (ieq y1.1 1) (Option.bind (c18 ([49,32,47,32,48],())) fun y2=>cond (ieq y2.1 (Neg.neg 1092)) (Option.bind (c18 ([48,32,63,32,49,47,48,32,58,32,53],())) fun y3=>cond (ieq y3.1 5) (Option.bind (c18 ([88,32,61,61,32,48,32,38,38,32,39,97,39,32,61,61,32,57,55],())) fun y4=>Option.bind (c18 ([48,120,49,48,117],())) fun y5=>cond (ieq y5.1 16) (Option.bind (c18 ([48,56],())) fun y6=>cond (ieq y6.1 (Neg.neg 1091)) (Option.bind (c18 ([49,32,60,60,32,54,52],())) fun y7=>cond (ieq y7.1 (Neg.neg 1093)) (Option.bind (c18 ([49,32,43],())) fun y8=>cond (ieq y8.1 (Neg.neg 1090)) (Option.bind (c18 ([],())) fun y9=>cond (ieq y9.1 (Neg.neg 1090)) (Option.bind (c18 ([49,32,63,32,50,32,58,32,48,32,63,32,51,32,58,32,52],())) fun y10=>some (false,())) (some (false,()))) (some (false,()))) (some (false,()))) (some (false,()))) (some (false,()))) (Option.bind (c18 ([48,120,49,48,117],())) fun y4=>cond (ieq y4.1 16) (Option.bind (c18 ([48,56],())) fun y5=>cond (ieq y5.1 (Neg.neg 1091)) (Option.bind (c18 ([49,32,60,60,32,54,52],())) fun y6=>cond (ieq y6.1 (Neg.neg 1093)) (Option.bind (c18 ([49,32,43],())) fun y7=>cond (ieq y7.1 (Neg.neg 1090)) (Option.bind (c18 ([],())) fun y8=>cond (ieq y8.1 (Neg.neg 1090)) (Option.bind (c18 ([49,32,63,32,50,32,58,32,48,32,63,32,51,32,58,32,52],())) fun y9=>some (false,())) (some (false,()))) (some (false,()))) (some (false,()))) (some (false,()))) (some (false,())))) (Option.bind (c18 ([48,120,49,48,117],())) fun y3=>cond (ieq y3.1 16) (Option.bind (c18 ([48,56],())) fun y4=>cond (ieq y4.1 (Neg.neg 1091)) (Option.bind (c18 ([49,32,60,60,32,54,52],())) fun y5=>cond (ieq y5.1 (Neg.neg 1093)) (Option.bind (c18 ([49,32,43],())) fun y6=>cond (ieq y6.1 (Neg.neg 1090)) (Option.bind (c18 ([],())) fun y7=>cond (ieq y7.1 (Neg.neg 1090)) (Option.bind (c18 ([49,32,63,32,50,32,58,32,48,32,63,32,51,32,58,32,52],())) fun y8=>some (false,())) (some (false,()))) (some (false,()))) (some (false,()))) (some (false,()))) (some (false,())))) (Option.bind (c18 ([48,120,49,48,117],())) fun y2=>cond (ieq y2.1 16) (Option.bind (c18 ([48,56],())) fun y3=>cond (ieq y3.1 (Neg.neg 1091)) (Option.bind (c18 ([49,32,60,60,32,54,52],())) fun y4=>cond (ieq y4.1 (Neg.neg 1093)) (Option.bind (c18 ([49,32,43],())) fun y5=>cond (ieq y5.1 (Neg.neg 1090)) (Option.bind (c18 ([],())) fun y6=>cond (ieq y6.1 (Neg.neg 1090)) (Option.bind (c18 ([49,32,63,32,50,32,58,32,48,32,63,32,51,32,58,32,52],())) fun y7=>some (false,())) (some (false,()))) (some (false,()))) (some (false,()))) (some (false,()))) (some (false,()))))
theorem eq8:@run8 = @sh8:=by kernel_rfl
def sh4 (fu:Nat) (c8:Unit->(Option (Bool×Unit))) (c13:(Str×Unit)->(Option (Int×(Int×Unit)))) (c14:(Str×Unit)->(Option (Int×(Int×Unit)))) (c15:(Str×Unit)->(Option (Int×(Int×Unit)))) (c16:(Str×Unit)->(Option (Int×(Int×Unit)))) (nf:Nat->Bool) (x0:Str):(Option (Bool×Unit)):=Option.bind (c8 ()) fun y0=>cond (ilt 500 (lenI x0)) (some (y0.1,())) (Option.bind (c13 (x0,())) fun y1=>Option.bind (c14 (x0,())) fun y2=>Option.bind (c15 (x0,())) fun y3=>Option.bind (c16 (x0,())) fun y4=>cond y0.1 (cond (ieq y1.1 y2.1) (cond (ieq y1.2.1 y2.2.1) (cond (ieq y3.1 y4.1) (some ((ieq y3.2.1 y4.2.1),())) (some (false,()))) (some (false,()))) (some (false,()))) (some (false,())))
theorem eq4:@run4 = @sh4:=by kernel_rfl
theorem con42 (fu:Nat) :ConOk CC Tryd.prog 42 ⟨as42,rs42,fun x=>sh42 fu (fun _=>false) x.1⟩:=
 zk (c:=⟨as42,rs42,fun x=>sh42 fu (fun _=>false) x.1⟩) (syn:=syn) (fu:=fu) (d:=2) (inl:=zA []) (orc:=zA []) (orr:=zA []) (orp:=zA []) (pf:=hasN []) (rf:=hasN []) zf CCok mixed (fun g=>(zF (α:=Con UU) (l:=[]) g).symm) (fun g=>(zF (α:=CR UU) (l:=[]) g).symm) (zC) (zC) (zC) (zC) fdok42 (by show 1<=32; decide) (zZ rfl) (fun nf x=>by show run42 fu nf x.1=_; rw [eq42]; rfl)
theorem con43 (fu:Nat) :ConOk CC Tryd.prog 43 ⟨as43,rs43,fun x=>sh43 fu (fun _=>false) x.1⟩:=
 zk (c:=⟨as43,rs43,fun x=>sh43 fu (fun _=>false) x.1⟩) (syn:=syn) (fu:=fu) (d:=2) (inl:=zA []) (orc:=zA []) (orr:=zA []) (orp:=zA []) (pf:=hasN []) (rf:=hasN []) zf CCok mixed (fun g=>(zF (α:=Con UU) (l:=[]) g).symm) (fun g=>(zF (α:=CR UU) (l:=[]) g).symm) (zC) (zC) (zC) (zC) fdok43 (by show 1<=28; decide) (zZ rfl) (fun nf x=>by show run43 fu nf x.1=_; rw [eq43]; rfl)
theorem con14 (fu:Nat) (c42:zI as42->Option (zI rs42)) (h42:ConOk CC Tryd.prog 42 ⟨as42,rs42,c42⟩) (c43:zI as43->Option (zI rs43)) (h43:ConOk CC Tryd.prog 43 ⟨as43,rs43,c43⟩):ConOk CC Tryd.prog 14 ⟨as14,rs14,fun x=>sh14 fu c42 c43 (fun _=>false) x.1⟩:=
 zk (c:=⟨as14,rs14,fun x=>sh14 fu c42 c43 (fun _=>false) x.1⟩) (syn:=syn) (fu:=fu) (d:=2) (inl:=zA []) (orc:=zA [(42,(⟨as42,rs42,c42⟩:Con UU)),(43,(⟨as43,rs43,c43⟩:Con UU))]) (orr:=zA []) (orp:=zA []) (pf:=hasN [42,43]) (rf:=hasN []) zf CCok mixed (fun g=>(zF (α:=Con UU) (l:=[(42,(⟨as42,rs42,c42⟩:Con UU)),(43,(⟨as43,rs43,c43⟩:Con UU))]) g).symm) (fun g=>(zF (α:=CR UU) (l:=[]) g).symm) (zC) (zD (OrcOk.of ⟨code42,h42⟩ rfl) (zD (OrcOk.of ⟨code43,h43⟩ rfl) (zC))) (zC) (zC) fdok14 (by show 1<=73; decide) (zZ rfl) (fun nf x=>by show run14 fu c42 c43 nf x.1=_; rw [eq14]; rfl)
theorem con16 (fu:Nat) :ConOk CC Tryd.prog 16 ⟨as16,rs16,fun x=>sh16 fu (fun _=>false) x.1⟩:=
 zk (c:=⟨as16,rs16,fun x=>sh16 fu (fun _=>false) x.1⟩) (syn:=syn) (fu:=fu) (d:=2) (inl:=zA []) (orc:=zA []) (orr:=zA []) (orp:=zA []) (pf:=hasN []) (rf:=hasN []) zf CCok mixed (fun g=>(zF (α:=Con UU) (l:=[]) g).symm) (fun g=>(zF (α:=CR UU) (l:=[]) g).symm) (zC) (zC) (zC) (zC) fdok16 (by show 1<=68; decide) (zZ rfl) (fun nf x=>by show run16 fu nf x.1=_; rw [eq16]; rfl)
theorem con8 (fu:Nat) (c18:zI as18->Option (zI rs18)) (h18:ConOk CC Tryd.prog 18 ⟨as18,rs18,c18⟩):ConOk CC Tryd.prog 8 ⟨as8,rs8,fun x=>sh8 fu c18 (fun _=>false)⟩:=
 zk (c:=⟨as8,rs8,fun x=>sh8 fu c18 (fun _=>false)⟩) (syn:=syn) (fu:=fu) (d:=2) (inl:=zA []) (orc:=zA [(18,(⟨as18,rs18,c18⟩:Con UU))]) (orr:=zA []) (orp:=zA []) (pf:=hasN [18]) (rf:=hasN []) zf CCok mixed (fun g=>(zF (α:=Con UU) (l:=[(18,(⟨as18,rs18,c18⟩:Con UU))]) g).symm) (fun g=>(zF (α:=CR UU) (l:=[]) g).symm) (zC) (zD (OrcOk.of ⟨code18,h18⟩ rfl) (zC)) (zC) (zC) fdok8 (by show 0<=61; decide) (zZ rfl) (fun nf x=>by show run8 fu c18 nf=_; rw [eq8]; rfl)
theorem con4 (fu:Nat) (c8:zI as8->Option (zI rs8)) (h8:ConOk CC Tryd.prog 8 ⟨as8,rs8,c8⟩) (c13:zI as13->Option (zI rs13)) (h13:ConOk CC Tryd.prog 13 ⟨as13,rs13,c13⟩) (c14:zI as14->Option (zI rs14)) (h14:ConOk CC Tryd.prog 14 ⟨as14,rs14,c14⟩) (c15:zI as15->Option (zI rs15)) (h15:ConOk CC Tryd.prog 15 ⟨as15,rs15,c15⟩) (c16:zI as16->Option (zI rs16)) (h16:ConOk CC Tryd.prog 16 ⟨as16,rs16,c16⟩):ConOk CC Tryd.prog 4 ⟨as4,rs4,fun x=>sh4 fu c8 c13 c14 c15 c16 (fun _=>false) x.1⟩:=
 zk (c:=⟨as4,rs4,fun x=>sh4 fu c8 c13 c14 c15 c16 (fun _=>false) x.1⟩) (syn:=syn) (fu:=fu) (d:=2) (inl:=zA []) (orc:=zA [(8,(⟨as8,rs8,c8⟩:Con UU)),(13,(⟨as13,rs13,c13⟩:Con UU)),(14,(⟨as14,rs14,c14⟩:Con UU)),(15,(⟨as15,rs15,c15⟩:Con UU)),(16,(⟨as16,rs16,c16⟩:Con UU))]) (orr:=zA []) (orp:=zA []) (pf:=hasN [8,13,14,15,16]) (rf:=hasN []) zf CCok mixed (fun g=>(zF (α:=Con UU) (l:=[(8,(⟨as8,rs8,c8⟩:Con UU)),(13,(⟨as13,rs13,c13⟩:Con UU)),(14,(⟨as14,rs14,c14⟩:Con UU)),(15,(⟨as15,rs15,c15⟩:Con UU)),(16,(⟨as16,rs16,c16⟩:Con UU))]) g).symm) (fun g=>(zF (α:=CR UU) (l:=[]) g).symm) (zC) (zD (OrcOk.of ⟨code8,h8⟩ rfl) (zD (OrcOk.of ⟨zKy,h13⟩ rfl) (zD (OrcOk.of ⟨code14,h14⟩ rfl) (zD (OrcOk.of ⟨zJ0,h15⟩ rfl) (zD (OrcOk.of ⟨code16,h16⟩ rfl) (zC)))))) (zC) (zC) fdok4 (by show 1<=58; decide) (zZ rfl) (fun nf x=>by show run4 fu c8 c13 c14 c15 c16 nf x.1=_; rw [eq4]; rfl)
end
section
open Go.Al Go.Den
noncomputable def c57:zB ([.str]:LK)->DD (zB ([.bool]:LK)):=mD (sh57 0)
theorem ok57:CPOk CC Tryd.prog syn 57 (cD ([.str]:LK) ([.bool]:LK) c57):=con57 0
noncomputable def c59 (fu:Nat):zB ([]:LK)->DD (zB ([.int .i64]:LK)):=mD (sh59 fu c56)
theorem ok59 (fu:Nat):CPOk CC Tryd.prog syn 59 (cD ([]:LK) ([.int .i64]:LK) (c59 fu)):=con59 fu c56 ok56
noncomputable def c60 (fu:Nat):zB ([]:LK)->DD (zB ([.int .i64]:LK)):=mD (sh60 fu c44 c56)
theorem ok60 (fu:Nat):CPOk CC Tryd.prog syn 60 (cD ([]:LK) ([.int .i64]:LK) (c60 fu)):=con60 fu c44 ok44 c56 ok56
noncomputable def c61 (fu:Nat):zB ([.int .u8]:LK)->DD (zB ([.int .i64]:LK)):=mD (sh61 fu c56)
theorem ok61 (fu:Nat):CPOk CC Tryd.prog syn 61 (cD ([.int .u8]:LK) ([.int .i64]:LK) (c61 fu)):=con61 fu c56 ok56
noncomputable def c62 (fu:Nat):zB ([]:LK)->DD (zB ([.int .i64]:LK)):=mD (sh62 fu c57)
theorem ok62 (fu:Nat):CPOk CC Tryd.prog syn 62 (cD ([]:LK) ([.int .i64]:LK) (c62 fu)):=con62 fu c57 ok57
noncomputable def c30 (fu:Nat):zB ([]:LK)->DD (zB ([.int .i64,.int .i64]:LK)):=mD (sh30 fu c57 (c59 fu) (c60 fu) (c61 fu) (c62 fu))
theorem ok30 (fu:Nat):CPOk CC Tryd.prog syn 30 (cD ([]:LK) ([.int .i64,.int .i64]:LK) (c30 fu)):=con30 fu c57 ok57 (c59 fu) (ok59 fu) (c60 fu) (ok60 fu) (c61 fu) (ok61 fu) (c62 fu) (ok62 fu)
noncomputable def c29 (fu:Nat):zB ([]:LK)->DD (zB ([.bool]:LK)):=mD (sh29 fu c44 c58 c56 c57)
theorem ok29 (fu:Nat):CPOk CC Tryd.prog syn 29 (cD ([]:LK) ([.bool]:LK) (c29 fu)):=con29 fu c44 ok44 c58 ok58 c56 ok56 c57 ok57
noncomputable def c10 (fu:Nat) (x:Int×Str×Unit):Option (List TokT×Unit):=sh10 fu c27 c28 (c29 fu) (c30 fu) (fun _=>false) x.1 x.2.1
theorem ok10 (fu:Nat):ConOk CC Tryd.prog 10 ⟨as10,rs10,c10 fu⟩:=con10 fu c27 ok27 c28 ok28 (c29 fu) (ok29 fu) (c30 fu) (ok30 fu)
noncomputable def c52:zB ([]:LK)->EE (zB ([.str]:LK)):=mE (sh52 0)
theorem ok52:CPOk CC Tryd.prog syn 52 (cE ([]:LK) ([.str]:LK) c52):=con52 0
noncomputable def c53:zB ([.str]:LK)->EE (zB ([]:LK)):=mE (sh53 0 c52)
theorem ok53:CPOk CC Tryd.prog syn 53 (cE ([.str]:LK) ([]:LK) c53):=con53 0 c52 ok52
structure RF where
 c26:zB ([.int .i64]:LK)->EE (zB ([.st TI.val]:LK))
 c51:zB ([.int .i64,.int .i64]:LK)->EE (zB ([.st TI.val]:LK))
 c54:zB ([.int .i64]:LK)->EE (zB ([.st TI.val]:LK))
 c73:zB ([.int .i64]:LK)->EE (zB ([.st TI.val]:LK))
 c82:zB ([.int .i64]:LK)->EE (zB ([.st TI.val]:LK))
structure RFok (r:RF):Prop where
 h26:CPOk CC Tryd.prog syn 26 (cE ([.int .i64]:LK) ([.st TI.val]:LK) r.c26)
 h51:CPOk CC Tryd.prog syn 51 (cE ([.int .i64,.int .i64]:LK) ([.st TI.val]:LK) r.c51)
 h54:CPOk CC Tryd.prog syn 54 (cE ([.int .i64]:LK) ([.st TI.val]:LK) r.c54)
 h73:CPOk CC Tryd.prog syn 73 (cE ([.int .i64]:LK) ([.st TI.val]:LK) r.c73)
 h82:CPOk CC Tryd.prog syn 82 (cE ([.int .i64]:LK) ([.st TI.val]:LK) r.c82)
noncomputable def rf (fu:Nat):Nat->RF
 | 0=>⟨fun _ _=>none,fun _ _=>none,fun _ _=>none,fun _ _=>none,fun _ _=>none⟩
 | n+1=>⟨mE (sh26 fu (rf fu n).c51 c52 c53 (rf fu n).c54),mE (sh51 fu c74 (rf fu n).c51 c52 c53 (rf fu n).c73),mE (sh54 fu (rf fu n).c26),mE (sh73 fu c52 c53 (rf fu n).c73 (rf fu n).c82),mE (sh82 fu (c13 fu) c15 c52 c53 (rf fu n).c54)⟩
theorem zAd {P:Program} {f:Nat} {aa rs:LK}:CPOk CC P syn f (cE aa rs fun _ _=>none):=fun x a R pan K r hr=>by
 replace hr:(none:Option R)=some r:=hr
 cases hr
theorem rfok (fu:Nat):∀ n,RFok (rf fu n)
 | 0=>⟨zAd,zAd,zAd,zAd,zAd⟩
 | n+1=>⟨con26 fu _ (rfok fu n).h51 c52 ok52 c53 ok53 _ (rfok fu n).h54,con51 fu c74 ok74 _ (rfok fu n).h51 c52 ok52 c53 ok53 _ (rfok fu n).h73,con54 fu _ (rfok fu n).h26,con73 fu c52 ok52 c53 ok53 _ (rfok fu n).h73 _ (rfok fu n).h82,con82 fu (c13 fu) (ok13 fu) c15 ok15 c52 ok52 c53 ok53 _ (rfok fu n).h54⟩
noncomputable def c23 (fu:Nat):zB ([.arr TI.tok,.fn 25]:LK)->Option (zB ([.bl TI.tok]:LK)):=mF (sh23 fu)
theorem ok23 (fu:Nat):CPOk CC Tryd.prog syn 23 (cF ([.arr TI.tok,.fn 25]:LK) ([.bl TI.tok]:LK) (c23 fu)):=con23 fu
noncomputable def c9 (fu n k:Nat) (x:List TokT×Unit):Option (Int×Int×Unit):=sh9 fu (cm k) (c23 fu) (rf fu n).c26 (fun _=>false) x.1
theorem ok9 (fu n k:Nat):ConOk CC Tryd.prog 9 ⟨as9,rs9,c9 fu n k⟩:=con9 fu (cm k) (cmok k) (c23 fu) (ok23 fu) _ (rfok fu n).h26
noncomputable def c18 (fu n k:Nat) (x:Str×Unit):Option (Int×Unit):=sh18 fu (c9 fu n k) (c10 fu) (fun _=>false) x.1
theorem ok18 (fu n k:Nat):ConOk CC Tryd.prog 18 ⟨as18,rs18,c18 fu n k⟩:=con18 fu (c9 fu n k) (ok9 fu n k) (c10 fu) (ok10 fu)
noncomputable def c8 (fu n k:Nat) (_:Unit):Option (Bool×Unit):=sh8 fu (c18 fu n k) (fun _=>false)
theorem ok8 (fu n k:Nat):ConOk CC Tryd.prog 8 ⟨as8,rs8,c8 fu n k⟩:=con8 fu (c18 fu n k) (ok18 fu n k)
end
end Go.Proofs.YtonnigoiklahdaaDoor
namespace Go.Den
section
open Go.Al
theorem wrp64 (n:Int) (h1:-9223372036854775808<=n) (h2:n<=9223372036854775807):IntKind.i64.wrap n=n:=IntWalk.i64_in n (by omega)
theorem zFE (a b:Int) (h1:-9223372036854775808<=a+b) (h2:a+b<=9223372036854775807):iadd .i64 a b=a+b:=wrp64 _ h1 h2
theorem zIh (a b:Int) (h1:-9223372036854775808<=a - b) (h2:a - b<=9223372036854775807):isub .i64 a b=a - b:=wrp64 _ h1 h2
theorem zFN (a b:Int):ieq a b=decide (a=b):=by unfold ieq; by_cases h:a=b <;> simp [h]
theorem zIj (a b:Int):ine a b = !decide (a=b):=by unfold ine; by_cases h:a=b <;> simp [h]
theorem zIe (a b:List UInt8):seq a b=decide (a=b):=by unfold seq; by_cases h:a=b <;> simp [h]
end
end Go.Den
namespace Go.Proofs.YtonnigoiklahdaaDoor
section
open Go.Al Go.Den
section
variable {ρ α:Type} {r t f:Option ρ} {a b:Int}
theorem zGN (h1:a<=b->t=r) (h2:b < a->f=r):cond (ile a b) t f=r:=by
 unfold ile; by_cases h:a<=b
 · rw [decide_eq_true h]; exact h1 h
 · rw [decide_eq_false h]; exact h2 (by omega)
theorem zF4 (h1:a < b->t=r) (h2:b<=a->f=r):cond (ilt a b) t f=r:=by
 unfold ilt; by_cases h:a < b
 · rw [decide_eq_true h]; exact h1 h
 · rw [decide_eq_false h]; exact h2 (by omega)
theorem zAz (h1:a=b->t=r) (h2:a≠b->f=r):cond (ieq a b) t f=r:=by
 rw [zFN]; by_cases h:a=b
 · rw [decide_eq_true h]; exact h1 h
 · rw [decide_eq_false h]; exact h2 h
theorem zJJ (h1:a≠b->t=r) (h2:a=b->f=r):cond (ine a b) t f=r:=by
 rw [zIj]; by_cases h:a=b
 · rw [decide_eq_true h]; exact h2 h
 · rw [decide_eq_false h]; exact h1 h
theorem zET {c:Bool} (h1:c=true->t=r) (h2:c=false->f=r):cond c t f=r:=by
 cases c
 · exact h2 rfl
 · exact h1 rfl
theorem Q_not {c:Bool} (h1:c=false->t=r) (h2:c=true->f=r):cond (!c) t f=r:=by
 cases c
 · exact h1 rfl
 · exact h2 rfl
theorem zi {c:Bool} (h:c=true) (h1:t=r):cond c t f=r:=by rw [h]; exact h1
theorem zFO {c:Bool} (h:c=false) (h1:f=r):cond c t f=r:=by rw [h]; exact h1
theorem xr {x:Option α} {v:α} {F:α->Option ρ} (h:x=some v) (h2:F v=r):Option.bind x F=r:=by subst h; exact h2
end
theorem ke {a b:Int} {n:Nat} (h1:0<=a) (h2:a<=b) (h3:b<=n):inS a b n=true:=by unfold inS; simp [h1,h2,h3]
theorem zAc {a:Int} {n:Nat} (h1:0<=a) (h2:a < n):inB a n=true:=by unfold inB; simp [h1,h2]
theorem zES {a b:Int} (h:a<=b):ile a b=true:=decide_eq_true h
theorem ile_f {a b:Int} (h:b < a):ile a b=false:=decide_eq_false (by omega)
theorem ilt_t {a b:Int} (h:a < b):ilt a b=true:=decide_eq_true h
theorem ilt_f {a b:Int} (h:b<=a):ilt a b=false:=decide_eq_false (by omega)
theorem zF7 {a b:Int} (h:a=b):ieq a b=true:=by rw [zFN]; exact decide_eq_true h
theorem ieq_f {a b:Int} (h:a≠b):ieq a b=false:=by rw [zFN]; exact decide_eq_false h
theorem ine_t {a b:Int} (h:a≠b):ine a b=true:=by rw [zIj,decide_eq_false h]; rfl
def zEk:List Str->Str->Option (Bool×Unit)
 | [],_=>some (false,())
 | l::r,x=>cond (seq x l) (some (true,())) (zEk r x)
theorem zDl:∀ (l:List Str) (x:Str),zEk l x=some (l.contains x,())
 | [],x=>rfl
 | a::r,x=>by
  unfold zEk
  rw [zDl r x]
  unfold seq
  simp only [List.contains_cons]
  cases (x == a) <;> rfl
def suf41:List Str:=[[],[],[117],[117],[85],[85],[108],[108],[108,117],[117,108],[108,85],[85,108],[76],[76],[76,117],[117,76],[76,85],[85,76],[108,108],[108,108],[108,108,117],[117,108,108],[108,108,85],[85,108,108],[76,76],[76,76],[76,76,117],[117,76,76],[76,76,85],[85,76,76]]
def suf43:List Str:=[[],[117],[85],[108],[76],[108,108],[76,76],[117,108],[117,76],[117,108,108],[117,76,76],[85,108],[85,76],[85,108,108],[85,76,76],[108,117],[108,85],[76,117],[76,85],[108,108,117],[108,108,85],[76,76,117],[76,76,85]]
def zEi (x:Str):Bool:=suf43.contains x
theorem zJS (x:Str):sh41 20 (fun _=>false) x=zEk suf41 x:=by kernel_rfl
theorem sub_41:(suf41.all fun l=>suf43.contains l)=true:=by kernel_rfl
theorem sub_43:(suf43.all fun l=>suf41.contains l)=true:=by kernel_rfl
theorem c41_eq (x:Str):c41 (x,())=some (zEi x,()):=by
 refine (zJS x).trans ((zDl _ x).trans ?_)
 have:suf41.contains x=zEi x:=by
  rw [Bool.eq_iff_iff]
  unfold zEi
  simp only [List.contains_iff_mem]
  exact ⟨fun h=>by simpa using List.all_eq_true.1 sub_41 x h,fun h=>by simpa using List.all_eq_true.1 sub_43 x h⟩
 rw [this]
noncomputable def c43 (x:Str×Unit):Option (Bool×Unit):=sh43 0 (fun _=>false) x.1
theorem ok43:ConOk CC Tryd.prog 43 ⟨as43,rs43,c43⟩:=con43 0
theorem c43_eq (x:Str):c43 (x,())=some (zEi x,()):=(show c43 (x,())=zEk suf43 x from by kernel_rfl).trans (zDl _ x)
def digN (n:Nat):Nat:=if 48<=n/\n<=57 then n - 48 else if 97<=n/\n<=102 then n - 87 else if 65<=n/\n<=70 then n - 55 else 16
def d39 (n:Int):Option (Int×Unit):=sh39 0 (fun _=>false) n
theorem zMm:((List.range 256).all fun n=>decide (d39 (n:Int)=some ((digN n:Int),())))=true:=by kernel_rfl
noncomputable def c42 (x:Int×Unit):Option (Int×Unit):=sh42 0 (fun _=>false) x.1
theorem ok42:ConOk CC Tryd.prog 42 ⟨as42,rs42,c42⟩:=con42 0
def digR (n:Nat):Nat:=if digN n=16 then 99 else digN n
def d42 (n:Int):Option (Int×Unit):=sh42 0 (fun _=>false) n
theorem zMs:((List.range 256).all fun n=>decide (d42 (n:Int)=some ((digR n:Int),())))=true:=by kernel_rfl
theorem c39_eq (c:UInt8):c39 ((c.toNat:Int),())=some ((digN c.toNat:Int),()):=by
 have h:decide (d39 (c.toNat:Int)=some ((digN c.toNat:Int),()))=true:=List.all_eq_true.1 zMm c.toNat (List.mem_range.2 c.toNat_lt)
 have h2:=of_decide_eq_true h
 exact h2
theorem c42_eq (c:UInt8):c42 ((c.toNat:Int),())=some ((digR c.toNat:Int),()):=by
 have h:decide (d42 (c.toNat:Int)=some ((digR c.toNat:Int),()))=true:=List.all_eq_true.1 zMs c.toNat (List.mem_range.2 c.toNat_lt)
 have h2:=of_decide_eq_true h
 exact h2
def numG (b:Nat):Nat->Str->Option (Nat×Str)
 | n,[]=>some (n,[])
 | n,c::r=>if b<=digN c.toNat then some (n,c::r) else if 9223372036854775808<=n * b+digN c.toNat then none else numG b (n * b+digN c.toNat) r
def numR (b:Nat) (t:Str):Int×Int×Unit:=
 match numG b 0 t with
 | none=>(0,91,())
 | some (n,r)=>if r.length=t.length then (0,91,()) else if zEi r then ((n:Int),0,()) else (0,91,())
end
section
open Go.Al Go.Den
theorem zEh (s:Str) (k:Nat) (h:k < s.length):zH s (k:Int)=((s[k].toNat:Nat):Int):=by
 unfold zH
 rw [Int.toNat_natCast,List.getD_eq_getElem?_getD,List.getElem?_eq_getElem h]; rfl
theorem zDf (s:Str) (k:Nat):cutL s (k:Int) (lenI s)=s.drop k:=by
 unfold cutL lenI
 rw [Int.toNat_natCast,Int.toNat_natCast,List.take_length]
theorem zIn (n:Nat):digN n<=16:=by unfold digN; (repeat' split) <;> omega
noncomputable def goP (fu:Nat) (b:Int) (t:Str):Option (Int×Int×Unit):=
 iter fu (fun (rec1:((Int×(Int×PUnit))×PUnit)->Option (Int×(Int×PUnit))) (s1:((Int×(Int×PUnit))×PUnit))=>
  cond (ilt s1.1.2.1 (lenI t))
   (cond (inB s1.1.2.1 (List.length t))
    (Option.bind (c39 ((zH t s1.1.2.1),())) fun y0=>
     cond (ile b y0.1)
      (cond (ieq s1.1.2.1 0)
       (some (0,(91,())))
       (cond (inS s1.1.2.1 (lenI t) (List.length t))
        (Option.bind (c41 ((cutL t s1.1.2.1 (lenI t)),())) fun y1=>
         cond (!y1.1)
          (some (0,(91,())))
          (some ((zL .i64 s1.1.1),(0,()))))
        (none)))
      (Option.bind (c40 (s1.1.1,(b,()))) fun y1=>
       cond (ine y1.1 0)
        (some (0,(91,())))
        (cond (ile 9223372036854775808 y1.2.1)
         (some (0,(91,())))
         (cond (ile 9223372036854775808 (iadd .u64 y1.2.1 y0.1))
          (some (0,(91,())))
          (rec1 (((iadd .u64 y1.2.1 y0.1),((iadd .i64 s1.1.2.1 1),())),()))))))
    (none))
   (cond (ieq s1.1.2.1 0)
    (some (0,(91,())))
    (cond (inS s1.1.2.1 (lenI t) (List.length t))
     (Option.bind (c41 ((cutL t s1.1.2.1 (lenI t)),())) fun y0=>
      cond (!y0.1)
       (some (0,(91,())))
       (some ((zL .i64 s1.1.1),(0,()))))
     (none))))
  ((0,(0,())),())
theorem zL1 {n:Int} (h0:0<=n) (h1:n < 18446744073709551616):IntKind.u64.wrap n=n:=by
 unfold IntKind.wrap
 simp only [IntKind.signed,IntKind.bits]
 simp
 omega
theorem zG5 (fu:Nat) (b:Nat) (hb:b=8\/b=10\/b=16) (t:Str) (ht:t.length < 1000000) (hfu:t.length < fu):goP fu (b:Int) t=some (numR b t):=by
 unfold goP
 refine zHH (fun s=>∃ n k:Nat,s=((((n:Int),((k:Int),())),()):(Int×Int×PUnit)×PUnit)/\k<=t.length/\n < 9223372036854775808/\numG b n (t.drop k)=numG b 0 t) (fun s=>t.length - s.1.2.1.toNat) ?_ fu _ ⟨0,0,rfl,Nat.zero_le _,by omega,rfl⟩ (by simp; omega)
 rintro rec s ⟨n,k,rfl,hk,hn,hg⟩ hrec
 dsimp only
 have fin:∀ hr:numG b n (t.drop k)=some (n,t.drop k),cond (ieq (k:Int) 0) (some ((0:Int),((91:Int),()))) (cond (inS (k:Int) (lenI t) (List.length t)) (Option.bind (c41 ((cutL t (k:Int) (lenI t)),())) fun y0=>cond (!y0.1) (some (0,(91,()))) (some ((zL .i64 (n:Int)),(0,())))) none)=some (numR b t):=fun hr=>by
  unfold numR
  rw [<- hg,hr]
  refine zAz (fun h0=>?_) fun h0=>?_
  · obtain rfl:k=0:=by omega
    simp
  · refine zi (ke (by omega) (by show (k:Int)<=(t.length:Int); omega) (Int.le_refl _)) ?_
    rw [zDf]
    refine xr (c41_eq _) ?_
    have h1:¬ (t.drop k).length=t.length:=by rw [List.length_drop]; omega
    dsimp only
    rw [if_neg h1]
    refine Q_not (fun h2=>?_) fun h2=>?_
    · rw [h2]; rfl
    · rw [h2,if_pos rfl]
      have:zL .i64 (n:Int)=n:=IntWalk.i64_in _ (by omega)
      rw [this]
 refine zF4 (fun h=>?_) fun h=>?_
 · have hlt:k < t.length:=by have:(k:Int) < (t.length:Int):=h; omega
   refine zi (zAc (by omega) h) ?_
   rw [zEh t k hlt]
   refine xr (c39_eq _) ?_
   dsimp only
   have hd:=zIn t[k].toNat
   have hstep:numG b n (t.drop k)=if b<=digN t[k].toNat then some (n,t.drop k) else if 9223372036854775808<=n * b+digN t[k].toNat then none else numG b (n * b+digN t[k].toNat) (t.drop (k+1)):=by
    conv=>lhs; rw [List.drop_eq_getElem_cons hlt]
    rw [numG,<- List.drop_eq_getElem_cons hlt]
   generalize hdg:digN t[k].toNat=d at hd hstep ⊢
   refine zGN (fun hbd=>?_) fun hbd=>?_
   · rw [if_pos (by omega)] at hstep
     exact fin hstep
   · rw [if_neg (by omega)] at hstep
     have h40:c40 ((n:Int),(b:Int),())=some (((n * b / 18446744073709551616:Nat):Int),((n * b % 18446744073709551616:Nat):Int),()):=by
      have:c40 ((n:Int),(b:Int),())=some ((((n:Int).toNat * (b:Int).toNat / 18446744073709551616:Nat):Int),(((n:Int).toNat * (b:Int).toNat % 18446744073709551616:Nat):Int),()):=if_pos ⟨by show (0:Int)<=n; omega,by show (n:Int) < _; omega,by show (0:Int)<=b; omega,by show (b:Int) < _; omega⟩
      rw [this,Int.toNat_natCast,Int.toNat_natCast]
     refine xr h40 ?_
     dsimp only
     have bad:9223372036854775808<=n * b+d->some ((0:Int),(91:Int),())=some (numR b t):=fun hbad=>by
      rw [if_pos hbad] at hstep
      unfold numR
      rw [<- hg,hstep]
     generalize n * b=m at hstep bad ⊢
     refine zJJ (fun h1=>bad (by omega)) fun h1=>?_
     refine zGN (fun h2=>bad (by omega)) fun h2=>?_
     have e6:((m % 18446744073709551616:Nat):Int)=(m:Int):=by omega
     rw [e6] at h2 ⊢
     have e3:iadd .u64 (m:Int) (d:Int)=(m:Int)+(d:Int):=zL1 (by omega) (by omega)
     rw [e3]
     refine zGN (fun h4=>bad (by omega)) fun h4=>?_
     rw [if_neg (by omega)] at hstep
     have e5:iadd .i64 (k:Int) 1=((k+1:Nat):Int):=by rw [zFE _ _ (by omega) (by omega)]; omega
     rw [e5]
     exact hrec _ ⟨m+d,k+1,by push_cast; rfl,hlt,by omega,hstep.symm.trans hg⟩ (by dsimp only; omega)
 · obtain rfl:k=t.length:=by have:(t.length:Int)<=(k:Int):=h; omega
   refine fin ?_
   rw [List.drop_length]
   rfl
noncomputable def goR (fu:Nat) (b:Int) (i:Int) (x:Str):Option (Int×Int×Unit):=
 iter fu (fun (rec1:((Int×(Int×PUnit))×PUnit)->Option (Int×(Int×PUnit))) (s1:((Int×(Int×PUnit))×PUnit))=>
  cond (ilt s1.1.1 (lenI x))
   (cond (inB s1.1.1 (List.length x))
    (Option.bind (c42 ((zH x s1.1.1),())) fun y0=>
     cond (ile b y0.1)
      (cond (ieq s1.1.1 i)
       (some (0,(91,())))
       (cond (inS s1.1.1 (lenI x) (List.length x))
        (Option.bind (c43 ((cutL x s1.1.1 (lenI x)),())) fun y1=>
         cond (!y1.1)
          (some (0,(91,())))
          (some (s1.1.2.1,(0,()))))
        (none)))
      (cond (ine b 0)
       (cond (ilt (iquo .i64 (isub .i64 9223372036854775807 y0.1) b) s1.1.2.1)
        (some (0,(91,())))
        (rec1 (((iadd .i64 s1.1.1 1),((iadd .i64 (imul .i64 s1.1.2.1 b) y0.1),())),())))
       (none)))
    (none))
   (cond (ieq s1.1.1 i)
    (some (0,(91,())))
    (cond (inS s1.1.1 (lenI x) (List.length x))
     (Option.bind (c43 ((cutL x s1.1.1 (lenI x)),())) fun y0=>
      cond (!y0.1)
       (some (0,(91,())))
       (some (s1.1.2.1,(0,()))))
     (none))))
  ((i,(0,())),())
theorem zJc (n:Nat):(digN n=16/\digR n=99)\/(digN n < 16/\digR n=digN n):=by
 unfold digR
 have:=zIn n
 by_cases h:digN n=16
 · exact .inl ⟨h,if_pos h⟩
 · exact .inr ⟨by omega,if_neg h⟩
theorem zGR (fu:Nat) (b:Nat) (hb:b=8\/b=10\/b=16) (i:Nat) (x:Str) (hi:i<=x.length) (ht:x.length < 1000000) (hfu:x.length < fu):goR fu (b:Int) (i:Int) x=some (numR b (x.drop i)):=by
 unfold goR
 refine zHH (fun s=>∃ n k:Nat,s=((((k:Int),((n:Int),())),()):(Int×Int×PUnit)×PUnit)/\i<=k/\k<=x.length/\n < 9223372036854775808/\numG b n (x.drop k)=numG b 0 (x.drop i)) (fun s=>x.length - s.1.1.toNat) ?_ fu _ ⟨0,i,rfl,Nat.le_refl _,hi,by omega,rfl⟩ (by simp; omega)
 rintro rec s ⟨n,k,rfl,hik,hk,hn,hg⟩ hrec
 dsimp only
 have fin:∀ hr:numG b n (x.drop k)=some (n,x.drop k),cond (ieq (k:Int) (i:Int)) (some ((0:Int),((91:Int),()))) (cond (inS (k:Int) (lenI x) (List.length x)) (Option.bind (c43 ((cutL x (k:Int) (lenI x)),())) fun y0=>cond (!y0.1) (some (0,(91,()))) (some ((n:Int),(0,())))) none)=some (numR b (x.drop i)):=fun hr=>by
  unfold numR
  rw [<- hg,hr]
  refine zAz (fun h0=>?_) fun h0=>?_
  · obtain rfl:k=i:=by omega
    simp
  · refine zi (ke (by omega) (by show (k:Int)<=(x.length:Int); omega) (Int.le_refl _)) ?_
    rw [zDf]
    refine xr (c43_eq _) ?_
    have h1:¬ (x.drop k).length=(x.drop i).length:=by rw [List.length_drop,List.length_drop]; omega
    dsimp only
    rw [if_neg h1]
    refine Q_not (fun h2=>?_) fun h2=>?_
    · rw [h2]; rfl
    · rw [h2,if_pos rfl]
 refine zF4 (fun h=>?_) fun h=>?_
 · have hlt:k < x.length:=by have:(k:Int) < (x.length:Int):=h; omega
   refine zi (zAc (by omega) h) ?_
   rw [zEh x k hlt]
   refine xr (c42_eq _) ?_
   dsimp only
   have hd:=zJc x[k].toNat
   have hstep:numG b n (x.drop k)=if b<=digN x[k].toNat then some (n,x.drop k) else if 9223372036854775808<=n * b+digN x[k].toNat then none else numG b (n * b+digN x[k].toNat) (x.drop (k+1)):=by
    conv=>lhs; rw [List.drop_eq_getElem_cons hlt]
    rw [numG,<- List.drop_eq_getElem_cons hlt]
   generalize digR x[k].toNat=d' at hd ⊢
   generalize digN x[k].toNat=d at hd hstep
   refine zGN (fun hbd=>?_) fun hbd=>?_
   · rw [if_pos (by omega)] at hstep
     exact fin hstep
   · rw [if_neg (by omega)] at hstep
     obtain ⟨hd1,rfl⟩:d < 16/\d' = d:=by omega
     refine zi (ine_t (by omega)) ?_
     have bad:9223372036854775808<=n * b+d'->some ((0:Int),(91:Int),())=some (numR b (x.drop i)):=fun hbad=>by
      rw [if_pos hbad] at hstep
      unfold numR
      rw [<- hg,hstep]
     have e1:isub .i64 9223372036854775807 (d':Int)=9223372036854775807 - (d':Int):=zIh _ _ (by omega) (by omega)
     have e2:∀ c:Int,0 < c->iquo .i64 (9223372036854775807 - (d':Int)) c=(9223372036854775807 - (d':Int)) / c:=fun c hc=>by
      unfold iquo
      rw [Int.tdiv_eq_ediv_of_nonneg (by omega)]
      exact IntWalk.i64_in _ (by
       have h1:0<=(9223372036854775807 - (d':Int)) / c:=Int.ediv_nonneg (by omega) (by omega)
       have h2:(9223372036854775807 - (d':Int)) / c<=9223372036854775807 - (d':Int):=Int.ediv_le_self _ (by omega)
       omega)
     rw [e1,e2 _ (by omega)]
     have e5:iadd .i64 (k:Int) 1=((k+1:Nat):Int):=by rw [zFE _ _ (by omega) (by omega)]; omega
     rw [e5]
     have key:(9223372036854775807 - (d':Int)) / (b:Int) < (n:Int)↔9223372036854775808<=n * b+d':=by
      rcases hb with rfl | rfl | rfl <;> omega
     refine zF4 (fun h1=>bad (key.1 h1)) fun h1=>?_
     have h2:¬ 9223372036854775808<=n * b+d':=fun e=>by have:=key.2 e; omega
     rw [if_neg h2] at hstep
     have e3:imul .i64 (n:Int) (b:Int)=((n * b:Nat):Int):=by
      unfold imul
      rw [<- Int.natCast_mul]
      generalize n * b=m at h2 ⊢
      exact IntWalk.i64_in _ (by omega)
     rw [e3]
     generalize n * b=m at hstep bad h2 ⊢
     have e4:iadd .i64 (m:Int) (d':Int)=((m+d':Nat):Int):=by rw [zFE _ _ (by omega) (by omega)]; omega
     rw [e4]
     exact hrec _ ⟨m+d',k+1,rfl,by omega,hlt,by omega,hstep.symm.trans hg⟩ (by dsimp only; omega)
 · obtain rfl:k=x.length:=by have:(x.length:Int)<=(k:Int):=h; omega
   refine fin ?_
   rw [List.drop_length]
   rfl
end
section
open Go.Al Go.Den
abbrev NR:=Option (Int×Int×Unit)
def zF9 (g8 g10:NR) (x:Str):NR:=
 cond (ile (lenI (α:=UInt8) [48]) (lenI x)) (cond (inS 0 (lenI (α:=UInt8) [48]) (List.length x)) (cond (seq (cutL x 0 (lenI (α:=UInt8) [48])) [48]) g8 g10) none) g10
def zJe (g16 g8 g10:NR) (x:Str):NR:=
 cond (ile (lenI (α:=UInt8) [48,88]) (lenI x)) (cond (inS 0 (lenI (α:=UInt8) [48,88]) (List.length x)) (cond (seq (cutL x 0 (lenI (α:=UInt8) [48,88])) [48,88]) (cond (inS 2 (lenI x) (List.length x)) g16 none) (zF9 g8 g10 x)) none) (zF9 g8 g10 x)
def zE4 (g16 g8 g10:NR) (x:Str):NR:=
 cond (ile (lenI (α:=UInt8) [48,120]) (lenI x)) (cond (inS 0 (lenI (α:=UInt8) [48,120]) (List.length x)) (cond (seq (cutL x 0 (lenI (α:=UInt8) [48,120])) [48,120]) (cond (inS 2 (lenI x) (List.length x)) g16 none) (zJe g16 g8 g10 x)) none) (zJe g16 g8 g10 x)
theorem zJy (fu:Nat) (x:Str):c13 fu (x,())=zE4 (goP fu 16 (cutL x 2 (lenI x))) (goP fu 8 x) (goP fu 10 x) x:=by kernel_rfl
noncomputable def c14 (fu:Nat) (x:Str×Unit):Option (Int×Int×Unit):=sh14 fu c42 c43 (fun _=>false) x.1
theorem ok14 (fu:Nat):ConOk CC Tryd.prog 14 ⟨as14,rs14,c14 fu⟩:=con14 fu c42 ok42 c43 ok43
def zEN (g8 g10:NR) (x:Str):NR:=
 cond (ile 1 (lenI x)) (cond (inB 0 (List.length x)) (cond (ieq (zH x 0) 48) g8 g10) none) g10
def zC0 (g16 g8 g10:NR) (x:Str):NR:=
 cond (ile 2 (lenI x)) (cond (inB 0 (List.length x)) (cond (ieq (zH x 0) 48) (cond (inB 1 (List.length x)) (cond (ieq (zH x 1) 120) g16 (cond (inB 1 (List.length x)) (cond (ieq (zH x 1) 88) g16 (zEN g8 g10 x)) none)) none) (zEN g8 g10 x)) none) (zEN g8 g10 x)
theorem zKT (fu:Nat) (x:Str):c14 fu (x,())=zC0 (goR fu 16 2 x) (goR fu 8 0 x) (goR fu 10 0 x) x:=by kernel_rfl
def numS:Str->Int×Int×Unit
 | []=>numR 10 []
 | [a]=>if a=48 then numR 8 [a] else numR 10 [a]
 | a::b::r=>if a=48 then (if b=120\/b=88 then numR 16 r else numR 8 (a::b::r)) else numR 10 (a::b::r)
theorem zGM {a b:Str} (h:seq a b=true):a=b:=by rw [zIe] at h; exact of_decide_eq_true h
theorem zF8 {a b:Str} (h:seq a b=false):a≠b:=by rw [zIe] at h; exact of_decide_eq_false h
theorem zAj {a b:UInt8} (h:((a.toNat:Nat):Int)=((b.toNat:Nat):Int)):a=b:=UInt8.toNat_inj.1 (by omega)
theorem zJX (x:Str):zE4 (some (numR 16 (x.drop 2))) (some (numR 8 x)) (some (numR 10 x)) x=some (numS x):=by
 match x with
 | []=>rfl
 | [a]=>
  show cond (seq [a] [48]) (some (numR 8 [a])) (some (numR 10 [a]))=_
  refine zET (fun h=>?_) fun h=>?_
  · have:=zGM h
    injection this with e _
    rw [numS,if_pos e]
  · rw [numS,if_neg fun e=>zF8 h (by rw [e])]
 | a::b::r=>
  have hl:lenI (a::b::r)=((r.length:Nat):Int)+2:=by show ((r.length+1+1:Nat):Int)=_; omega
  have hs:inS 2 (lenI (a::b::r)) (List.length (a::b::r))=true:=ke (by omega) (by omega) (Int.le_refl _)
  have hend:(a=48->b≠120/\b≠88)->zF9 (some (numR 8 (a::b::r))) (some (numR 10 (a::b::r))) (a::b::r)=some (numS (a::b::r)):=fun hh=>by
   unfold zF9
   refine zi (zES (by show (1:Int)<=_; omega)) ?_
   refine zi (ke (by omega) (by show (0:Int)<=1; omega) (by show (1:Int)<=((r.length+1+1:Nat):Int); omega)) ?_
   show cond (seq [a] [48]) _ _=_
   refine zET (fun h=>?_) fun h=>?_
   · have:=zGM h
     injection this with e _
     rw [numS,if_pos e,if_neg fun e2=>by rcases e2 with e2 | e2; exact (hh e).1 e2; exact (hh e).2 e2]
   · rw [numS,if_neg fun e=>zF8 h (by rw [e])]
  unfold zE4
  refine zi (zES (by show (2:Int)<=_; omega)) ?_
  refine zi (ke (by omega) (by show (0:Int)<=2; omega) (by show (2:Int)<=((r.length+1+1:Nat):Int); omega)) ?_
  show cond (seq [a,b] [48,120]) _ _=_
  refine zET (fun h=>?_) fun h=>?_
  · have:=zGM h
    injection this with e e1
    injection e1 with e1 _
    refine zi hs ?_
    rw [numS,if_pos e,if_pos (.inl e1)]; rfl
  unfold zJe
  refine zi (zES (by show (2:Int)<=_; omega)) ?_
  refine zi (ke (by omega) (by show (0:Int)<=2; omega) (by show (2:Int)<=((r.length+1+1:Nat):Int); omega)) ?_
  show cond (seq [a,b] [48,88]) _ _=_
  refine zET (fun h2=>?_) fun h2=>?_
  · have:=zGM h2
    injection this with e e1
    injection e1 with e1 _
    refine zi hs ?_
    rw [numS,if_pos e,if_pos (.inr e1)]; rfl
  exact hend fun e=>⟨fun e1=>zF8 h (by rw [e,e1]),fun e1=>zF8 h2 (by rw [e,e1])⟩
theorem zEd (x:Str):zC0 (some (numR 16 (x.drop 2))) (some (numR 8 x)) (some (numR 10 x)) x=some (numS x):=by
 match x with
 | []=>rfl
 | [a]=>
  show cond (ieq ((a.toNat:Nat):Int) 48) (some (numR 8 [a])) (some (numR 10 [a]))=_
  refine zAz (fun h=>?_) fun h=>?_
  · rw [numS,if_pos (zAj (b:=48) h)]
  · rw [numS,if_neg fun e=>h (by rw [e]; rfl)]
 | a::b::r=>
  have hl:lenI (a::b::r)=((r.length:Nat):Int)+2:=by show ((r.length+1+1:Nat):Int)=_; omega
  have hb0:inB 0 (List.length (a::b::r))=true:=zAc (by omega) (by show (0:Int) < ((r.length+1+1:Nat):Int); omega)
  have hb1:inB 1 (List.length (a::b::r))=true:=zAc (by omega) (by show (1:Int) < ((r.length+1+1:Nat):Int); omega)
  have hend:(a=48->b≠120/\b≠88)->zEN (some (numR 8 (a::b::r))) (some (numR 10 (a::b::r))) (a::b::r)=some (numS (a::b::r)):=fun hh=>by
   unfold zEN
   refine zi (zES (by omega)) (zi hb0 ?_)
   show cond (ieq ((a.toNat:Nat):Int) 48) _ _=_
   refine zAz (fun h=>?_) fun h=>?_
   · have e:=zAj (b:=48) h
     rw [numS,if_pos e,if_neg fun e2=>by rcases e2 with e2 | e2; exact (hh e).1 e2; exact (hh e).2 e2]
   · rw [numS,if_neg fun e=>h (by rw [e]; rfl)]
  unfold zC0
  refine zi (zES (by omega)) (zi hb0 ?_)
  show cond (ieq ((a.toNat:Nat):Int) 48) _ _=_
  refine zAz (fun h=>?_) fun h=>?_
  · have e:=zAj (b:=48) h
    refine zi hb1 ?_
    show cond (ieq ((b.toNat:Nat):Int) 120) _ _=_
    refine zAz (fun h=>?_) fun h=>?_
    · rw [numS,if_pos e,if_pos (.inl (zAj (b:=120) h))]; rfl
    refine zi hb1 ?_
    show cond (ieq ((b.toNat:Nat):Int) 88) _ _=_
    refine zAz (fun h2=>?_) fun h2=>?_
    · rw [numS,if_pos e,if_pos (.inr (zAj (b:=88) h2))]; rfl
    exact hend fun _=>⟨fun e1=>h (by rw [e1]; rfl),fun e1=>h2 (by rw [e1]; rfl)⟩
  · exact hend fun e=>absurd (by rw [e]; rfl) h
theorem c13_eq (fu:Nat) (x:Str) (hx:x.length < 1000000) (hfu:x.length < fu):c13 fu (x,())=some (numS x):=by
 rw [zJy]
 have h2:cutL x 2 (lenI x)=x.drop 2:=zDf x 2
 rw [h2,show goP fu 16 (x.drop 2)=_ from zG5 fu 16 (.inr (.inr rfl)) _ (by simp; omega) (by simp; omega),show goP fu 8 x=_ from zG5 fu 8 (.inl rfl) _ hx hfu,show goP fu 10 x=_ from zG5 fu 10 (.inr (.inl rfl)) _ hx hfu]
 exact zJX x
theorem c14_eq (fu:Nat) (x:Str) (hx:x.length < 1000000) (hfu:x.length < fu):c14 fu (x,())=some (numS x):=by
 rw [zKT]
 rw [show goR fu 8 0 x=_ from zGR fu 8 (.inl rfl) 0 _ (Nat.zero_le _) hx hfu,show goR fu 10 0 x=_ from zGR fu 10 (.inr (.inl rfl)) 0 _ (Nat.zero_le _) hx hfu,List.drop_zero]
 by_cases h2:2<=x.length
 · rw [show goR fu 16 2 x=_ from zGR fu 16 (.inr (.inr rfl)) 2 _ h2 hx hfu]
   exact zEd x
 · have h3:=zEd x
   unfold zC0 at h3 ⊢
   rw [ile_f (by show (x.length:Int) < 2; omega)] at h3 ⊢
   exact h3
end
section
open Go.Al Go.Den
theorem k1:c18 60 60 60 ([49,32,43,32,50],())=some (3,()):=by kernel_rfl
theorem zJT:c8 60 60 60 ()=some (true,()):=by kernel_rfl
end
section
open Go.Al Go.Den
noncomputable def c16 (x:Str×Unit):Option (Int×Int×Unit):=sh16 0 (fun _=>false) x.1
theorem ok16:ConOk CC Tryd.prog 16 ⟨as16,rs16,c16⟩:=con16 0
def yo:NR:=some (0,(91,()))
def quo3 (a b c:UInt8):NR:=cond (ine (a.toNat:Int) 39) yo (cond (ine (c.toNat:Int) 39) yo (cond (ine (b.toNat:Int) 92) (some (zL .i64 (b.toNat:Int),(0,()))) yo))
theorem c15_3 (a b c:UInt8):c15 ([a,b,c],())=quo3 a b c:=by kernel_rfl
theorem c16_3 (a b c:UInt8):c16 ([a,b,c],())=quo3 a b c:=by
 have h:c16 ([a,b,c],())=cond (ine (a.toNat:Int) 39) yo (cond (ine (c.toNat:Int) 39) yo (cond (ine (b.toNat:Int) 92) (some (zL .i64 (b.toNat:Int),(0,()))) yo)):=by kernel_rfl
 exact h
def quo4 (a b d:UInt8) (e:NR):NR:=cond (ine (a.toNat:Int) 39) yo (cond (ine (d.toNat:Int) 39) yo (cond (ine (b.toNat:Int) 92) yo e))
def zGE (c:Int):NR:=
 Option.bind (c44 ([110,116,114,48,97,98,102,118],(c,()))) fun y0=>
  cond (ile 0 y0.1)
   (cond (inB y0.1 8)
    (some ((zL .i64 (zH [10,9,13,0,7,8,12,11] y0.1)),(0,())))
    (none))
   (Option.bind (c44 ([92,39,34,63],(c,()))) fun y1=>
    cond (ilt y1.1 0)
     (some (0,(91,())))
     (some ((zL .i64 c),(0,()))))
theorem c15_4 (a b c d:UInt8):c15 ([a,b,c,d],())=quo4 a b d (zGE (c.toNat:Int)):=by kernel_rfl
def zEm (c:Int):NR:=
 cond (ieq c 110) (some (10,(0,()))) (cond (ieq c 116) (some (9,(0,()))) (cond (ieq c 114) (some (13,(0,()))) (cond (ieq c 48) (some (0,(0,()))) (cond (ieq c 97) (some (7,(0,()))) (cond (ieq c 98) (some (8,(0,()))) (cond (ieq c 102) (some (12,(0,()))) (cond (ieq c 118) (some (11,(0,()))) (cond (ieq c 92) (some ((zL .i64 c),(0,()))) (cond (ieq c 39) (some ((zL .i64 c),(0,()))) (cond (ieq c 34) (some ((zL .i64 c),(0,()))) (cond (ieq c 63) (some ((zL .i64 c),(0,()))) (some (0,(91,()))))))))))))))
theorem c16_4 (a b c d:UInt8):c16 ([a,b,c,d],())=quo4 a b d (zEm (c.toNat:Int)):=by kernel_rfl
theorem zMV:((List.range 256).all fun n=>decide (zGE (n:Int)=zEm (n:Int)))=true:=by kernel_rfl
theorem esc_eq (c:UInt8):zGE (c.toNat:Int)=zEm (c.toNat:Int):=by
 have h:decide (zGE (c.toNat:Int)=zEm (c.toNat:Int))=true:=List.all_eq_true.1 zMV c.toNat (List.mem_range.2 c.toNat_lt)
 exact of_decide_eq_true h
theorem zLP (x:Str) (h:4 < x.length) (hx:x.length < 1000000):c15 (x,())=yo:=by
 show sh15 0 c44 (fun _=>false) x=yo
 unfold sh15
 have e1:isub .i64 (lenI x) 1=(x.length:Int) - 1:=zIh _ _ (by show _<=(x.length:Int) - 1; omega) (by show (x.length:Int) - 1<=_; omega)
 have e2:lenI (cutL x 1 ((x.length:Int) - 1))=(x.length:Int) - 2:=by
  unfold cutL lenI
  rw [List.length_drop,List.length_take]
  omega
 rw [e1,e2]
 refine zFO (ilt_f (by show (3:Int)<=(x.length:Int); omega)) ?_
 refine zi (zAc (by omega) (by omega)) ?_
 refine zJJ (fun _=>rfl) fun _=>?_
 refine zi (zAc (by omega) (by omega)) ?_
 refine zJJ (fun _=>rfl) fun _=>?_
 refine zi (ke (by omega) (by omega) (by omega)) ?_
 refine zFO (ieq_f (by omega)) ?_
 exact zi (ine_t (by omega)) rfl
theorem zLt (x:Str) (h:4 < x.length):c16 (x,())=yo:=by
 show sh16 0 (fun _=>false) x=yo
 unfold sh16
 refine zFO (ilt_f (by show (3:Int)<=(x.length:Int); omega)) ?_
 exact zi (ilt_t (by show (4:Int) < (x.length:Int); omega)) rfl
theorem quo_eq (x:Str) (hx:x.length < 1000000):c15 (x,())=c16 (x,())/\∃ y,c16 (x,())=some y:=by
 have d:∀ (c:Bool) (a b:NR),(∃ y,a=some y)->(∃ y,b=some y)->∃ y,cond c a b=some y:=fun c a b h1 h2=>by cases c <;> assumption
 have hb:∃ y,yo=some y:=⟨_,rfl⟩
 match x,hx with
 | [],_=>exact ⟨(show c15 ([],())=c16 ([],()) by kernel_rfl),_,(show c16 ([],())=yo by kernel_rfl)⟩
 | [a],_=>exact ⟨(show c15 ([a],())=c16 ([a],()) by kernel_rfl),_,(show c16 ([a],())=yo by kernel_rfl)⟩
 | [a,b],_=>exact ⟨(show c15 ([a,b],())=c16 ([a,b],()) by kernel_rfl),_,(show c16 ([a,b],())=yo by kernel_rfl)⟩
 | [a,b,c],_=>
  rw [c15_3,c16_3]
  exact ⟨rfl,d _ _ _ hb (d _ _ _ hb (d _ _ _ ⟨_,rfl⟩ hb))⟩
 | [a,b,c,e],_=>
  rw [c15_4,c16_4,esc_eq]
  refine ⟨rfl,d _ _ _ hb (d _ _ _ hb (d _ _ _ hb ?_))⟩
  unfold zEm
  repeat' (first | exact ⟨_,rfl⟩ | refine d _ _ _ ?_ ?_)
 | a::b::c::e::f::r,hx=>
  have h:4 < (a::b::c::e::f::r).length:=by simp only [List.length_cons]; omega
  rw [zLP _ h hx,zLt _ h]
  exact ⟨rfl,hb⟩
def c8t (_:Unit):Option (Bool×Unit):=some (true,())
theorem ok8t:ConOk CC Tryd.prog 8 ⟨as8,rs8,c8t⟩:=by
 refine (ok8 60 60 60).sub ?_
 intro u y hy
 obtain rfl:y=(true,()):=by injection hy with hy; exact hy.symm
 obtain rfl:u=():=rfl
 exact zJT
theorem zLH (fu:Nat) (hfu:500 < fu) (nf:Nat->Bool) (x:Str):sh4 fu c8t (c13 fu) (c14 fu) c15 c16 nf x=some (true,()):=by
 unfold sh4
 refine xr (v:=(true,())) rfl ?_
 refine zF4 (fun _=>rfl) fun h=>?_
 have hx:x.length<=500:=by have:(x.length:Int)<=500:=h; omega
 obtain ⟨h1,y,h2⟩:=quo_eq x (by omega)
 refine xr (c13_eq fu x (by omega) (by omega)) ?_
 refine xr (c14_eq fu x (by omega) (by omega)) ?_
 refine xr (h1.trans h2) (xr h2 ?_)
 dsimp only
 refine zi rfl (zi (zF7 rfl) (zi (zF7 rfl) (zi (zF7 rfl) ?_)))
 rw [zF7 rfl]
theorem ok4:ConOk CC Tryd.prog 4 ⟨as4,rs4,fun _=>some (true,())⟩:=(con4 501 c8t ok8t (c13 501) (ok13 501) (c14 501) (ok14 501) c15 ok15 c16 ok16).sub fun x y h=>by
 injection h with h
 subst h
 exact zLH 501 (by omega) _ _
end
end Go.Proofs.YtonnigoiklahdaaDoor
namespace Go.Proofs.YtonnigoiklahdaaDoor.ifexprAtoms
section
open Go.Al Go.Den Go.ChangeShapes Go.WideShapes Go.ChangeAt Go.RowKit
open Go.ChangeMaps (open_string shut_string)
theorem own:ownKnob Tryd.prog.godebug=none:=by kernel_rfl
theorem laidOut:laidOutB Tryd.prog=true:=by kernel_rfl
theorem walk (z0:List UInt8) (W:World) (hgl:GlobOk W.heap.size (wmOf W) W) (v0:Value) (h0:RV1 ⟨wmOf W,fun _=>none,Fr.no⟩ W (.at (.string ⟨z0.toArray⟩)) v0):Calls Tryd.prog 4 #[v0] W fun e W'=>e = .returned (.bool true)/\Below W.heap.size W W':=by
 have hp:=ok4 (z0,()) (true,()) rfl _ ⟨_,_,rfl,rfl,rfl⟩
 refine (hp (wmOf W) W [v0] (zI6 W) hgl (.cons h0 RVs.nil)).mono ?_
 rintro e W' ⟨v,wm',rfl,_,hst,hr⟩
 have hv:v = .bool true:=zN hr
 subst hv
 exact ⟨rfl,hst.below⟩
set_option maxRecDepth 100000 in
theorem lifted (os:Os) (started:os.Started) (H:Type) (enc:TypeId×Value->H) :
 ReturnsInHanded {} Tryd.checked os 4 .any (fun w args=>(Rows.ifexprAtomsSpec.pre enc Tryd.prog Tryd.f4 [] false w args/\laidMetH Tryd.prog zEb w)/\sizedMet enc Tryd.prog Tryd.f4 (OpenSpec.ofChange Rows.ifexprAtomsSpec) false w args)
  (Rows.ifexprAtomsSpec.post enc Tryd.prog Tryd.f4 false true false false):=by
 refine zBj (C:=Tryd.checked) (X:=fun w _=>laidMetH Tryd.prog zEb w) (fun _ _ _ hh h=>laidMetH.of_heap hh h) own started (by kernel_rfl) Tryd.func4
  (ChangeSpec.witness_shaped (enc:=enc) (C:=Tryd.checked) (os:=os) (X:=fun w _=>laidMetH Tryd.prog zEb w) false (World.doorLaid Tryd.prog 400 os) #[.string ByteArray.empty] 8 rfl (World.shaped_of_RefB (by kernel_rfl) (by kernel_rfl)) (by kernel_rfl) (by kernel_rfl) (by kernel_rfl) (zLZ os _)) ?_
 intro W base args ds gs before hval0 hW hsh hL
 have hval:∀ (j:Nat) t v,Tryd.f4.params[j]? = some t->args[j]? = some v->Value.okWide Tryd.prog W .any base t v:=hval0
 have hW':=hW
 obtain ⟨p,q,hA0,hV,rfl,hfz,hnd⟩:=hW
 have hA:DataW.TrodAll enc Tryd.prog W 0 (fun _=>true) true Tryd.f4.params.toList args.toList ds p:=hA0
 rw [Tryd.params4] at hA hval
 obtain ⟨v0,vs0,d0,ds0,p0,q0,hargs,rfl,rfl,h0,r0⟩:=trodAll_cons hA
 obtain ⟨rfl,rfl,rfl⟩:=trodAll_nil r0
 obtain rfl:args = #[v0]:=by cases args; simp_all
 obtain ⟨rfl,rfl⟩:=trodVars_none hV
 have hgl:=zFF hsh hL
 have k0:=h0
 have lt0:∀ x ∈ p0,x.block < W.heap.size:=by obtain ⟨m,hm⟩:=k0; exact DataW.trod_lt m _ _ _ hm
 obtain ⟨s0,rfl,rfl,rfl,w0⟩:=open_string Tryd.underlying9 (hval 0 9 v0 rfl rfl) h0
 clear hA0 hval0
 refine (walk s0.data.toList W hgl _ (zMw s0)).mono fun e W' ⟨he,bel⟩=>?_
 subst he
 exact ⟨_,rfl,_,_,_,[],_,[],hW',trodAll_mk1 (shut_bool Tryd.underlying4 _),(trodAll_cons_mk (Below.trod laidOut (by kernel_rfl) (of_decide_eq_true (by kernel_rfl)) k0 bel lt0) trodAll_mk0),rfl,bel.frame _,fun h=>by cases h⟩
theorem over:Rows.IfexprAtomsSaid:=
 OpenClaim.holds_of_wide 4 Tryd.f4 rfl rfl rfl rfl rfl rfl rfl ⟨rfl,rfl,rfl,rfl,rfl⟩ rfl rfl rfl rfl rfl (by kernel_rfl) Tryd.func4 (by kernel_rfl)
  (of_decide_eq_true (by kernel_rfl)) (by unfold Func.isWrapper; first | (rw [if_pos (by decide +kernel)]; kernel_rfl) | (rw [if_neg (by decide +kernel)]; exact ⟨rfl,rfl⟩))
  (fun os started H enc _=>lifted os started H enc)
theorem ifexprAtoms_holds:Rows.IfexprAtomsCardSaid:=
 Claim7.holds_tied_plain_at .later [] [.listed,.data,.data] true (true, "9147890bc36f5da7ddbf85365800fa2858e58f193b221afb2dd99ffeef9cecf5") false
  over (fun _ h=>by cases h) (by kernel_rfl) (fun _ h=>by cases h) ifexprAtoms_row_tie rfl ⟨rfl,rfl⟩ (by kernel_rfl) rfl
  (fun f fn hf hfn=>by
   obtain rfl:f=4:=Option.some.inj ((show Tryd.prog.funcNamed "emend/emendlaw09.IfexprAtoms" = some 4 by kernel_rfl).symm.trans hf) |>.symm
   obtain rfl:fn=Tryd.f4:=(Option.some.inj (Tryd.func4.symm.trans hfn)).symm
   exact ⟨by kernel_rfl,fun j t ht=>by
    rw [Tryd.params4] at ht
    have hm:t ∈ [9]:=by simpa using Array.mem_of_getElem? ht
    have hall:([9].all fun u=>!Tryd.prog.wantsStandIn u)=true:=by kernel_rfl
    exact (show Tryd.prog.wantsStandIn t=false by simpa using List.all_eq_true.1 hall t hm)⟩)
  (by kernel_rfl)
end
end Go.Proofs.YtonnigoiklahdaaDoor.ifexprAtoms
