/-
  Of two numbers in brackets, with any of the eighteen signs between, comes what the sign makes of them: for every two numbers and every place of a sign the law IfexprTwo answers true, and leaves its arguments as they were. No condition, but that the listed package-level variables hold what the program's text lays (the card ties them).
-/
import Derived.Test.YtonnigoiklahdaaDoorZC5
import Derived.Test.YtonnigoiklahdaaDoorCards
set_option linter.unusedVariables false
set_option linter.unusedSimpArgs false
set_option linter.unusedSectionVars false
namespace Go.Proofs.YtonnigoiklahdaaDoor
section
open Go.Al Go.Den
def sh16 (fu:Nat) (nf:Nat->Bool) (x0:Str):(Option (Int×(Int×Unit))):=cond (ilt (lenI x0) 3) (some (0,(91,()))) (cond (ilt 4 (lenI x0)) (some (0,(91,()))) (cond (inB 0 (List.length x0)) (cond (ine (zK x0 0) 39) (some (0,(91,()))) (cond (inB (isub .i64 (lenI x0) 1) (List.length x0)) (cond (ine (zK x0 (isub .i64 (lenI x0) 1)) 39) (some (0,(91,()))) (cond (ieq (lenI x0) 3) (cond (inB 1 (List.length x0)) (cond (ine (zK x0 1) 92) (cond (inB 1 (List.length x0)) (some ((zM .i64 (zK x0 1)),(0,()))) (none)) (cond (ieq (lenI x0) 3) (some (0,(91,()))) (cond (inB 1 (List.length x0)) (cond (ine (zK x0 1) 92) (some (0,(91,()))) (cond (inB 2 (List.length x0)) (cond (ieq (zK x0 2) 110) (some (10,(0,()))) (cond (ieq (zK x0 2) 116) (some (9,(0,()))) (cond (ieq (zK x0 2) 114) (some (13,(0,()))) (cond (ieq (zK x0 2) 48) (some (0,(0,()))) (cond (ieq (zK x0 2) 97) (some (7,(0,()))) (cond (ieq (zK x0 2) 98) (some (8,(0,()))) (cond (ieq (zK x0 2) 102) (some (12,(0,()))) (cond (ieq (zK x0 2) 118) (some (11,(0,()))) (cond (ieq (zK x0 2) 92) (cond (inB 2 (List.length x0)) (some ((zM .i64 (zK x0 2)),(0,()))) (none)) (cond (ieq (zK x0 2) 39) (cond (inB 2 (List.length x0)) (some ((zM .i64 (zK x0 2)),(0,()))) (none)) (cond (ieq (zK x0 2) 34) (cond (inB 2 (List.length x0)) (some ((zM .i64 (zK x0 2)),(0,()))) (none)) (cond (ieq (zK x0 2) 63) (cond (inB 2 (List.length x0)) (some ((zM .i64 (zK x0 2)),(0,()))) (none)) (some (0,(91,()))))))))))))))) (none))) (none)))) (none)) (cond (ieq (lenI x0) 3) (some (0,(91,()))) (cond (inB 1 (List.length x0)) (cond (ine (zK x0 1) 92) (some (0,(91,()))) (cond (inB 2 (List.length x0)) (cond (ieq (zK x0 2) 110) (some (10,(0,()))) (cond (ieq (zK x0 2) 116) (some (9,(0,()))) (cond (ieq (zK x0 2) 114) (some (13,(0,()))) (cond (ieq (zK x0 2) 48) (some (0,(0,()))) (cond (ieq (zK x0 2) 97) (some (7,(0,()))) (cond (ieq (zK x0 2) 98) (some (8,(0,()))) (cond (ieq (zK x0 2) 102) (some (12,(0,()))) (cond (ieq (zK x0 2) 118) (some (11,(0,()))) (cond (ieq (zK x0 2) 92) (cond (inB 2 (List.length x0)) (some ((zM .i64 (zK x0 2)),(0,()))) (none)) (cond (ieq (zK x0 2) 39) (cond (inB 2 (List.length x0)) (some ((zM .i64 (zK x0 2)),(0,()))) (none)) (cond (ieq (zK x0 2) 34) (cond (inB 2 (List.length x0)) (some ((zM .i64 (zK x0 2)),(0,()))) (none)) (cond (ieq (zK x0 2) 63) (cond (inB 2 (List.length x0)) (some ((zM .i64 (zK x0 2)),(0,()))) (none)) (some (0,(91,()))))))))))))))) (none))) (none))))) (none))) (none)))
def sh45 (fu:Nat) (nf:Nat->Bool) (x0:Bool):(Option (Int×Unit)):=cond x0 (some (1,())) (some (0,()))
theorem eq45:@run45 = @sh45:=by kernel_rfl
def sh8 (fu:Nat) (c18:(Str×Unit)->(Option (Int×Unit))) (nf:Nat->Bool):(Option (Bool×Unit)):=Option.bind (c18 ([49,32,43,32,50,32,42,32,51],())) fun y0=>cond (ieq y0.1 7) (Option.bind (c18 ([40,49,32,43,32,50,41,32,42,32,51],())) fun y1=>cond (ieq y1.1 9) (Option.bind (c18 ([45,55,32,47,32,50],())) fun y2=>cond (ieq y2.1 (Neg.neg 3)) (Option.bind (c18 ([45,55,32,37,32,50],())) fun y3=>Option.bind (c18 ([49,32,124,124,32,49,32,47,32,48],())) fun y4=>cond (ieq y4.1 1) (Option.bind (c18 ([49,32,47,32,48],())) fun y5=>cond (ieq y5.1 (Neg.neg 1092)) (Option.bind (c18 ([48,32,63,32,49,47,48,32,58,32,53],())) fun y6=>cond (ieq y6.1 5) (Option.bind (c18 ([88,32,61,61,32,48,32,38,38,32,39,97,39,32,61,61,32,57,55],())) fun y7=>Option.bind (c18 ([48,120,49,48,117],())) fun y8=>cond (ieq y8.1 16) (Option.bind (c18 ([48,56],())) fun y9=>cond (ieq y9.1 (Neg.neg 1091)) (Option.bind (c18 ([49,32,60,60,32,54,52],())) fun y10=>cond (ieq y10.1 (Neg.neg 1093)) (Option.bind (c18 ([49,32,43],())) fun y11=>cond (ieq y11.1 (Neg.neg 1090)) (Option.bind (c18 ([],())) fun y12=>cond (ieq y12.1 (Neg.neg 1090)) (Option.bind (c18 ([49,32,63,32,50,32,58,32,48,32,63,32,51,32,58,32,52],())) fun y13=>cond (ieq y3.1 (Neg.neg 1)) (cond (ieq y7.1 1) (some ((ieq y13.1 2),())) (some (false,()))) (some (false,()))) (cond (ieq y3.1 (Neg.neg 1)) (cond (ieq y7.1 1) (some (false,())) (some (false,()))) (some (false,())))) (cond (ieq y3.1 (Neg.neg 1)) (cond (ieq y7.1 1) (some (false,())) (some (false,()))) (some (false,())))) (cond (ieq y3.1 (Neg.neg 1)) (cond (ieq y7.1 1) (some (false,())) (some (false,()))) (some (false,())))) (cond (ieq y3.1 (Neg.neg 1)) (cond (ieq y7.1 1) (some (false,())) (some (false,()))) (some (false,())))) (cond (ieq y3.1 (Neg.neg 1)) (cond (ieq y7.1 1) (some (false,())) (some (false,()))) (some (false,())))) (Option.bind (c18 ([48,120,49,48,117],())) fun y7=>cond (ieq y7.1 16) (Option.bind (c18 ([48,56],())) fun y8=>cond (ieq y8.1 (Neg.neg 1091)) (Option.bind (c18 ([49,32,60,60,32,54,52],())) fun y9=>cond (ieq y9.1 (Neg.neg 1093)) (Option.bind (c18 ([49,32,43],())) fun y10=>cond (ieq y10.1 (Neg.neg 1090)) (Option.bind (c18 ([],())) fun y11=>cond (ieq y11.1 (Neg.neg 1090)) (Option.bind (c18 ([49,32,63,32,50,32,58,32,48,32,63,32,51,32,58,32,52],())) fun y12=>cond (ieq y3.1 (Neg.neg 1)) (some (false,())) (some (false,()))) (cond (ieq y3.1 (Neg.neg 1)) (some (false,())) (some (false,())))) (cond (ieq y3.1 (Neg.neg 1)) (some (false,())) (some (false,())))) (cond (ieq y3.1 (Neg.neg 1)) (some (false,())) (some (false,())))) (cond (ieq y3.1 (Neg.neg 1)) (some (false,())) (some (false,())))) (cond (ieq y3.1 (Neg.neg 1)) (some (false,())) (some (false,()))))) (Option.bind (c18 ([48,120,49,48,117],())) fun y6=>cond (ieq y6.1 16) (Option.bind (c18 ([48,56],())) fun y7=>cond (ieq y7.1 (Neg.neg 1091)) (Option.bind (c18 ([49,32,60,60,32,54,52],())) fun y8=>cond (ieq y8.1 (Neg.neg 1093)) (Option.bind (c18 ([49,32,43],())) fun y9=>cond (ieq y9.1 (Neg.neg 1090)) (Option.bind (c18 ([],())) fun y10=>cond (ieq y10.1 (Neg.neg 1090)) (Option.bind (c18 ([49,32,63,32,50,32,58,32,48,32,63,32,51,32,58,32,52],())) fun y11=>cond (ieq y3.1 (Neg.neg 1)) (some (false,())) (some (false,()))) (cond (ieq y3.1 (Neg.neg 1)) (some (false,())) (some (false,())))) (cond (ieq y3.1 (Neg.neg 1)) (some (false,())) (some (false,())))) (cond (ieq y3.1 (Neg.neg 1)) (some (false,())) (some (false,())))) (cond (ieq y3.1 (Neg.neg 1)) (some (false,())) (some (false,())))) (cond (ieq y3.1 (Neg.neg 1)) (some (false,())) (some (false,()))))) (Option.bind (c18 ([48,120,49,48,117],())) fun y5=>cond (ieq y5.1 16) (Option.bind (c18 ([48,56],())) fun y6=>cond (ieq y6.1 (Neg.neg 1091)) (Option.bind (c18 ([49,32,60,60,32,54,52],())) fun y7=>cond (ieq y7.1 (Neg.neg 1093)) (Option.bind (c18 ([49,32,43],())) fun y8=>cond (ieq y8.1 (Neg.neg 1090)) (Option.bind (c18 ([],())) fun y9=>cond (ieq y9.1 (Neg.neg 1090)) (Option.bind (c18 ([49,32,63,32,50,32,58,32,48,32,63,32,51,32,58,32,52],())) fun y10=>cond (ieq y3.1 (Neg.neg 1)) (some (false,())) (some (false,()))) (cond (ieq y3.1 (Neg.neg 1)) (some (false,())) (some (false,())))) (cond (ieq y3.1 (Neg.neg 1)) (some (false,())) (some (false,())))) (cond (ieq y3.1 (Neg.neg 1)) (some (false,())) (some (false,())))) (cond (ieq y3.1 (Neg.neg 1)) (some (false,())) (some (false,())))) (cond (ieq y3.1 (Neg.neg 1)) (some (false,())) (some (false,()))))) (Option.bind (c18 ([49,32,124,124,32,49,32,47,32,48],())) fun y3=>cond (ieq y3.1 1) (Option.bind (c18 ([49,32,47,32,48],())) fun y4=>cond (ieq y4.1 (Neg.neg 1092)) (Option.bind (c18 ([48,32,63,32,49,47,48,32,58,32,53],())) fun y5=>cond (ieq y5.1 5) (Option.bind (c18 ([88,32,61,61,32,48,32,38,38,32,39,97,39,32,61,61,32,57,55],())) fun y6=>Option.bind (c18 ([48,120,49,48,117],())) fun y7=>cond (ieq y7.1 16) (Option.bind (c18 ([48,56],())) fun y8=>cond (ieq y8.1 (Neg.neg 1091)) (Option.bind (c18 ([49,32,60,60,32,54,52],())) fun y9=>cond (ieq y9.1 (Neg.neg 1093)) (Option.bind (c18 ([49,32,43],())) fun y10=>cond (ieq y10.1 (Neg.neg 1090)) (Option.bind (c18 ([],())) fun y11=>cond (ieq y11.1 (Neg.neg 1090)) (Option.bind (c18 ([49,32,63,32,50,32,58,32,48,32,63,32,51,32,58,32,52],())) fun y12=>some (false,())) (some (false,()))) (some (false,()))) (some (false,()))) (some (false,()))) (some (false,()))) (Option.bind (c18 ([48,120,49,48,117],())) fun y6=>cond (ieq y6.1 16) (Option.bind (c18 ([48,56],())) fun y7=>cond (ieq y7.1 (Neg.neg 1091)) (Option.bind (c18 ([49,32,60,60,32,54,52],())) fun y8=>cond (ieq y8.1 (Neg.neg 1093)) (Option.bind (c18 ([49,32,43],())) fun y9=>cond (ieq y9.1 (Neg.neg 1090)) (Option.bind (c18 ([],())) fun y10=>cond (ieq y10.1 (Neg.neg 1090)) (Option.bind (c18 ([49,32,63,32,50,32,58,32,48,32,63,32,51,32,58,32,52],())) fun y11=>some (false,())) (some (false,()))) (some (false,()))) (some (false,()))) (some (false,()))) (some (false,())))) (Option.bind (c18 ([48,120,49,48,117],())) fun y5=>cond (ieq y5.1 16) (Option.bind (c18 ([48,56],())) fun y6=>cond (ieq y6.1 (Neg.neg 1091)) (Option.bind (c18 ([49,32,60,60,32,54,52],())) fun y7=>cond (ieq y7.1 (Neg.neg 1093)) (Option.bind (c18 ([49,32,43],())) fun y8=>cond (ieq y8.1 (Neg.neg 1090)) (Option.bind (c18 ([],())) fun y9=>cond (ieq y9.1 (Neg.neg 1090)) (Option.bind (c18 ([49,32,63,32,50,32,58,32,48,32,63,32,51,32,58,32,52],())) fun y10=>some (false,())) (some (false,()))) (some (false,()))) (some (false,()))) (some (false,()))) (some (false,())))) (Option.bind (c18 ([48,120,49,48,117],())) fun y4=>cond (ieq y4.1 16) (Option.bind (c18 ([48,56],())) fun y5=>cond (ieq y5.1 (Neg.neg 1091)) (Option.bind (c18 ([49,32,60,60,32,54,52],())) fun y6=>cond (ieq y6.1 (Neg.neg 1093)) (Option.bind (c18 ([49,32,43],())) fun y7=>cond (ieq y7.1 (Neg.neg 1090)) (Option.bind (c18 ([],())) fun y8=>cond (ieq y8.1 (Neg.neg 1090)) (Option.bind (c18 ([49,32,63,32,50,32,58,32,48,32,63,32,51,32,58,32,52],())) fun y9=>some (false,())) (some (false,()))) (some (false,()))) (some (false,()))) (some (false,()))) (some (false,()))))) (Option.bind (c18 ([49,32,124,124,32,49,32,47,32,48],())) fun y2=>cond (ieq y2.1 1) (Option.bind (c18 ([49,32,47,32,48],())) fun y3=>cond (ieq y3.1 (Neg.neg 1092)) (Option.bind (c18 ([48,32,63,32,49,47,48,32,58,32,53],())) fun y4=>cond (ieq y4.1 5) (Option.bind (c18 ([88,32,61,61,32,48,32,38,38,32,39,97,39,32,61,61,32,57,55],())) fun y5=>Option.bind (c18 ([48,120,49,48,117],())) fun y6=>cond (ieq y6.1 16) (Option.bind (c18 ([48,56],())) fun y7=>cond (ieq y7.1 (Neg.neg 1091)) (Option.bind (c18 ([49,32,60,60,32,54,52],())) fun y8=>cond (ieq y8.1 (Neg.neg 1093)) (Option.bind (c18 ([49,32,43],())) fun y9=>cond (ieq y9.1 (Neg.neg 1090)) (Option.bind (c18 ([],())) fun y10=>cond (ieq y10.1 (Neg.neg 1090)) (Option.bind (c18 ([49,32,63,32,50,32,58,32,48,32,63,32,51,32,58,32,52],())) fun y11=>some (false,())) (some (false,()))) (some (false,()))) (some (false,()))) (some (false,()))) (some (false,()))) (Option.bind (c18 ([48,120,49,48,117],())) fun y5=>cond (ieq y5.1 16) (Option.bind (c18 ([48,56],())) fun y6=>cond (ieq y6.1 (Neg.neg 1091)) (Option.bind (c18 ([49,32,60,60,32,54,52],())) fun y7=>cond (ieq y7.1 (Neg.neg 1093)) (Option.bind (c18 ([49,32,43],())) fun y8=>cond (ieq y8.1 (Neg.neg 1090)) (Option.bind (c18 ([],())) fun y9=>cond (ieq y9.1 (Neg.neg 1090)) (Option.bind (c18 ([49,32,63,32,50,32,58,32,48,32,63,32,51,32,58,32,52],())) fun y10=>some (false,())) (some (false,()))) (some (false,()))) (some (false,()))) (some (false,()))) (some (false,())))) (Option.bind (c18 ([48,120,49,48,117],())) fun y4=>cond (ieq y4.1 16) (Option.bind (c18 ([48,56],())) fun y5=>cond (ieq y5.1 (Neg.neg 1091)) (Option.bind (c18 ([49,32,60,60,32,54,52],())) fun y6=>cond (ieq y6.1 (Neg.neg 1093)) (Option.bind (c18 ([49,32,43],())) fun y7=>cond (ieq y7.1 (Neg.neg 1090)) (Option.bind (c18 ([],())) fun y8=>cond (ieq y8.1 (Neg.neg 1090)) (Option.bind (c18 ([49,32,63,32,50,32,58,32,48,32,63,32,51,32,58,32,52],())) fun y9=>some (false,())) (some (false,()))) (some (false,()))) (some (false,()))) (some (false,()))) (some (false,())))) (Option.bind (c18 ([48,120,49,48,117],())) fun y3=>cond (ieq y3.1 16) (Option.bind (c18 ([48,56],())) fun y4=>cond (ieq y4.1 (Neg.neg 1091)) (Option.bind (c18 ([49,32,60,60,32,54,52],())) fun y5=>cond (ieq y5.1 (Neg.neg 1093)) (Option.bind (c18 ([49,32,43],())) fun y6=>cond (ieq y6.1 (Neg.neg 1090)) (Option.bind (c18 ([],())) fun y7=>cond (ieq y7.1 (Neg.neg 1090)) (Option.bind (c18 ([49,32,63,32,50,32,58,32,48,32,63,32,51,32,58,32,52],())) fun y8=>some (false,())) (some (false,()))) (some (false,()))) (some (false,()))) (some (false,()))) (some (false,()))))) (Option.bind (c18 ([49,32,124,124,32,49,32,47,32,48],())) fun y1=>cond (ieq y1.1 1) (Option.bind (c18 ([49,32,47,32,48],())) fun y2=>cond (ieq y2.1 (Neg.neg 1092)) (Option.bind (c18 ([48,32,63,32,49,47,48,32,58,32,53],())) fun y3=>cond (ieq y3.1 5) (Option.bind (c18 ([88,32,61,61,32,48,32,38,38,32,39,97,39,32,61,61,32,57,55],())) fun y4=>Option.bind (c18 ([48,120,49,48,117],())) fun y5=>cond (ieq y5.1 16) (Option.bind (c18 ([48,56],())) fun y6=>cond (ieq y6.1 (Neg.neg 1091)) (Option.bind (c18 ([49,32,60,60,32,54,52],())) fun y7=>cond (ieq y7.1 (Neg.neg 1093)) (Option.bind (c18 ([49,32,43],())) fun y8=>cond (ieq y8.1 (Neg.neg 1090)) (Option.bind (c18 ([],())) fun y9=>cond (ieq y9.1 (Neg.neg 1090)) (Option.bind (c18 ([49,32,63,32,50,32,58,32,48,32,63,32,51,32,58,32,52],())) fun y10=>some (false,())) (some (false,()))) (some (false,()))) (some (false,()))) (some (false,()))) (some (false,()))) (Option.bind (c18 ([48,120,49,48,117],())) fun y4=>cond (ieq y4.1 16) (Option.bind (c18 ([48,56],())) fun y5=>cond (ieq y5.1 (Neg.neg 1091)) (Option.bind (c18 ([49,32,60,60,32,54,52],())) fun y6=>cond (ieq y6.1 (Neg.neg 1093)) (Option.bind (c18 ([49,32,43],())) fun y7=>cond (ieq y7.1 (Neg.neg 1090)) (Option.bind (c18 ([],())) fun y8=>cond (ieq y8.1 (Neg.neg 1090)) (Option.bind (c18 ([49,32,63,32,50,32,58,32,48,32,63,32,51,32,58,32,52],())) fun y9=>some (false,())) (some (false,()))) (some (false,()))) (some (false,()))) (some (false,()))) (some (false,())))) (Option.bind (c18 ([48,120,49,48,117],())) fun y3=>cond (ieq y3.1 16) (Option.bind (c18 ([48,56],())) fun y4=>cond (ieq y4.1 (Neg.neg 1091)) (Option.bind (c18 ([49,32,60,60,32,54,52],())) fun y5=>cond (ieq y5.1 (Neg.neg 1093)) (Option.bind (c18 ([49,32,43],())) fun y6=>cond (ieq y6.1 (Neg.neg 1090)) (Option.bind (c18 ([],())) fun y7=>cond (ieq y7.1 (Neg.neg 1090)) (Option.bind (c18 ([49,32,63,32,50,32,58,32,48,32,63,32,51,32,58,32,52],())) fun y8=>some (false,())) (some (false,()))) (some (false,()))) (some (false,()))) (some (false,()))) (some (false,())))) (Option.bind (c18 ([48,120,49,48,117],())) fun y2=>cond (ieq y2.1 16) (Option.bind (c18 ([48,56],())) fun y3=>cond (ieq y3.1 (Neg.neg 1091)) (Option.bind (c18 ([49,32,60,60,32,54,52],())) fun y4=>cond (ieq y4.1 (Neg.neg 1093)) (Option.bind (c18 ([49,32,43],())) fun y5=>cond (ieq y5.1 (Neg.neg 1090)) (Option.bind (c18 ([],())) fun y6=>cond (ieq y6.1 (Neg.neg 1090)) (Option.bind (c18 ([49,32,63,32,50,32,58,32,48,32,63,32,51,32,58,32,52],())) fun y7=>some (false,())) (some (false,()))) (some (false,()))) (some (false,()))) (some (false,()))) (some (false,()))))
theorem eq8:@run8 = @sh8:=by kernel_rfl
def sh5 (fu:Nat) (c8:Unit->(Option (Bool×Unit))) (c17:(Int×Unit)->(Option (Str×Unit))) (c18:(Str×Unit)->(Option (Int×Unit))) (c19:(Str×(Int×(Int×Unit)))->(Option (Int×(Int×Unit)))) (nf:Nat->Bool) (x0:Int) (x1:Int) (x2:Int):(Option (Bool×Unit)):=Option.bind (c8 ()) fun y0=>cond (ilt x2 0) (some (y0.1,())) (cond (ilt 17 x2) (some (y0.1,())) (Option.bind (c17 (x0,())) fun y1=>Option.bind (c17 (x1,())) fun y2=>cond (inB x2 18) (cond (okS (1+(List.length y1.1))) (cond (okS ((List.length ([40]++y1.1))+1)) (cond (okS ((List.length (([40]++y1.1)++[41]))+(List.length (α:=UInt8) (List.getD [[124,124],[38,38],[124],[94],[38],[61,61],[33,61],[60],[62],[60,61],[62,61],[60,60],[62,62],[43],[45],[42],[47],[37]] (Int.toNat x2) [])))) (cond (okS ((List.length ((([40]++y1.1)++[41])++(List.getD [[124,124],[38,38],[124],[94],[38],[61,61],[33,61],[60],[62],[60,61],[62,61],[60,60],[62,62],[43],[45],[42],[47],[37]] (Int.toNat x2) [])))+1)) (cond (okS ((List.length (((([40]++y1.1)++[41])++(List.getD [[124,124],[38,38],[124],[94],[38],[61,61],[33,61],[60],[62],[60,61],[62,61],[60,60],[62,62],[43],[45],[42],[47],[37]] (Int.toNat x2) []))++[40]))+(List.length y2.1))) (cond (okS ((List.length ((((([40]++y1.1)++[41])++(List.getD [[124,124],[38,38],[124],[94],[38],[61,61],[33,61],[60],[62],[60,61],[62,61],[60,60],[62,62],[43],[45],[42],[47],[37]] (Int.toNat x2) []))++[40])++y2.1))+1)) (Option.bind (c18 ((((((([40]++y1.1)++[41])++(List.getD [[124,124],[38,38],[124],[94],[38],[61,61],[33,61],[60],[62],[60,61],[62,61],[60,60],[62,62],[43],[45],[42],[47],[37]] (Int.toNat x2) []))++[40])++y2.1)++[41]),())) fun y3=>Option.bind (c19 ((List.getD [[124,124],[38,38],[124],[94],[38],[61,61],[33,61],[60],[62],[60,61],[62,61],[60,60],[62,62],[43],[45],[42],[47],[37]] (Int.toNat x2) []),((zM .i64 x0),((zM .i64 x1),())))) fun y4=>cond (seq (List.getD [[124,124],[38,38],[124],[94],[38],[61,61],[33,61],[60],[62],[60,61],[62,61],[60,60],[62,62],[43],[45],[42],[47],[37]] (Int.toNat x2) []) [124,124]) (cond (ine x0 0) (cond (seq (List.getD [[124,124],[38,38],[124],[94],[38],[61,61],[33,61],[60],[62],[60,61],[62,61],[60,60],[62,62],[43],[45],[42],[47],[37]] (Int.toNat x2) []) [38,38]) (cond (ieq x0 0) (cond (ine 0 0) (cond y0.1 (some ((ieq y3.1 (isub .i64 (Neg.neg 1000) 0)),())) (some (false,()))) (cond y0.1 (some ((ieq y3.1 0),())) (some (false,())))) (cond (ine 0 0) (cond y0.1 (some ((ieq y3.1 (isub .i64 (Neg.neg 1000) 0)),())) (some (false,()))) (cond y0.1 (some ((ieq y3.1 1),())) (some (false,()))))) (cond (ine 0 0) (cond y0.1 (some ((ieq y3.1 (isub .i64 (Neg.neg 1000) 0)),())) (some (false,()))) (cond y0.1 (some ((ieq y3.1 1),())) (some (false,()))))) (cond (seq (List.getD [[124,124],[38,38],[124],[94],[38],[61,61],[33,61],[60],[62],[60,61],[62,61],[60,60],[62,62],[43],[45],[42],[47],[37]] (Int.toNat x2) []) [38,38]) (cond (ieq x0 0) (cond (ine 0 0) (cond y0.1 (some ((ieq y3.1 (isub .i64 (Neg.neg 1000) 0)),())) (some (false,()))) (cond y0.1 (some ((ieq y3.1 0),())) (some (false,())))) (cond (ine y4.2.1 0) (cond y0.1 (some ((ieq y3.1 (isub .i64 (Neg.neg 1000) y4.2.1)),())) (some (false,()))) (cond y0.1 (some ((ieq y3.1 y4.1),())) (some (false,()))))) (cond (ine y4.2.1 0) (cond y0.1 (some ((ieq y3.1 (isub .i64 (Neg.neg 1000) y4.2.1)),())) (some (false,()))) (cond y0.1 (some ((ieq y3.1 y4.1),())) (some (false,())))))) (cond (seq (List.getD [[124,124],[38,38],[124],[94],[38],[61,61],[33,61],[60],[62],[60,61],[62,61],[60,60],[62,62],[43],[45],[42],[47],[37]] (Int.toNat x2) []) [38,38]) (cond (ieq x0 0) (cond (ine 0 0) (cond y0.1 (some ((ieq y3.1 (isub .i64 (Neg.neg 1000) 0)),())) (some (false,()))) (cond y0.1 (some ((ieq y3.1 0),())) (some (false,())))) (cond (ine y4.2.1 0) (cond y0.1 (some ((ieq y3.1 (isub .i64 (Neg.neg 1000) y4.2.1)),())) (some (false,()))) (cond y0.1 (some ((ieq y3.1 y4.1),())) (some (false,()))))) (cond (ine y4.2.1 0) (cond y0.1 (some ((ieq y3.1 (isub .i64 (Neg.neg 1000) y4.2.1)),())) (some (false,()))) (cond y0.1 (some ((ieq y3.1 y4.1),())) (some (false,())))))) (none)) (none)) (none)) (none)) (none)) (none)) (none)))
theorem eq5:@run5 = @sh5:=by kernel_rfl
theorem con45 (fu:Nat) :ConOk CC Tryd.prog 45 ⟨as45,rs45,fun x=>sh45 fu (fun _=>false) x.1⟩:=
 zr (c:=⟨as45,rs45,fun x=>sh45 fu (fun _=>false) x.1⟩) (syn:=syn) (fu:=fu) (d:=2) (inl:=zA []) (orc:=zA []) (orr:=zA []) (orp:=zA []) (pf:=hasN []) (rf:=hasN []) zl CCok mixed (fun g=>(zH (α:=Con UU) (l:=[]) g).symm) (fun g=>(zH (α:=CR UU) (l:=[]) g).symm) (zC) (zC) (zC) (zC) fdok45 (by show 1<=4; decide) (zd rfl) (fun nf x=>by show run45 fu nf x.1=_; rw [eq45]; rfl)
theorem con8 (fu:Nat) (c18:zJ as18->Option (zJ rs18)) (h18:ConOk CC Tryd.prog 18 ⟨as18,rs18,c18⟩):ConOk CC Tryd.prog 8 ⟨as8,rs8,fun x=>sh8 fu c18 (fun _=>false)⟩:=
 zr (c:=⟨as8,rs8,fun x=>sh8 fu c18 (fun _=>false)⟩) (syn:=syn) (fu:=fu) (d:=2) (inl:=zA []) (orc:=zA [(18,(⟨as18,rs18,c18⟩:Con UU))]) (orr:=zA []) (orp:=zA []) (pf:=hasN [18]) (rf:=hasN []) zl CCok mixed (fun g=>(zH (α:=Con UU) (l:=[(18,(⟨as18,rs18,c18⟩:Con UU))]) g).symm) (fun g=>(zH (α:=CR UU) (l:=[]) g).symm) (zC) (zE (OrcOk.of ⟨zMK,h18⟩ rfl) (zC)) (zC) (zC) fdok8 (by show 0<=61; decide) (zd rfl) (fun nf x=>by show run8 fu c18 nf=_; rw [eq8]; rfl)
theorem con5 (fu:Nat) (c8:zJ as8->Option (zJ rs8)) (h8:ConOk CC Tryd.prog 8 ⟨as8,rs8,c8⟩) (c17:zJ as17->Option (zJ rs17)) (h17:ConOk CC Tryd.prog 17 ⟨as17,rs17,c17⟩) (c18:zJ as18->Option (zJ rs18)) (h18:ConOk CC Tryd.prog 18 ⟨as18,rs18,c18⟩) (c19:zJ as19->Option (zJ rs19)) (h19:ConOk CC Tryd.prog 19 ⟨as19,rs19,c19⟩):ConOk CC Tryd.prog 5 ⟨as5,rs5,fun x=>sh5 fu c8 c17 c18 c19 (fun _=>false) x.1 x.2.1 x.2.2.1⟩:=
 zr (c:=⟨as5,rs5,fun x=>sh5 fu c8 c17 c18 c19 (fun _=>false) x.1 x.2.1 x.2.2.1⟩) (syn:=syn) (fu:=fu) (d:=2) (inl:=zA []) (orc:=zA [(8,(⟨as8,rs8,c8⟩:Con UU)),(17,(⟨as17,rs17,c17⟩:Con UU)),(18,(⟨as18,rs18,c18⟩:Con UU)),(19,(⟨as19,rs19,c19⟩:Con UU))]) (orr:=zA []) (orp:=zA []) (pf:=hasN [8,17,18,19]) (rf:=hasN []) zl CCok mixed (fun g=>(zH (α:=Con UU) (l:=[(8,(⟨as8,rs8,c8⟩:Con UU)),(17,(⟨as17,rs17,c17⟩:Con UU)),(18,(⟨as18,rs18,c18⟩:Con UU)),(19,(⟨as19,rs19,c19⟩:Con UU))]) g).symm) (fun g=>(zH (α:=CR UU) (l:=[]) g).symm) (zC) (zE (OrcOk.of ⟨code8,h8⟩ rfl) (zE (OrcOk.of ⟨code17,h17⟩ rfl) (zE (OrcOk.of ⟨zMK,h18⟩ rfl) (zE (OrcOk.of ⟨code19,h19⟩ rfl) (zC))))) (zC) (zC) fdok5 (by show 3<=78; decide) (zd rfl) (fun nf x=>by show run5 fu c8 c17 c18 c19 nf x.1 x.2.1 x.2.2.1=_; rw [eq5]; rfl)
end
section
open Go.Al Go.Den
noncomputable def c57:zB ([.str]:LK)->DD (zB ([.bool]:LK)):=mD (sh57 0)
theorem ok57:CPOk CC Tryd.prog syn 57 (cD ([.str]:LK) ([.bool]:LK) c57):=con57 0
noncomputable def c59 (fu:Nat):zB ([]:LK)->DD (zB ([.int .i64]:LK)):=mD (sh59 fu c56)
theorem ok59 (fu:Nat):CPOk CC Tryd.prog syn 59 (cD ([]:LK) ([.int .i64]:LK) (c59 fu)):=con59 fu c56 ok56
noncomputable def c60 (fu:Nat):zB ([]:LK)->DD (zB ([.int .i64]:LK)):=mD (sh60 fu c44 c56)
theorem ok60 (fu:Nat):CPOk CC Tryd.prog syn 60 (cD ([]:LK) ([.int .i64]:LK) (c60 fu)):=con60 fu c44 ok44 c56 ok56
noncomputable def c61 (fu:Nat):zB ([.int .u8]:LK)->DD (zB ([.int .i64]:LK)):=mD (sh61 fu c56)
theorem ok61 (fu:Nat):CPOk CC Tryd.prog syn 61 (cD ([.int .u8]:LK) ([.int .i64]:LK) (c61 fu)):=con61 fu c56 ok56
noncomputable def c62 (fu:Nat):zB ([]:LK)->DD (zB ([.int .i64]:LK)):=mD (sh62 fu c57)
theorem ok62 (fu:Nat):CPOk CC Tryd.prog syn 62 (cD ([]:LK) ([.int .i64]:LK) (c62 fu)):=con62 fu c57 ok57
noncomputable def c30 (fu:Nat):zB ([]:LK)->DD (zB ([.int .i64,.int .i64]:LK)):=mD (sh30 fu c57 (c59 fu) (c60 fu) (c61 fu) (c62 fu))
theorem ok30 (fu:Nat):CPOk CC Tryd.prog syn 30 (cD ([]:LK) ([.int .i64,.int .i64]:LK) (c30 fu)):=con30 fu c57 ok57 (c59 fu) (ok59 fu) (c60 fu) (ok60 fu) (c61 fu) (ok61 fu) (c62 fu) (ok62 fu)
noncomputable def c29 (fu:Nat):zB ([]:LK)->DD (zB ([.bool]:LK)):=mD (sh29 fu c44 c58 c56 c57)
theorem ok29 (fu:Nat):CPOk CC Tryd.prog syn 29 (cD ([]:LK) ([.bool]:LK) (c29 fu)):=con29 fu c44 ok44 c58 ok58 c56 ok56 c57 ok57
noncomputable def c10 (fu:Nat) (x:Int×Str×Unit):Option (List TokT×Unit):=sh10 fu c27 c28 (c29 fu) (c30 fu) (fun _=>false) x.1 x.2.1
theorem ok10 (fu:Nat):ConOk CC Tryd.prog 10 ⟨as10,rs10,c10 fu⟩:=con10 fu c27 ok27 c28 ok28 (c29 fu) (ok29 fu) (c30 fu) (ok30 fu)
noncomputable def c52:zB ([]:LK)->EE (zB ([.str]:LK)):=mE (sh52 0)
theorem ok52:CPOk CC Tryd.prog syn 52 (cE ([]:LK) ([.str]:LK) c52):=con52 0
noncomputable def c53:zB ([.str]:LK)->EE (zB ([]:LK)):=mE (sh53 0 c52)
theorem ok53:CPOk CC Tryd.prog syn 53 (cE ([.str]:LK) ([]:LK) c53):=con53 0 c52 ok52
structure RF where
 c26:zB ([.int .i64]:LK)->EE (zB ([.st TI.val]:LK))
 c51:zB ([.int .i64,.int .i64]:LK)->EE (zB ([.st TI.val]:LK))
 c54:zB ([.int .i64]:LK)->EE (zB ([.st TI.val]:LK))
 c73:zB ([.int .i64]:LK)->EE (zB ([.st TI.val]:LK))
 c82:zB ([.int .i64]:LK)->EE (zB ([.st TI.val]:LK))
structure RFok (r:RF):Prop where
 h26:CPOk CC Tryd.prog syn 26 (cE ([.int .i64]:LK) ([.st TI.val]:LK) r.c26)
 h51:CPOk CC Tryd.prog syn 51 (cE ([.int .i64,.int .i64]:LK) ([.st TI.val]:LK) r.c51)
 h54:CPOk CC Tryd.prog syn 54 (cE ([.int .i64]:LK) ([.st TI.val]:LK) r.c54)
 h73:CPOk CC Tryd.prog syn 73 (cE ([.int .i64]:LK) ([.st TI.val]:LK) r.c73)
 h82:CPOk CC Tryd.prog syn 82 (cE ([.int .i64]:LK) ([.st TI.val]:LK) r.c82)
noncomputable def rf (fu:Nat):Nat->RF
 | 0=>⟨fun _ _=>none,fun _ _=>none,fun _ _=>none,fun _ _=>none,fun _ _=>none⟩
 | n+1=>⟨mE (sh26 fu (rf fu n).c51 c52 c53 (rf fu n).c54),mE (sh51 fu c74 (rf fu n).c51 c52 c53 (rf fu n).c73),mE (sh54 fu (rf fu n).c26),mE (sh73 fu c52 c53 (rf fu n).c73 (rf fu n).c82),mE (sh82 fu (c13 fu) c15 c52 c53 (rf fu n).c54)⟩
theorem zBL {P:Program} {f:Nat} {aa rs:LK}:CPOk CC P syn f (cE aa rs fun _ _=>none):=fun x a R pan K r hr=>by
 replace hr:(none:Option R)=some r:=hr
 cases hr
theorem rfok (fu:Nat):∀ n,RFok (rf fu n)
 | 0=>⟨zBL,zBL,zBL,zBL,zBL⟩
 | n+1=>⟨con26 fu _ (rfok fu n).h51 c52 ok52 c53 ok53 _ (rfok fu n).h54,con51 fu c74 ok74 _ (rfok fu n).h51 c52 ok52 c53 ok53 _ (rfok fu n).h73,con54 fu _ (rfok fu n).h26,con73 fu c52 ok52 c53 ok53 _ (rfok fu n).h73 _ (rfok fu n).h82,con82 fu (c13 fu) (ok13 fu) c15 ok15 c52 ok52 c53 ok53 _ (rfok fu n).h54⟩
noncomputable def c23 (fu:Nat):zB ([.arr TI.tok,.fn 25]:LK)->Option (zB ([.bl TI.tok]:LK)):=mF (sh23 fu)
theorem ok23 (fu:Nat):CPOk CC Tryd.prog syn 23 (cF ([.arr TI.tok,.fn 25]:LK) ([.bl TI.tok]:LK) (c23 fu)):=con23 fu
noncomputable def c9 (fu n k:Nat) (x:List TokT×Unit):Option (Int×Int×Unit):=sh9 fu (cm k) (c23 fu) (rf fu n).c26 (fun _=>false) x.1
theorem ok9 (fu n k:Nat):ConOk CC Tryd.prog 9 ⟨as9,rs9,c9 fu n k⟩:=con9 fu (cm k) (cmok k) (c23 fu) (ok23 fu) _ (rfok fu n).h26
noncomputable def c18 (fu n k:Nat) (x:Str×Unit):Option (Int×Unit):=sh18 fu (c9 fu n k) (c10 fu) (fun _=>false) x.1
theorem ok18 (fu n k:Nat):ConOk CC Tryd.prog 18 ⟨as18,rs18,c18 fu n k⟩:=con18 fu (c9 fu n k) (ok9 fu n k) (c10 fu) (ok10 fu)
noncomputable def c8 (fu n k:Nat) (_:Unit):Option (Bool×Unit):=sh8 fu (c18 fu n k) (fun _=>false)
theorem ok8 (fu n k:Nat):ConOk CC Tryd.prog 8 ⟨as8,rs8,c8 fu n k⟩:=con8 fu (c18 fu n k) (ok18 fu n k)
end
end Go.Proofs.YtonnigoiklahdaaDoor
namespace Go.Den
section
open Go.Al
theorem wrp64 (n:Int) (h1:-9223372036854775808<=n) (h2:n<=9223372036854775807):IntKind.i64.wrap n=n:=IntWalk.i64_in n (by omega)
theorem yr (a b:Int) (h1:-9223372036854775808<=a+b) (h2:a+b<=9223372036854775807):iadd .i64 a b=a+b:=wrp64 _ h1 h2
theorem zA9 (a b:Int) (h1:-9223372036854775808<=a - b) (h2:a - b<=9223372036854775807):isub .i64 a b=a - b:=wrp64 _ h1 h2
theorem zGu {b n:Nat} (h:n * b<=140737488355328) (h2:n<=maxLen):okN b n=true:=by simp [okN,h,h2]
theorem kj (a b:Int):ieq a b=decide (a=b):=by unfold ieq; by_cases h:a=b <;> simp [h]
theorem zFt (a b:Int):ine a b = !decide (a=b):=by unfold ine; by_cases h:a=b <;> simp [h]
theorem qj (a b:List UInt8):seq a b=decide (a=b):=by unfold seq; by_cases h:a=b <;> simp [h]
theorem zGm {σ R:Type} {F:(σ->Option R)->σ->Option R} (P:Option R->Prop) (I:σ->Prop) (μ:σ->Nat) (step:∀ (rec:σ->Option R) s,I s->(∀ s',I s'->μ s' < μ s->P (rec s'))->P (F rec s)) :
 ∀ (n:Nat) (s:σ),I s->μ s < n->P (iter n F s):=by
 intro n
 induction n with
 | zero=>intro s _ h; omega
 | succ n ih=>
  intro s hs hn
  simp only [iter]
  exact step _ s hs fun s' hs' hlt=>ih s' hs' (by omega)
end
end Go.Den
namespace Go.Proofs.YtonnigoiklahdaaDoor
section
open Go.Al Go.Den
section
variable {ρ α:Type} {r t f:Option ρ} {a b:Int}
theorem ji (h1:a<=b->t=r) (h2:b < a->f=r):cond (ile a b) t f=r:=by
 unfold ile; by_cases h:a<=b
 · rw [decide_eq_true h]; exact h1 h
 · rw [decide_eq_false h]; exact h2 (by omega)
theorem xN (h1:a < b->t=r) (h2:b<=a->f=r):cond (ilt a b) t f=r:=by
 unfold ilt; by_cases h:a < b
 · rw [decide_eq_true h]; exact h1 h
 · rw [decide_eq_false h]; exact h2 (by omega)
theorem ym (h1:a=b->t=r) (h2:a≠b->f=r):cond (ieq a b) t f=r:=by
 rw [kj]; by_cases h:a=b
 · rw [decide_eq_true h]; exact h1 h
 · rw [decide_eq_false h]; exact h2 h
theorem qJ (h1:a≠b->t=r) (h2:a=b->f=r):cond (ine a b) t f=r:=by
 rw [zFt]; by_cases h:a=b
 · rw [decide_eq_true h]; exact h2 h
 · rw [decide_eq_false h]; exact h1 h
theorem zAM {c:Bool} (h1:c=true->t=r) (h2:c=false->f=r):cond c t f=r:=by
 cases c
 · exact h2 rfl
 · exact h1 rfl
theorem zHG {c:Bool} (h1:c=false->t=r) (h2:c=true->f=r):cond (!c) t f=r:=by
 cases c
 · exact h1 rfl
 · exact h2 rfl
theorem Q_nile (h1:b < a->t=r) (h2:a<=b->f=r):cond (!(ile a b)) t f=r:=by
 unfold ile; by_cases h:a<=b
 · rw [decide_eq_true h]; exact h2 h
 · rw [decide_eq_false h]; exact h1 (by omega)
theorem zI {c:Bool} (h:c=true) (h1:t=r):cond c t f=r:=by rw [h]; exact h1
theorem zD {c:Bool} (h:c=false) (h1:f=r):cond c t f=r:=by rw [h]; exact h1
theorem zP {x:Option α} {v:α} {F:α->Option ρ} (h:x=some v) (h2:F v=r):Option.bind x F=r:=by subst h; exact h2
end
theorem xB {a b:Int} {n:Nat} (h1:0<=a) (h2:a<=b) (h3:b<=n):inS a b n=true:=by unfold inS; simp [h1,h2,h3]
theorem xk {a:Int} {n:Nat} (h1:0<=a) (h2:a < n):inB a n=true:=by unfold inB; simp [h1,h2]
theorem zBg {a b:Int} (h:a<=b):ile a b=true:=decide_eq_true h
theorem xi {a b:Int} (h:a < b):ilt a b=true:=decide_eq_true h
theorem yS {a b:Int} (h:b<=a):ilt a b=false:=decide_eq_false (by omega)
theorem yi {a b:Int} (h:a=b):ieq a b=true:=by rw [kj]; exact decide_eq_true h
theorem yb {a b:Int} (h:a≠b):ieq a b=false:=by rw [kj]; exact decide_eq_false h
theorem jf {a b:Int} (h:a≠b):ine a b=true:=by rw [zFt,decide_eq_false h]; rfl
theorem zKU {a b:Int} (h:a=b):ine a b=false:=by rw [zFt,decide_eq_true h]; rfl
def zHV:List Str->Str->Option (Bool×Unit)
 | [],_=>some (false,())
 | l::r,x=>cond (seq x l) (some (true,())) (zHV r x)
theorem zIh:∀ (l:List Str) (x:Str),zHV l x=some (l.contains x,())
 | [],x=>rfl
 | a::r,x=>by
  unfold zHV
  rw [zIh r x]
  unfold seq
  simp only [List.contains_cons]
  cases (x == a) <;> rfl
def suf41:List Str:=[[],[],[117],[117],[85],[85],[108],[108],[108,117],[117,108],[108,85],[85,108],[76],[76],[76,117],[117,76],[76,85],[85,76],[108,108],[108,108],[108,108,117],[117,108,108],[108,108,85],[85,108,108],[76,76],[76,76],[76,76,117],[117,76,76],[76,76,85],[85,76,76]]
def suf43:List Str:=[[],[117],[85],[108],[76],[108,108],[76,76],[117,108],[117,76],[117,108,108],[117,76,76],[85,108],[85,76],[85,108,108],[85,76,76],[108,117],[108,85],[76,117],[76,85],[108,108,117],[108,108,85],[76,76,117],[76,76,85]]
def zE8 (x:Str):Bool:=suf43.contains x
theorem zKa (x:Str):sh41 20 (fun _=>false) x=zHV suf41 x:=by kernel_rfl
theorem sub_41:(suf41.all fun l=>suf43.contains l)=true:=by kernel_rfl
theorem sub_43:(suf43.all fun l=>suf41.contains l)=true:=by kernel_rfl
theorem c41_eq (x:Str):c41 (x,())=some (zE8 x,()):=by
 refine (zKa x).trans ((zIh _ x).trans ?_)
 have:suf41.contains x=zE8 x:=by
  rw [Bool.eq_iff_iff]
  unfold zE8
  simp only [List.contains_iff_mem]
  exact ⟨fun h=>by simpa using List.all_eq_true.1 sub_41 x h,fun h=>by simpa using List.all_eq_true.1 sub_43 x h⟩
 rw [this]
def digN (n:Nat):Nat:=if 48<=n/\n<=57 then n - 48 else if 97<=n/\n<=102 then n - 87 else if 65<=n/\n<=70 then n - 55 else 16
def d39 (n:Int):Option (Int×Unit):=sh39 0 (fun _=>false) n
theorem zO4:((List.range 256).all fun n=>decide (d39 (n:Int)=some ((digN n:Int),())))=true:=by kernel_rfl
theorem c39_eq (c:UInt8):c39 ((c.toNat:Int),())=some ((digN c.toNat:Int),()):=by
 have h:decide (d39 (c.toNat:Int)=some ((digN c.toNat:Int),()))=true:=List.all_eq_true.1 zO4 c.toNat (List.mem_range.2 c.toNat_lt)
 have h2:=of_decide_eq_true h
 exact h2
def numG (b:Nat):Nat->Str->Option (Nat×Str)
 | n,[]=>some (n,[])
 | n,c::r=>if b<=digN c.toNat then some (n,c::r) else if 9223372036854775808<=n * b+digN c.toNat then none else numG b (n * b+digN c.toNat) r
def numR (b:Nat) (t:Str):Int×Int×Unit:=
 match numG b 0 t with
 | none=>(0,91,())
 | some (n,r)=>if r.length=t.length then (0,91,()) else if zE8 r then ((n:Int),0,()) else (0,91,())
end
section
open Go.Al Go.Den
theorem zK4 (s:Str) (k:Nat) (h:k < s.length):zK s (k:Int)=((s[k].toNat:Nat):Int):=by
 unfold zK
 rw [Int.toNat_natCast,List.getD_eq_getElem?_getD,List.getElem?_eq_getElem h]; rfl
theorem zI7 (s:Str) (k:Nat):cutL s (k:Int) (lenI s)=s.drop k:=by
 unfold cutL lenI
 rw [Int.toNat_natCast,Int.toNat_natCast,List.take_length]
theorem zO1 (n:Nat):digN n<=16:=by unfold digN; (repeat' split) <;> omega
noncomputable def goP (fu:Nat) (b:Int) (t:Str):Option (Int×Int×Unit):=
 iter fu (fun (rec1:((Int×(Int×PUnit))×PUnit)->Option (Int×(Int×PUnit))) (s1:((Int×(Int×PUnit))×PUnit))=>
  cond (ilt s1.1.2.1 (lenI t))
   (cond (inB s1.1.2.1 (List.length t))
    (Option.bind (c39 ((zK t s1.1.2.1),())) fun y0=>
     cond (ile b y0.1)
      (cond (ieq s1.1.2.1 0)
       (some (0,(91,())))
       (cond (inS s1.1.2.1 (lenI t) (List.length t))
        (Option.bind (c41 ((cutL t s1.1.2.1 (lenI t)),())) fun y1=>
         cond (!y1.1)
          (some (0,(91,())))
          (some ((zM .i64 s1.1.1),(0,()))))
        (none)))
      (Option.bind (c40 (s1.1.1,(b,()))) fun y1=>
       cond (ine y1.1 0)
        (some (0,(91,())))
        (cond (ile 9223372036854775808 y1.2.1)
         (some (0,(91,())))
         (cond (ile 9223372036854775808 (iadd .u64 y1.2.1 y0.1))
          (some (0,(91,())))
          (rec1 (((iadd .u64 y1.2.1 y0.1),((iadd .i64 s1.1.2.1 1),())),()))))))
    (none))
   (cond (ieq s1.1.2.1 0)
    (some (0,(91,())))
    (cond (inS s1.1.2.1 (lenI t) (List.length t))
     (Option.bind (c41 ((cutL t s1.1.2.1 (lenI t)),())) fun y0=>
      cond (!y0.1)
       (some (0,(91,())))
       (some ((zM .i64 s1.1.1),(0,()))))
     (none))))
  ((0,(0,())),())
theorem zNp {n:Int} (h0:0<=n) (h1:n < 18446744073709551616):IntKind.u64.wrap n=n:=by
 unfold IntKind.wrap
 simp only [IntKind.signed,IntKind.bits]
 simp
 omega
theorem zIg (fu:Nat) (b:Nat) (hb:b=8\/b=10\/b=16) (t:Str) (ht:t.length < 1000000) (hfu:t.length < fu):goP fu (b:Int) t=some (numR b t):=by
 unfold goP
 refine yz (fun s=>∃ n k:Nat,s=((((n:Int),((k:Int),())),()):(Int×Int×PUnit)×PUnit)/\k<=t.length/\n < 9223372036854775808/\numG b n (t.drop k)=numG b 0 t) (fun s=>t.length - s.1.2.1.toNat) ?_ fu _ ⟨0,0,rfl,Nat.zero_le _,by omega,rfl⟩ (by simp; omega)
 rintro rec s ⟨n,k,rfl,hk,hn,hg⟩ hrec
 dsimp only
 have fin:∀ hr:numG b n (t.drop k)=some (n,t.drop k),cond (ieq (k:Int) 0) (some ((0:Int),((91:Int),()))) (cond (inS (k:Int) (lenI t) (List.length t)) (Option.bind (c41 ((cutL t (k:Int) (lenI t)),())) fun y0=>cond (!y0.1) (some (0,(91,()))) (some ((zM .i64 (n:Int)),(0,())))) none)=some (numR b t):=fun hr=>by
  unfold numR
  rw [<- hg,hr]
  refine ym (fun h0=>?_) fun h0=>?_
  · obtain rfl:k=0:=by omega
    simp
  · refine zI (xB (by omega) (by show (k:Int)<=(t.length:Int); omega) (Int.le_refl _)) ?_
    rw [zI7]
    refine zP (c41_eq _) ?_
    have h1:¬ (t.drop k).length=t.length:=by rw [List.length_drop]; omega
    dsimp only
    rw [if_neg h1]
    refine zHG (fun h2=>?_) fun h2=>?_
    · rw [h2]; rfl
    · rw [h2,if_pos rfl]
      have:zM .i64 (n:Int)=n:=IntWalk.i64_in _ (by omega)
      rw [this]
 refine xN (fun h=>?_) fun h=>?_
 · have hlt:k < t.length:=by have:(k:Int) < (t.length:Int):=h; omega
   refine zI (xk (by omega) h) ?_
   rw [zK4 t k hlt]
   refine zP (c39_eq _) ?_
   dsimp only
   have hd:=zO1 t[k].toNat
   have hstep:numG b n (t.drop k)=if b<=digN t[k].toNat then some (n,t.drop k) else if 9223372036854775808<=n * b+digN t[k].toNat then none else numG b (n * b+digN t[k].toNat) (t.drop (k+1)):=by
    conv=>lhs; rw [List.drop_eq_getElem_cons hlt]
    rw [numG,<- List.drop_eq_getElem_cons hlt]
   generalize hdg:digN t[k].toNat=d at hd hstep ⊢
   refine ji (fun hbd=>?_) fun hbd=>?_
   · rw [if_pos (by omega)] at hstep
     exact fin hstep
   · rw [if_neg (by omega)] at hstep
     have h40:c40 ((n:Int),(b:Int),())=some (((n * b / 18446744073709551616:Nat):Int),((n * b % 18446744073709551616:Nat):Int),()):=by
      have:c40 ((n:Int),(b:Int),())=some ((((n:Int).toNat * (b:Int).toNat / 18446744073709551616:Nat):Int),(((n:Int).toNat * (b:Int).toNat % 18446744073709551616:Nat):Int),()):=if_pos ⟨by show (0:Int)<=n; omega,by show (n:Int) < _; omega,by show (0:Int)<=b; omega,by show (b:Int) < _; omega⟩
      rw [this,Int.toNat_natCast,Int.toNat_natCast]
     refine zP h40 ?_
     dsimp only
     have bad:9223372036854775808<=n * b+d->some ((0:Int),(91:Int),())=some (numR b t):=fun hbad=>by
      rw [if_pos hbad] at hstep
      unfold numR
      rw [<- hg,hstep]
     generalize n * b=m at hstep bad ⊢
     refine qJ (fun h1=>bad (by omega)) fun h1=>?_
     refine ji (fun h2=>bad (by omega)) fun h2=>?_
     have e6:((m % 18446744073709551616:Nat):Int)=(m:Int):=by omega
     rw [e6] at h2 ⊢
     have e3:iadd .u64 (m:Int) (d:Int)=(m:Int)+(d:Int):=zNp (by omega) (by omega)
     rw [e3]
     refine ji (fun h4=>bad (by omega)) fun h4=>?_
     rw [if_neg (by omega)] at hstep
     have e5:iadd .i64 (k:Int) 1=((k+1:Nat):Int):=by rw [yr _ _ (by omega) (by omega)]; omega
     rw [e5]
     exact hrec _ ⟨m+d,k+1,by push_cast; rfl,hlt,by omega,hstep.symm.trans hg⟩ (by dsimp only; omega)
 · obtain rfl:k=t.length:=by have:(t.length:Int)<=(k:Int):=h; omega
   refine fin ?_
   rw [List.drop_length]
   rfl
end
section
open Go.Al Go.Den
abbrev NR:=Option (Int×Int×Unit)
def zHM (g8 g10:NR) (x:Str):NR:=
 cond (ile (lenI (α:=UInt8) [48]) (lenI x)) (cond (inS 0 (lenI (α:=UInt8) [48]) (List.length x)) (cond (seq (cutL x 0 (lenI (α:=UInt8) [48])) [48]) g8 g10) none) g10
def zKY (g16 g8 g10:NR) (x:Str):NR:=
 cond (ile (lenI (α:=UInt8) [48,88]) (lenI x)) (cond (inS 0 (lenI (α:=UInt8) [48,88]) (List.length x)) (cond (seq (cutL x 0 (lenI (α:=UInt8) [48,88])) [48,88]) (cond (inS 2 (lenI x) (List.length x)) g16 none) (zHM g8 g10 x)) none) (zHM g8 g10 x)
def zGB (g16 g8 g10:NR) (x:Str):NR:=
 cond (ile (lenI (α:=UInt8) [48,120]) (lenI x)) (cond (inS 0 (lenI (α:=UInt8) [48,120]) (List.length x)) (cond (seq (cutL x 0 (lenI (α:=UInt8) [48,120])) [48,120]) (cond (inS 2 (lenI x) (List.length x)) g16 none) (zKY g16 g8 g10 x)) none) (zKY g16 g8 g10 x)
theorem zL5 (fu:Nat) (x:Str):c13 fu (x,())=zGB (goP fu 16 (cutL x 2 (lenI x))) (goP fu 8 x) (goP fu 10 x) x:=by kernel_rfl
def numS:Str->Int×Int×Unit
 | []=>numR 10 []
 | [a]=>if a=48 then numR 8 [a] else numR 10 [a]
 | a::b::r=>if a=48 then (if b=120\/b=88 then numR 16 r else numR 8 (a::b::r)) else numR 10 (a::b::r)
theorem zHD {a b:Str} (h:seq a b=true):a=b:=by rw [qj] at h; exact of_decide_eq_true h
theorem zHI {a b:Str} (h:seq a b=false):a≠b:=by rw [qj] at h; exact of_decide_eq_false h
theorem zKv (x:Str):zGB (some (numR 16 (x.drop 2))) (some (numR 8 x)) (some (numR 10 x)) x=some (numS x):=by
 match x with
 | []=>rfl
 | [a]=>
  show cond (seq [a] [48]) (some (numR 8 [a])) (some (numR 10 [a]))=_
  refine zAM (fun h=>?_) fun h=>?_
  · have:=zHD h
    injection this with e _
    rw [numS,if_pos e]
  · rw [numS,if_neg fun e=>zHI h (by rw [e])]
 | a::b::r=>
  have hl:lenI (a::b::r)=((r.length:Nat):Int)+2:=by show ((r.length+1+1:Nat):Int)=_; omega
  have hs:inS 2 (lenI (a::b::r)) (List.length (a::b::r))=true:=xB (by omega) (by omega) (Int.le_refl _)
  have hend:(a=48->b≠120/\b≠88)->zHM (some (numR 8 (a::b::r))) (some (numR 10 (a::b::r))) (a::b::r)=some (numS (a::b::r)):=fun hh=>by
   unfold zHM
   refine zI (zBg (by show (1:Int)<=_; omega)) ?_
   refine zI (xB (by omega) (by show (0:Int)<=1; omega) (by show (1:Int)<=((r.length+1+1:Nat):Int); omega)) ?_
   show cond (seq [a] [48]) _ _=_
   refine zAM (fun h=>?_) fun h=>?_
   · have:=zHD h
     injection this with e _
     rw [numS,if_pos e,if_neg fun e2=>by rcases e2 with e2 | e2; exact (hh e).1 e2; exact (hh e).2 e2]
   · rw [numS,if_neg fun e=>zHI h (by rw [e])]
  unfold zGB
  refine zI (zBg (by show (2:Int)<=_; omega)) ?_
  refine zI (xB (by omega) (by show (0:Int)<=2; omega) (by show (2:Int)<=((r.length+1+1:Nat):Int); omega)) ?_
  show cond (seq [a,b] [48,120]) _ _=_
  refine zAM (fun h=>?_) fun h=>?_
  · have:=zHD h
    injection this with e e1
    injection e1 with e1 _
    refine zI hs ?_
    rw [numS,if_pos e,if_pos (.inl e1)]; rfl
  unfold zKY
  refine zI (zBg (by show (2:Int)<=_; omega)) ?_
  refine zI (xB (by omega) (by show (0:Int)<=2; omega) (by show (2:Int)<=((r.length+1+1:Nat):Int); omega)) ?_
  show cond (seq [a,b] [48,88]) _ _=_
  refine zAM (fun h2=>?_) fun h2=>?_
  · have:=zHD h2
    injection this with e e1
    injection e1 with e1 _
    refine zI hs ?_
    rw [numS,if_pos e,if_pos (.inr e1)]; rfl
  exact hend fun e=>⟨fun e1=>zHI h (by rw [e,e1]),fun e1=>zHI h2 (by rw [e,e1])⟩
theorem c13_eq (fu:Nat) (x:Str) (hx:x.length < 1000000) (hfu:x.length < fu):c13 fu (x,())=some (numS x):=by
 rw [zL5]
 have h2:cutL x 2 (lenI x)=x.drop 2:=zI7 x 2
 rw [h2,show goP fu 16 (x.drop 2)=_ from zIg fu 16 (.inr (.inr rfl)) _ (by simp; omega) (by simp; omega),show goP fu 8 x=_ from zIg fu 8 (.inl rfl) _ hx hfu,show goP fu 10 x=_ from zIg fu 10 (.inr (.inl rfl)) _ hx hfu]
 exact zKv x
end
section
open Go.Al Go.Den
theorem k1:c18 60 60 60 ([49,32,43,32,50],())=some (3,()):=by kernel_rfl
theorem zKd:c8 60 60 60 ()=some (true,()):=by kernel_rfl
end
section
open Go.Al Go.Den
noncomputable def c16 (x:Str×Unit):Option (Int×Int×Unit):=sh16 0 (fun _=>false) x.1
def xM:NR:=some (0,(91,()))
def quo3 (a b c:UInt8):NR:=cond (ine (a.toNat:Int) 39) xM (cond (ine (c.toNat:Int) 39) xM (cond (ine (b.toNat:Int) 92) (some (zM .i64 (b.toNat:Int),(0,()))) xM))
theorem c15_3 (a b c:UInt8):c15 ([a,b,c],())=quo3 a b c:=by kernel_rfl
theorem c16_3 (a b c:UInt8):c16 ([a,b,c],())=quo3 a b c:=by
 have h:c16 ([a,b,c],())=cond (ine (a.toNat:Int) 39) xM (cond (ine (c.toNat:Int) 39) xM (cond (ine (b.toNat:Int) 92) (some (zM .i64 (b.toNat:Int),(0,()))) xM)):=by kernel_rfl
 exact h
def quo4 (a b d:UInt8) (e:NR):NR:=cond (ine (a.toNat:Int) 39) xM (cond (ine (d.toNat:Int) 39) xM (cond (ine (b.toNat:Int) 92) xM e))
def zHO (c:Int):NR:=
 Option.bind (c44 ([110,116,114,48,97,98,102,118],(c,()))) fun y0=>
  cond (ile 0 y0.1)
   (cond (inB y0.1 8)
    (some ((zM .i64 (zK [10,9,13,0,7,8,12,11] y0.1)),(0,())))
    (none))
   (Option.bind (c44 ([92,39,34,63],(c,()))) fun y1=>
    cond (ilt y1.1 0)
     (some (0,(91,())))
     (some ((zM .i64 c),(0,()))))
theorem c15_4 (a b c d:UInt8):c15 ([a,b,c,d],())=quo4 a b d (zHO (c.toNat:Int)):=by kernel_rfl
def zFX (c:Int):NR:=
 cond (ieq c 110) (some (10,(0,()))) (cond (ieq c 116) (some (9,(0,()))) (cond (ieq c 114) (some (13,(0,()))) (cond (ieq c 48) (some (0,(0,()))) (cond (ieq c 97) (some (7,(0,()))) (cond (ieq c 98) (some (8,(0,()))) (cond (ieq c 102) (some (12,(0,()))) (cond (ieq c 118) (some (11,(0,()))) (cond (ieq c 92) (some ((zM .i64 c),(0,()))) (cond (ieq c 39) (some ((zM .i64 c),(0,()))) (cond (ieq c 34) (some ((zM .i64 c),(0,()))) (cond (ieq c 63) (some ((zM .i64 c),(0,()))) (some (0,(91,()))))))))))))))
theorem c16_4 (a b c d:UInt8):c16 ([a,b,c,d],())=quo4 a b d (zFX (c.toNat:Int)):=by kernel_rfl
theorem zNz:((List.range 256).all fun n=>decide (zHO (n:Int)=zFX (n:Int)))=true:=by kernel_rfl
theorem esc_eq (c:UInt8):zHO (c.toNat:Int)=zFX (c.toNat:Int):=by
 have h:decide (zHO (c.toNat:Int)=zFX (c.toNat:Int))=true:=List.all_eq_true.1 zNz c.toNat (List.mem_range.2 c.toNat_lt)
 exact of_decide_eq_true h
theorem zNH (x:Str) (h:4 < x.length) (hx:x.length < 1000000):c15 (x,())=xM:=by
 show sh15 0 c44 (fun _=>false) x=xM
 unfold sh15
 have e1:isub .i64 (lenI x) 1=(x.length:Int) - 1:=zA9 _ _ (by show _<=(x.length:Int) - 1; omega) (by show (x.length:Int) - 1<=_; omega)
 have e2:lenI (cutL x 1 ((x.length:Int) - 1))=(x.length:Int) - 2:=by
  unfold cutL lenI
  rw [List.length_drop,List.length_take]
  omega
 rw [e1,e2]
 refine zD (yS (by show (3:Int)<=(x.length:Int); omega)) ?_
 refine zI (xk (by omega) (by omega)) ?_
 refine qJ (fun _=>rfl) fun _=>?_
 refine zI (xk (by omega) (by omega)) ?_
 refine qJ (fun _=>rfl) fun _=>?_
 refine zI (xB (by omega) (by omega) (by omega)) ?_
 refine zD (yb (by omega)) ?_
 exact zI (jf (by omega)) rfl
theorem zNL (x:Str) (h:4 < x.length):c16 (x,())=xM:=by
 show sh16 0 (fun _=>false) x=xM
 unfold sh16
 refine zD (yS (by show (3:Int)<=(x.length:Int); omega)) ?_
 exact zI (xi (by show (4:Int) < (x.length:Int); omega)) rfl
theorem quo_eq (x:Str) (hx:x.length < 1000000):c15 (x,())=c16 (x,())/\∃ y,c16 (x,())=some y:=by
 have d:∀ (c:Bool) (a b:NR),(∃ y,a=some y)->(∃ y,b=some y)->∃ y,cond c a b=some y:=fun c a b h1 h2=>by cases c <;> assumption
 have hb:∃ y,xM=some y:=⟨_,rfl⟩
 match x,hx with
 | [],_=>exact ⟨(show c15 ([],())=c16 ([],()) by kernel_rfl),_,(show c16 ([],())=xM by kernel_rfl)⟩
 | [a],_=>exact ⟨(show c15 ([a],())=c16 ([a],()) by kernel_rfl),_,(show c16 ([a],())=xM by kernel_rfl)⟩
 | [a,b],_=>exact ⟨(show c15 ([a,b],())=c16 ([a,b],()) by kernel_rfl),_,(show c16 ([a,b],())=xM by kernel_rfl)⟩
 | [a,b,c],_=>
  rw [c15_3,c16_3]
  exact ⟨rfl,d _ _ _ hb (d _ _ _ hb (d _ _ _ ⟨_,rfl⟩ hb))⟩
 | [a,b,c,e],_=>
  rw [c15_4,c16_4,esc_eq]
  refine ⟨rfl,d _ _ _ hb (d _ _ _ hb (d _ _ _ hb ?_))⟩
  unfold zFX
  repeat' (first | exact ⟨_,rfl⟩ | refine d _ _ _ ?_ ?_)
 | a::b::c::e::f::r,hx=>
  have h:4 < (a::b::c::e::f::r).length:=by simp only [List.length_cons]; omega
  rw [zNH _ h hx,zNL _ h]
  exact ⟨rfl,hb⟩
def c8t (_:Unit):Option (Bool×Unit):=some (true,())
theorem ok8t:ConOk CC Tryd.prog 8 ⟨as8,rs8,c8t⟩:=by
 refine (ok8 60 60 60).sub ?_
 intro u y hy
 obtain rfl:y=(true,()):=by injection hy with hy; exact hy.symm
 obtain rfl:u=():=rfl
 exact zKd
end
section
open Go.Al Go.Den
def hd:Str->Int
 | []=>0
 | c::_=>(c.toNat:Int)
def letP (z:Int):Prop:=z=95\/(97<=z/\z<=122)\/(65<=z/\z<=90)
def digP (z:Int):Prop:=48<=z/\z<=57
def expP (z:Int):Prop:=z=101\/z=69\/z=112\/z=80
instance (z:Int):Decidable (letP z):=by unfold letP; exact inferInstance
instance (z:Int):Decidable (digP z):=by unfold digP; exact inferInstance
instance (z:Int):Decidable (expP z):=by unfold expP; exact inferInstance
def jF:Str->Nat
 | []=>0
 | c::r=>if letP (c.toNat:Int)\/digP (c.toNat:Int) then jF r+1 else 0
def xt:Str->Nat
 | []=>0
 | c::r=>if letP (c.toNat:Int) then jF r+1 else 0
theorem zMu (r:Str):jF r=if letP (hd r)\/digP (hd r) then jF (r.drop 1)+1 else 0:=by
 cases r with
 | nil=>rfl
 | cons c r=>rfl
theorem zHi (r:Str):xt r=if letP (hd r) then jF (r.drop 1)+1 else 0:=by
 cases r with
 | nil=>rfl
 | cons c r=>rfl
theorem zKr {r:Str} (h:hd r≠0):∃ c q,r=c::q:=by
 cases r with
 | nil=>exact absurd rfl h
 | cons c q=>exact ⟨c,q,rfl⟩
theorem zIB:∀ r:Str,jF r<=r.length
 | []=>Nat.le_refl _
 | c::r=>by
  have:=zIB r
  unfold jF
  split <;> simp only [List.length_cons] <;> omega
theorem zM4:∀ r:Str,xt r<=r.length
 | []=>Nat.le_refl _
 | c::r=>by
  have:=zIB r
  show (if letP (c.toNat:Int) then jF r+1 else 0)<=_
  split <;> simp only [List.length_cons] <;> omega
def aldP (z:Int):Prop:=letP z\/digP z\/z=46
instance (z:Int):Decidable (aldP z):=by unfold aldP; exact inferInstance
def numT:Str->Nat
 | []=>0
 | [c]=>if aldP (c.toNat:Int) then 1 else 0
 | c::d::r=>if expP (c.toNat:Int)/\((d.toNat:Int)=43\/(d.toNat:Int)=45) then numT r+2 else if aldP (c.toNat:Int) then numT (d::r)+1 else 0
theorem zFk (r:Str):numT r=if expP (hd r)/\(hd (r.drop 1)=43\/hd (r.drop 1)=45) then numT (r.drop 2)+2 else if aldP (hd r) then numT (r.drop 1)+1 else 0:=by
 match r with
 | []=>rfl
 | [c]=>
  have h:¬ (expP (hd [c])/\(hd (([c]:Str).drop 1)=43\/hd (([c]:Str).drop 1)=45)):=fun h=>by
   rcases h.2 with h | h
   · exact absurd (show (0:Int)=43 from h) (by omega)
   · exact absurd (show (0:Int)=45 from h) (by omega)
  rw [if_neg h]
  rfl
 | c::d::r=>rfl
theorem zFu:∀ r:Str,numT r<=r.length
 | []=>Nat.le_refl _
 | [c]=>by unfold numT; split <;> simp only [List.length_cons,List.length_nil] <;> omega
 | c::d::r=>by
  have h1:=zFu r
  have h2:=zFu (d::r)
  unfold numT
  simp only [List.length_cons] at h2 ⊢
  split
  · omega
  · split <;> omega
def numL (r:Str):Nat:=if digP (hd r)\/(hd r=46/\digP (hd (r.drop 1))) then numT (r.drop 1)+1 else 0
theorem zOI (r:Str):numL r<=r.length:=by
 unfold numL
 split
 · rename_i h
   have h0:hd r≠0:=by unfold digP at h; omega
   obtain ⟨c,q,rfl⟩:=zKr h0
   have:=zFu q
   simp only [List.drop_succ_cons,List.drop_zero,List.length_cons]
   omega
 · omega
def quoT (q:Int):Nat->Str->Nat
 | _,[]=>0
 | n,[c]=>if (c.toNat:Int)=q then (if q=39/\n=1 then 0 else n+1) else 0
 | n,c::d::r=>if (c.toNat:Int)=q then (if q=39/\n=1 then 0 else n+1) else if (c.toNat:Int)=10 then 0 else if (c.toNat:Int)=92 then (if (d.toNat:Int)=10 then 0 else quoT q (n+2) r) else quoT q (n+1) (d::r)
theorem zOw (q:Int) (n:Nat) (r:Str) (hr:r≠[]):quoT q n r=if hd r=q then (if q=39/\n=1 then 0 else n+1) else if hd r=10 then 0 else if hd r=92 then (if hd (r.drop 1)=10 then 0 else quoT q (n+2) (r.drop 2)) else quoT q (n+1) (r.drop 1):=by
 match r,hr with
 | [c],_=>
  show (if (c.toNat:Int)=q then _ else 0)=if (c.toNat:Int)=q then _ else if (c.toNat:Int)=10 then 0 else if (c.toNat:Int)=92 then (if (0:Int)=10 then 0 else 0) else 0
  simp
 | c::d::r,_=>rfl
theorem zFv (q:Int):∀ (n:Nat) (r:Str),quoT q n r<=n+r.length
 | _,[]=>Nat.zero_le _
 | n,[c]=>by unfold quoT; simp only [List.length_cons,List.length_nil]; split; (split <;> omega); omega
 | n,c::d::r=>by
  have h1:=zFv q (n+2) r
  have h2:=zFv q (n+1) (d::r)
  unfold quoT
  simp only [List.length_cons] at h2 ⊢
  split
  · split <;> omega
  · split
    · omega
    · split
      · split <;> omega
      · omega
def quoL (q:Int) (r:Str):Nat:=if hd r=q then quoT q 1 (r.drop 1) else 0
theorem zJ9 (q:Int) (hq:q≠0) (r:Str):quoL q r<=r.length:=by
 unfold quoL
 split
 · rename_i h
   obtain ⟨c,p,rfl⟩:=zKr (r:=r) (by rw [h]; exact hq)
   have:=zFv q 1 p
   simp only [List.drop_succ_cons,List.drop_zero,List.length_cons]
   omega
 · omega
def zDi:List Str->Nat->Str->Nat
 | [],n,_=>n
 | t::l,n,r=>zDi l (if t.length<=n then n else if t.isPrefixOf r then t.length else n) r
def jo (r:Str):Nat:=zDi signsL 0 r
theorem zIS (r:Str):∀ (l:List Str) (n:Nat),n<=r.length->zDi l n r<=r.length
 | [],n,h=>h
 | t::l,n,h=>zIS r l _ (by
  split
  · exact h
  · split
    · rename_i hp; exact (List.isPrefixOf_iff_prefix.1 hp).length_le
    · exact h)
theorem zIe (r:Str):jo r<=r.length:=zIS r _ 0 (Nat.zero_le _)
def blaL (r:Str):Nat:=
 if hd r=32\/hd r=9\/hd r=11\/hd r=12\/hd r=13 then 1
 else if ([47,47]:Str).isPrefixOf r then (if Lib.indexByte r 10 < 0 then r.length else (Lib.indexByte r 10).toNat)
 else if ([47,42]:Str).isPrefixOf r then (if Lib.index (r.drop 2) [42,47] < 0 then 0 else (Lib.index (r.drop 2) [42,47]).toNat+4)
 else 0
def zq (r:Str):Int×Nat:=
 if hd r=10 then (7,1)
 else if 0 < xt r then (1,xt r)
 else if 0 < numL r then (2,numL r)
 else if 0 < quoL 34 r then (4,quoL 34 r)
 else if 0 < quoL 39 r then (3,quoL 39 r)
 else if 0 < jo r then (5,jo r)
 else (6,1)
theorem zG0 (P:Int×Nat->Prop) (r:Str) (h0:hd r=10->P (7,1)) (h1:0 < xt r->P (1,xt r)) (h2:0 < numL r->P (2,numL r)) (h3:0 < quoL 34 r->P (4,quoL 34 r)) (h4:0 < quoL 39 r->P (3,quoL 39 r)) (h5:0 < jo r->P (5,jo r)) (h6:P (6,1)):P (zq r):=by
 unfold zq
 split
 · rename_i h; exact h0 h
 split
 · rename_i h; exact h1 h
 split
 · rename_i h; exact h2 h
 split
 · rename_i h; exact h3 h
 split
 · rename_i h; exact h4 h
 split
 · rename_i h; exact h5 h
 · exact h6
theorem zAX (r:Str):0 < (zq r).2:=by
 refine zG0 (fun x=>0 < x.2) r (fun _=>?_) (fun h=>?_) (fun h=>?_) (fun h=>?_) (fun h=>?_) (fun h=>?_) ?_
 · show (0:Nat) < 1; omega
 · dsimp only; exact h
 · dsimp only; exact h
 · dsimp only; exact h
 · dsimp only; exact h
 · dsimp only; exact h
 · show (0:Nat) < 1; omega
theorem zIQ (r:Str) (hr:r≠[]):(zq r).2<=r.length:=by
 have h0:1<=r.length:=by cases r with
  | nil=>exact absurd rfl hr
  | cons c q=>simp
 refine zG0 (fun x=>x.2<=r.length) r (fun _=>?_) (fun h=>?_) (fun h=>?_) (fun h=>?_) (fun h=>?_) (fun h=>?_) ?_
 · show 1<=r.length; exact h0
 · dsimp only; exact zM4 r
 · dsimp only; exact zOI r
 · dsimp only; exact zJ9 34 (by omega) r
 · dsimp only; exact zJ9 39 (by omega) r
 · dsimp only; exact zIe r
 · show 1<=r.length; exact h0
def lexF (file:Int) (cs:List CharT):Nat->Str->Nat->Bool->List TokT
 | 0,_,_,_=>[]
 | f+1,r,i,b=>if r=[] then [] else if 0 < blaL r then lexF file cs f (r.drop (blaL r)) (i+blaL r) true
  else ⟨(zq r).1,r.take (zq r).2,file,(cs.getD i yX).fat,(cs.getD (i+(zq r).2 - 1) yX).fat+1,b⟩::lexF file cs f (r.drop (zq r).2) (i+(zq r).2) false
theorem zEo:∀ (s sub:List UInt8),0<=Lib.index s sub->Lib.index s sub+sub.length<=s.length
 | [],sub,h=>by
  unfold Lib.index at h ⊢
  cases sub with
  | nil=>simp
  | cons a l=>simp at h
 | b::l,sub,h=>by
  unfold Lib.index at h ⊢
  by_cases hp:sub.isPrefixOf (b::l)=true
  · rw [if_pos hp]
    have:=(List.isPrefixOf_iff_prefix.1 hp).length_le
    omega
  · rw [if_neg hp] at h ⊢
    by_cases h1:(Lib.index l sub == -1)=true
    · rw [if_pos h1] at h; omega
    · rw [if_neg h1] at h ⊢
      have h2:Lib.index l sub≠-1:=fun e=>h1 (by rw [e]; rfl)
      have h3:=Lib.index_ge l sub
      have h4:=zEo l sub (by omega)
      simp only [List.length_cons]
      omega
theorem zDZ:∀ (s:List UInt8) (c:UInt8),0<=Lib.indexByte s c->Lib.indexByte s c < s.length
 | [],c,h=>by unfold Lib.indexByte at h; omega
 | b::l,c,h=>by
  unfold Lib.indexByte at h ⊢
  by_cases hp:(b == c)=true
  · rw [if_pos hp]; simp only [List.length_cons]; omega
  · rw [if_neg hp] at h ⊢
    by_cases h1:(Lib.indexByte l c == -1)=true
    · rw [if_pos h1] at h; omega
    · rw [if_neg h1] at h ⊢
      have h2:Lib.indexByte l c≠-1:=fun e=>h1 (by rw [e]; rfl)
      have h3:=Lib.indexByte_ge l c
      have h4:=zDZ l c (by omega)
      simp only [List.length_cons]
      omega
theorem zF3 {s:List UInt8} {c:UInt8} (h:Lib.indexByte s c=0):s.head? = some c:=by
 cases s with
 | nil=>unfold Lib.indexByte at h; omega
 | cons b l=>
  unfold Lib.indexByte at h
  by_cases hp:(b == c)=true
  · have:=eq_of_beq hp; rw [this]; rfl
  · rw [if_neg hp] at h
    by_cases h1:(Lib.indexByte l c == -1)=true
    · rw [if_pos h1] at h; omega
    · rw [if_neg h1] at h
      have h2:Lib.indexByte l c≠-1:=fun e=>h1 (by rw [e]; rfl)
      have h3:=Lib.indexByte_ge l c
      omega
theorem zJt (r:Str):blaL r<=r.length:=by
 unfold blaL
 split
 · rename_i h
   obtain ⟨c,q,rfl⟩:=zKr (r:=r) (by omega)
   simp
 split
 · split
   · exact Nat.le_refl _
   · have:=zDZ r 10 (by omega)
     omega
 split
 · rename_i hp
   have h2:=(List.isPrefixOf_iff_prefix.1 hp).length_le
   have h3:(2:Nat)<=r.length:=h2
   split
   · omega
   · have:=zEo (r.drop 2) [42,47] (by omega)
     rw [List.length_drop] at this
     have e:(([42,47]:Str).length:Int)=2:=rfl
     rw [e] at this
     omega
 · omega
end
section
open Go.Al Go.Den
theorem zNG (s:Str) (j:Nat):kT s (j:Int)=hd (s.drop j):=by
 unfold kT
 split
 · rename_i h
   have hj:j < s.length:=by omega
   rw [zK,Int.toNat_natCast,List.drop_eq_getElem_cons hj,List.getD_eq_getElem?_getD,List.getElem?_eq_getElem hj]
   rfl
 · rename_i h
   rw [List.drop_eq_nil_of_le (by omega)]; rfl
theorem zBN {s:Str} {j:Nat} (h:hd (s.drop j)≠0):j < s.length:=by
 rcases Nat.lt_or_ge j s.length with h1 | h1
 · exact h1
 · rw [List.drop_eq_nil_of_le h1] at h; exact absurd rfl h
theorem zFz (r:Str):∃ c:UInt8,hd r=(c.toNat:Int):=by
 cases r with
 | nil=>exact ⟨0,rfl⟩
 | cons c q=>exact ⟨c,rfl⟩
theorem hd_nn (r:Str):0<=hd r:=by obtain ⟨c,h⟩:=zFz r; rw [h]; omega
theorem zBX {α:Type} (s:List α) (p:Nat):cutL s (p:Int) (lenI s)=s.drop p:=by
 unfold cutL lenI
 rw [Int.toNat_natCast,Int.toNat_natCast,List.take_length]
theorem zNs {α:Type} (s:List α) (n:Nat):cutL s 0 (n:Int)=s.take n:=by
 unfold cutL
 rw [Int.toNat_natCast]; rfl
abbrev RO (α:Type):=Option (Option ((RdT×Unit)×α))
theorem jS {β:Type} {s:Str} {p:Int} {v:β} {o:RO β} (h:o=some (some (((s,p,()),()),v))):outD s o=some (v,p):=by rw [h]; exact if_pos rfl
def sh62L (l:List Str) (fu:Nat) (c57:(Str×Unit)->Str->Int->(Option ((Bool×Unit)×Int))) (x:((Str×(Int×Unit))×Unit)) (a:Unit):(Option (Option (((Str×(Int×Unit))×Unit)×(Int×Unit)))):=iter fu (fun (rec1:((Int×(Int×Unit))×((Str×(Int×Unit))×Unit))->Option (Option (((Str×(Int×Unit))×Unit)×(Int×Unit)))) (s1:((Int×(Int×Unit))×((Str×(Int×Unit))×Unit)))=>cond (ilt s1.1.2.1 48) (cond (inB s1.1.2.1 48) (cond (ile (lenI (α:=UInt8) (List.getD l (Int.toNat s1.1.2.1) [])) s1.1.1) (rec1 ((s1.1.1,((iadd .i64 s1.1.2.1 1),())),((s1.2.1.1,(s1.2.1.2.1,())),()))) (Option.bind (c57 ((List.getD l (Int.toNat s1.1.2.1) []),()) s1.2.1.1 s1.2.1.2.1) fun y0=>cond (!y0.1.1) (rec1 ((s1.1.1,((iadd .i64 s1.1.2.1 1),())),((s1.2.1.1,(y0.2,())),()))) (rec1 (((lenI (α:=UInt8) (List.getD l (Int.toNat s1.1.2.1) [])),((iadd .i64 s1.1.2.1 1),())),((s1.2.1.1,(y0.2,())),()))))) (none)) (some (some (((s1.2.1.1,(s1.2.1.2.1,())),()),(s1.1.1,()))))) ((0,(0,())),((x.1.1,(x.1.2.1,())),()))
theorem sh62_L (fu:Nat) (c57:(Str×PUnit)->Str->Int->(Option ((Bool×PUnit)×Int))) (x:((Str×(Int×PUnit))×PUnit)) (a:PUnit):sh62 fu c57 x a=sh62L signsL fu c57 x a:=by kernel_rfl
section
variable {s:Str} {p k:Nat} {fu:Nat}
theorem e56 (hs:s.length<=1090000) (hp:p+k<=2000000):c56 ((k:Int),()) s (p:Int)=some (hd (s.drop (p+k)),()):=by
 have h:c56 ((k:Int),()) s (p:Int)=some (kT s ((p:Int)+(k:Int)),()):=if_pos ⟨by show (0:Int)<=p+k; omega,by show ((p:Int)+k) < _; omega,by omega⟩
 rw [h,<- Int.natCast_add,zNG]
theorem i1 (hk:k<=2000000):iadd .i64 (k:Int) 1=((k+1:Nat):Int):=by rw [yr _ _ (by omega) (by omega)]; omega
def expB:Str:=[101,69,112,80]
theorem zOu:((List.range 256).all fun n=>decide ((0<=Lib.indexByte expB (UInt8.ofNat n))↔expP (n:Int)))=true:=by kernel_rfl
theorem e44x (r:Str):∃ v:Int,c44 (expB,(hd r,()))=some (v,())/\(0<=v↔expP (hd r)):=by
 obtain ⟨c,hc⟩:=zFz r
 refine ⟨_,rfl,?_⟩
 have h:decide ((0<=Lib.indexByte expB (UInt8.ofNat c.toNat))↔expP (c.toNat:Int))=true:=List.all_eq_true.1 zOu c.toNat (List.mem_range.2 c.toNat_lt)
 have h2:=of_decide_eq_true h
 rw [hc]
 exact h2
variable (hs:s.length<=1090000) (hfu:s.length+100 < fu) (hp:p<=s.length)
include hs hfu hp
theorem e59:c59 fu () s (p:Int)=some ((((xt (s.drop p):Nat):Int),()),(p:Int)):=by
 refine jS (o:=sh59 fu c56 ((s,((p:Int),())),()) ()) ?_
 unfold sh59
 refine yz (fun st=>∃ k:Nat,st=((((k:Int),()),((s,((p:Int),())),())):(Int×PUnit)×(Str×Int×PUnit)×PUnit)/\p+k<=s.length/\xt (s.drop p)=k+(if k=0 then xt (s.drop (p+k)) else jF (s.drop (p+k)))) (fun st=>s.length - st.1.1.toNat) ?_ fu _ ⟨0,rfl,by omega,by simp⟩ (by dsimp only; omega)
 rintro rec st ⟨k,rfl,hk,hw⟩ hrec
 dsimp only
 have hc:c56 ((k:Int),()) s (p:Int)=some (hd (s.drop (p+k)),()):=e56 hs (by omega)
 have hz:=hd_nn (s.drop (p+k))
 have hstep:(if k=0 then xt (s.drop (p+k)) else jF (s.drop (p+k)))=if letP (hd (s.drop (p+k)))\/(0 < k/\digP (hd (s.drop (p+k)))) then jF (s.drop (p+k+1))+1 else 0:=by
  by_cases h0:k=0
  · subst h0
    rw [if_pos rfl,zHi,List.drop_drop]
    by_cases h1:letP (hd (s.drop (p+0)))
    · rw [if_pos h1,if_pos (.inl h1)]
    · rw [if_neg h1,if_neg (by rintro (h | ⟨h,_⟩); exact h1 h; omega)]
  · rw [if_neg h0,zMu,List.drop_drop]
    by_cases h1:letP (hd (s.drop (p+k)))\/digP (hd (s.drop (p+k)))
    · rw [if_pos h1,if_pos (by rcases h1 with h | h; exact .inl h; exact .inr ⟨by omega,h⟩)]
    · rw [if_neg h1,if_neg (by rintro (h | ⟨_,h⟩); exact h1 (.inl h); exact h1 (.inr h))]
 rw [hstep] at hw
 have hpos:hd (s.drop (p+k))≠0->p+k < s.length:=zBN
 generalize hd (s.drop (p+k))=z at hz hw hpos hc
 have go:(letP z\/(0 < k/\digP z))->rec (((iadd .i64 (k:Int) 1),()),((s,((p:Int),())),()))=some (some (((s,(p:Int),()),()),(((xt (s.drop p):Nat):Int),()))):=fun h=>by
  have h2:p+k < s.length:=hpos (by unfold letP digP at h; omega)
  rw [if_pos h] at hw
  rw [i1 (by omega)]
  exact hrec _ ⟨k+1,rfl,h2,by rw [if_neg (by omega),hw,Nat.add_assoc p k 1]; omega⟩ (by dsimp only; omega)
 have stop:¬ (letP z\/(0 < k/\digP z))->(some (some (((s,(p:Int),()),()),(((k:Nat):Int),()))):RO (Int×Unit))=some (some (((s,(p:Int),()),()),(((xt (s.drop p):Nat):Int),()))):=fun h=>by
  rw [if_neg h] at hw
  rw [hw]; rfl
 unfold letP digP at go stop
 refine zP hc ?_
 dsimp only
 repeat' (first
  | with_reducible exact hc
  | ((with_reducible refine go ?_); omega)
  | ((with_reducible refine stop ?_); omega)
  | (with_reducible refine ym (fun _=>?_) fun _=>?_)
  | (with_reducible refine ji (fun _=>?_) fun _=>?_)
  | (with_reducible refine xN (fun _=>?_) fun _=>?_)
  | ((with_reducible refine zP (v:=(z,())) ?_ ?_); rotate_left; dsimp only))
theorem zNo (hp1:p+1<=s.length) {r:RO (Int×Unit)} (hr:r=some (some (((s,(p:Int),()),()),(((numT (s.drop (p+1))+1:Nat):Int),())))) {F:((Int×PUnit)×(Str×Int×PUnit)×PUnit->RO (Int×Unit))->(Int×PUnit)×(Str×Int×PUnit)×PUnit->RO (Int×Unit)}
 (hF:∀ (k:Nat) (z w:Int) rec,c56 ((k:Int),()) s (p:Int)=some (z,())->c56 (((k+1:Nat):Int),()) s (p:Int)=some (w,())->1<=k->k<=1100000 ->
  ((expP z/\(w=43\/w=45))->rec (((((k+2:Nat):Int)),()),((s,((p:Int),())),()))=r)->((¬ (expP z/\(w=43\/w=45))/\aldP z)->rec (((((k+1:Nat):Int)),()),((s,((p:Int),())),()))=r) ->
  ((¬ (expP z/\(w=43\/w=45))/\¬ aldP z)->(some (some (((s,(p:Int),()),()),((k:Int),()))):RO (Int×Unit))=r)->0<=z->z < 256->(∃ v:Int,c44 (expB,(z,()))=some (v,())/\(0<=v↔expP z))->F rec (((k:Int),()),((s,((p:Int),())),()))=r) :
 iter fu F ((1,()),((s,((p:Int),())),()))=r:=by
 obtain ⟨y,hy⟩:∃ y,r=some y:=⟨_,hr⟩
 rw [hy] at hF ⊢
 refine yz (fun st=>∃ k:Nat,st=((((k:Int),()),((s,((p:Int),())),())):(Int×PUnit)×(Str×Int×PUnit)×PUnit)/\1<=k/\p+k<=s.length/\numT (s.drop (p+1))+1=k+numT (s.drop (p+k))) (fun st=>s.length - st.1.1.toNat) ?_ fu _ ⟨1,rfl,by omega,by omega,by omega⟩ (by show s.length - (1:Int).toNat < fu; omega)
 rintro rec st ⟨k,rfl,hk1,hk,hw⟩ hrec
 rw [hy] at hr
 rw [zFk (s.drop (p+k)),List.drop_drop,List.drop_drop] at hw
 have hc:c56 ((k:Int),()) s (p:Int)=some (hd (s.drop (p+k)),()):=e56 hs (by omega)
 have hc1:c56 (((k+1:Nat):Int),()) s (p:Int)=some (hd (s.drop (p+k+1)),()):=by rw [e56 hs (by omega)]; rfl
 have hz:=hd_nn (s.drop (p+k))
 have hz2:hd (s.drop (p+k)) < 256:=by obtain ⟨c,h⟩:=zFz (s.drop (p+k)); rw [h]; have:=c.toNat_lt; omega
 have he:=e44x (s.drop (p+k))
 have hpos:hd (s.drop (p+k))≠0->p+k < s.length:=zBN
 have hpos1:hd (s.drop (p+k+1))≠0->p+k+1 < s.length:=zBN
 generalize hd (s.drop (p+k))=z at hz hz2 hw hpos hc he
 generalize hd (s.drop (p+k+1))=w at hw hpos1 hc1
 refine hF k z w rec hc hc1 hk1 (by omega) (fun h=>?_) (fun h=>?_) (fun h=>?_) hz hz2 he
 · rw [if_pos h] at hw
   have:=hpos1 (by omega)
   exact hrec _ ⟨k+2,rfl,by omega,by omega,by rw [<- Nat.add_assoc p k 2]; omega⟩ (by dsimp only; omega)
 · rw [if_neg h.1,if_pos h.2] at hw
   have:=hpos (by have:=h.2; unfold aldP letP digP at this; omega)
   exact hrec _ ⟨k+1,rfl,by omega,by omega,by rw [<- Nat.add_assoc p k 1]; omega⟩ (by dsimp only; omega)
 · rw [if_neg h.1,if_neg h.2] at hw
   rw [hr,hw]; rfl
theorem e60:c60 fu () s (p:Int)=some ((((numL (s.drop p):Nat):Int),()),(p:Int)):=by
 unfold c60 mD
 refine jS ?_
 show sh60 fu c44 c56 ((s,((p:Int),())),()) ()=(some (some (((s,(p:Int),()),()),(((numL (s.drop p):Nat):Int),()))):RO (Int×Unit))
 unfold sh60
 dsimp only
 have hc:c56 ((0:Int),()) s (p:Int)=some (hd (s.drop p),()):=e56 (k:=0) hs (by omega)
 have hc1:c56 ((1:Int),()) s (p:Int)=some (hd (s.drop (p+1)),()):=e56 (k:=1) hs (by omega)
 have hn:numL (s.drop p)=if digP (hd (s.drop p))\/(hd (s.drop p)=46/\digP (hd (s.drop (p+1)))) then numT (s.drop (p+1))+1 else 0:=by
  unfold numL
  rw [List.drop_drop]
 have hpos:hd (s.drop p)≠0->p < s.length:=zBN
 generalize hd (s.drop p)=z at hc hn hpos
 generalize hd (s.drop (p+1))=w at hc1 hn
 have no:¬ (digP z\/(z=46/\digP w))->(some (some (((s,(p:Int),()),()),((0:Int),()))):RO (Int×Unit))=some (some (((s,(p:Int),()),()),(((numL (s.drop p):Nat):Int),()))):=fun h=>by
  rw [hn,if_neg h]; rfl
 have go:∀ {F:((Int×PUnit)×(Str×Int×PUnit)×PUnit->RO (Int×Unit))->(Int×PUnit)×(Str×Int×PUnit)×PUnit->RO (Int×Unit)},(digP z\/(z=46/\digP w)) ->
  (∀ (k:Nat) (z w:Int) rec (r:RO (Int×Unit)),c56 ((k:Int),()) s (p:Int)=some (z,())->c56 (((k+1:Nat):Int),()) s (p:Int)=some (w,())->1<=k->k<=1100000 ->
   ((expP z/\(w=43\/w=45))->rec (((((k+2:Nat):Int)),()),((s,((p:Int),())),()))=r)->((¬ (expP z/\(w=43\/w=45))/\aldP z)->rec (((((k+1:Nat):Int)),()),((s,((p:Int),())),()))=r) ->
   ((¬ (expP z/\(w=43\/w=45))/\¬ aldP z)->(some (some (((s,(p:Int),()),()),((k:Int),()))):RO (Int×Unit))=r)->0<=z->z < 256->(∃ v:Int,c44 (expB,(z,()))=some (v,())/\(0<=v↔expP z))->F rec (((k:Int),()),((s,((p:Int),())),()))=r) ->
  iter fu F ((1,()),((s,((p:Int),())),()))=some (some (((s,(p:Int),()),()),(((numL (s.drop p):Nat):Int),()))):=fun h hF=>by
  have h1:=hpos (by unfold digP at h; omega)
  rw [hn,if_pos h]
  exact zNo hs hfu hp (by omega) rfl fun k z w rec a1 a2 a3 a4 a5 a6 a7 a8 a9 a10=>hF k z w rec _ a1 a2 a3 a4 a5 a6 a7 a8 a9 a10
 unfold digP at no go
 refine zP hc ?_
 dsimp only
 repeat' (first
  | with_reducible exact hc
  | with_reducible exact hc1
  | ((with_reducible refine no ?_); omega)
  | ((with_reducible refine go ?_ ?_); omega)
  | (with_reducible refine qJ (fun _=>?_) fun _=>?_)
  | (with_reducible refine Q_nile (fun _=>?_) fun _=>?_)
  | (with_reducible refine ji (fun _=>?_) fun _=>?_)
  | ((with_reducible refine zP (v:=(z,())) hc ?_); dsimp only)
  | ((with_reducible refine zP (v:=(w,())) hc1 ?_); dsimp only))
 all_goals
  clear no go hn hpos hc hc1
  intro k z w rec r hc hc1 hk1 hk2 go2 go1 stop hz hz2 he
  obtain ⟨v,he1,he2⟩:=he
  dsimp only
  have e2:iadd .i64 (k:Int) 2=((k+2:Nat):Int):=by rw [yr _ _ (by omega) (by omega)]; omega
  rw [i1 (k:=k) (by omega),e2]
  unfold expP aldP letP digP at *
  refine zP hc (zP hc1 (zP he1 ?_))
  dsimp only
  repeat' (first
   | ((with_reducible refine go2 ?_); omega)
   | ((with_reducible refine go1 ?_); omega)
   | ((with_reducible refine stop ?_); omega)
   | (with_reducible refine ym (fun _=>?_) fun _=>?_)
   | (with_reducible refine ji (fun _=>?_) fun _=>?_))
theorem e61 (q:Int):c61 fu (q,()) s (p:Int)=some ((((quoL q (s.drop p):Nat):Int),()),(p:Int)):=by
 unfold c61 mD
 refine jS ?_
 show sh61 fu c56 ((s,((p:Int),())),()) (q,())=(some (some (((s,(p:Int),()),()),(((quoL q (s.drop p):Nat):Int),()))):RO (Int×Unit))
 unfold sh61
 dsimp only
 have hc:c56 ((0:Int),()) s (p:Int)=some (hd (s.drop p),()):=e56 (k:=0) hs (by omega)
 have hn:quoL q (s.drop p)=if hd (s.drop p)=q then quoT q 1 (s.drop (p+1)) else 0:=by
  unfold quoL
  rw [List.drop_drop]
 have hend:s.length<=p->hd (s.drop p)=0/\quoT q 1 (s.drop (p+1))=0:=fun h=>by
  rw [List.drop_eq_nil_of_le h,List.drop_eq_nil_of_le (show s.length<=p+1 by omega)]
  exact ⟨rfl,rfl⟩
 generalize hd (s.drop p)=z at hc hn hend
 with_reducible refine ym (fun h=>?_) fun h=>?_
 · have h1:=hend (by have:(p:Int)=(s.length:Int):=h; omega)
   rw [hn,h1.2]
   split <;> rfl
 refine zP hc ?_
 dsimp only
 with_reducible refine qJ (fun h1=>?_) fun h1=>?_
 · rw [hn,if_neg h1]; rfl
 rw [hn,if_pos h1]
 refine yz (fun st=>∃ k:Nat,st=((((k:Int),()),((s,((p:Int),())),())):(Int×PUnit)×(Str×Int×PUnit)×PUnit)/\1<=k/\p+k<=s.length+1/\quoT q 1 (s.drop (p+1))=quoT q k (s.drop (p+k))) (fun st=>s.length+2 - st.1.1.toNat) ?_ fu _ ⟨1,rfl,by omega,by omega,rfl⟩ (by show s.length+2 - (1:Int).toNat < fu; omega)
 rintro rec st ⟨k,rfl,hk1,hk,hw⟩ hrec
 dsimp only
 rw [yr (p:Int) (k:Int) (by omega) (by omega),show lenI s=(s.length:Int) from rfl]
 with_reducible refine xN (fun h2=>?_) fun h2=>?_
 rotate_left
 · rw [hw,List.drop_eq_nil_of_le (by omega)]; rfl
 have hne:s.drop (p+k)≠[]:=fun e=>by
  have:=congrArg List.length e
  rw [List.length_drop,List.length_nil] at this
  omega
 rw [zOw q k _ hne,List.drop_drop,List.drop_drop] at hw
 have hc0:c56 ((k:Int),()) s (p:Int)=some (hd (s.drop (p+k)),()):=e56 hs (by omega)
 have hc1:c56 (((k+1:Nat):Int),()) s (p:Int)=some (hd (s.drop (p+k+1)),()):=by rw [e56 hs (by omega)]; rfl
 have hpos1:hd (s.drop (p+k+1))≠0->p+k+1 < s.length:=zBN
 generalize hd (s.drop (p+k))=y at hw hc0
 generalize hd (s.drop (p+k+1))=w at hw hc1 hpos1
 rw [i1 (k:=k) (by omega),i1 (k:=k+1) (by omega),yr (p:Int) ((k+1:Nat):Int) (by omega) (by omega)]
 refine zP hc0 ?_
 dsimp only
 with_reducible refine ym (fun a1=>?_) fun a1=>?_
 · rw [if_pos a1] at hw
   with_reducible refine ym (fun a2=>?_) fun a2=>?_
   · with_reducible refine ym (fun a3=>?_) fun a3=>?_
     · rw [if_pos ⟨a2,by omega⟩] at hw; rw [hw]; rfl
     · rw [if_neg fun h=>a3 (by omega)] at hw; rw [hw]
   · rw [if_neg fun h=>a2 h.1] at hw; rw [hw]
 rw [if_neg a1] at hw
 with_reducible refine ym (fun a2=>?_) fun a2=>?_
 · rw [if_pos a2] at hw; rw [hw]; rfl
 rw [if_neg a2] at hw
 with_reducible refine ym (fun a3=>?_) fun a3=>?_
 · rw [if_pos a3] at hw
   refine zP hc1 ?_
   dsimp only
   have go:¬ w=10->rec (((((k+1+1:Nat):Int)),()),((s,((p:Int),())),()))=some (some (((s,(p:Int),()),()),(((quoT q 1 (s.drop (p+1)):Nat):Int),()))):=fun a4=>by
    rw [if_neg a4] at hw
    exact hrec _ ⟨k+1+1,rfl,by omega,by omega,by rw [hw,<- Nat.add_assoc p (k+1) 1,<- Nat.add_assoc p k 1]⟩ (by dsimp only; omega)
   with_reducible refine ym (fun a4=>?_) fun a4=>?_
   · have h5:=hpos1 (by omega)
     rw [if_pos a4] at hw
     with_reducible refine xN (fun a5=>?_) fun a5=>?_
     · rw [hw]; rfl
     · exfalso; omega
   · exact go a4
 · rw [if_neg a3] at hw
   exact hrec _ ⟨k+1,rfl,by omega,by omega,by rw [hw,<- Nat.add_assoc p k 1]⟩ (by dsimp only; omega)
theorem e57 (t:Str):c57 (t,()) s (p:Int)=some ((t.isPrefixOf (s.drop p),()),(p:Int)):=by
 unfold c57 mD
 refine jS ?_
 show sh57 0 ((s,((p:Int),())),()) (t,())=(some (some (((s,(p:Int),()),()),(t.isPrefixOf (s.drop p),()))):RO (Bool×Unit))
 unfold sh57
 dsimp only
 rw [zBX]
 refine zI (xB (by omega) (by show (p:Int)<=(s.length:Int); omega) (Int.le_refl _)) ?_
 rw [show lenI t=(t.length:Int) from rfl,show lenI (s.drop p)=((s.drop p).length:Int) from rfl]
 with_reducible refine ji (fun h=>?_) fun h=>?_
 · refine zI (xB (by omega) (by omega) h) ?_
   rw [zNs]
   have e:seq ((s.drop p).take t.length) t=t.isPrefixOf (s.drop p):=by
    rw [qj,Bool.eq_iff_iff,decide_eq_true_iff,List.isPrefixOf_iff_prefix,List.prefix_iff_eq_take]
    exact eq_comm
   rw [e]
 · have e:t.isPrefixOf (s.drop p)=false:=by
    cases hh:t.isPrefixOf (s.drop p)
    · rfl
    · have:=(List.isPrefixOf_iff_prefix.1 hh).length_le
      omega
   rw [e]
theorem e62 (hfu2:60 < fu):c62 fu () s (p:Int)=some ((((jo (s.drop p):Nat):Int),()),(p:Int)):=by
 unfold c62 mD
 refine jS ?_
 show sh62 fu c57 ((s,((p:Int),())),()) ()=(some (some (((s,(p:Int),()),()),(((jo (s.drop p):Nat):Int),()))):RO (Int×Unit))
 refine (sh62_L fu c57 ((s,((p:Int),())),()) ()).trans ?_
 have hl:signsL.length=48:=by rfl
 have hle:jo (s.drop p)<=1090000:=by have:=zIe (s.drop p); rw [List.length_drop] at this; omega
 unfold jo at hle ⊢
 generalize signsL=l at hl hle ⊢
 unfold sh62L
 refine yz (fun st=>∃ n j:Nat,st=((((n:Int),((j:Int),())),((s,((p:Int),())),())):(Int×Int×PUnit)×(Str×Int×PUnit)×PUnit)/\j<=48/\zDi l 0 (s.drop p)=zDi (l.drop j) n (s.drop p)) (fun st=>48 - st.1.2.1.toNat) ?_ fu _ ⟨0,0,rfl,by omega,rfl⟩ (by show 48 - (0:Int).toNat < fu; omega)
 rintro rec st ⟨n,j,rfl,hj,hw⟩ hrec
 dsimp only
 with_reducible refine xN (fun h=>?_) fun h=>?_
 rotate_left
 · rw [hw,List.drop_eq_nil_of_le (by omega)]; rfl
 refine zI (xk (by omega) h) ?_
 have hlt:j < l.length:=by omega
 have hg:l.getD (Int.toNat (j:Int)) []=l[j]:=by rw [Int.toNat_natCast,List.getD_eq_getElem?_getD,List.getElem?_eq_getElem hlt]; rfl
 rw [hg,i1 (k:=j) (by omega),show lenI l[j]=((l[j].length:Nat):Int) from rfl]
 rw [List.drop_eq_getElem_cons hlt,zDi] at hw
 with_reducible refine ji (fun h1=>?_) fun h1=>?_
 · rw [if_pos (by omega)] at hw
   exact hrec _ ⟨n,j+1,rfl,by omega,hw⟩ (by dsimp only; omega)
 · rw [if_neg (by omega)] at hw
   refine zP (e57 hs hfu hp l[j]) ?_
   dsimp only
   refine zHG (fun h2=>?_) fun h2=>?_
   · rw [if_neg (by rw [h2]; exact Bool.false_ne_true)] at hw
     exact hrec _ ⟨n,j+1,rfl,by omega,hw⟩ (by dsimp only; omega)
   · rw [if_pos h2] at hw
     exact hrec _ ⟨l[j].length,j+1,rfl,by omega,hw⟩ (by dsimp only; omega)
end
end
section
open Go.Al Go.Den
theorem zIp {σ R:Type} (F:(σ->Option R)->Option R) (j:σ->Option R):zAa F j=F j:=by
 have h:True/\zAa F j=F j:=⟨trivial,rfl⟩
 exact h.2
theorem zLV {r:Str} (h:([47,47]:Str).isPrefixOf r=true) (h2:0<=Lib.indexByte r 10):0 < (Lib.indexByte r 10).toNat:=by
 have h3:Lib.indexByte r 10≠0:=fun e=>by
  have e3:=zF3 e
  have e4:=List.isPrefixOf_iff_prefix.1 h
  obtain ⟨t,rfl⟩:=e4
  have e5:some (47:UInt8)=some 10:=e3
  revert e5
  decide
 omega
section
variable {s:Str} {p:Nat} {fu:Nat} (hs:s.length<=1090000) (hfu:s.length+100 < fu) (hp:p<=s.length)
include hs hfu hp
theorem e29:c29 fu () s (p:Int)=some ((decide (0 < blaL (s.drop p)),()),((p+blaL (s.drop p):Nat):Int)):=by
 unfold c29 mD
 refine jS ?_
 show sh29 fu c44 c58 c56 c57 ((s,((p:Int),())),()) ()=(some (some (((s,((p+blaL (s.drop p):Nat):Int),()),()),(decide (0 < blaL (s.drop p)),()))):RO (Bool×Unit))
 have hb:=zJt (s.drop p)
 rw [List.length_drop] at hb
 obtain ⟨B,hB⟩:∃ B,B=blaL (s.drop p):=⟨_,rfl⟩
 rw [<- hB] at hb ⊢
 unfold blaL at hB
 unfold sh29
 simp only [zIp]
 have hc:c56 ((0:Int),()) s (p:Int)=some (hd (s.drop p),()):=e56 (k:=0) hs (by omega)
 have hpos:hd (s.drop p)≠0->p < s.length:=zBN
 refine zP hc ?_
 dsimp only
 have rest:¬ (hd (s.drop p)=32\/hd (s.drop p)=9\/hd (s.drop p)=11\/hd (s.drop p)=12\/hd (s.drop p)=13)->(Option.bind (c57 ([47,47],()) s (p:Int)) fun y0=>
  cond y0.1.1
   (cond (inS y0.2 (lenI s) (List.length s))
    (Option.bind (c44 ((cutL s y0.2 (lenI s)),(10,()))) fun y1=>
     cond (ilt y1.1 0)
      (some (Option.some (((s,((iadd .i64 y0.2 (isub .i64 (lenI s) y0.2)),())),()),(true,()))))
      (some (Option.some (((s,((iadd .i64 y0.2 y1.1),())),()),(true,())))))
    (none))
   (Option.bind (c57 ([47,42],()) s y0.2) fun y1=>
    cond (!y1.1.1)
     (some (Option.some (((s,(y1.2,())),()),(false,()))))
     (cond (inS (iadd .i64 y1.2 2) (lenI s) (List.length s))
      (Option.bind (c58 ((cutL s (iadd .i64 y1.2 2) (lenI s)),([42,47],()))) fun y2=>
       cond (ilt y2.1 0)
        (some (Option.some (((s,(y1.2,())),()),(false,()))))
        (some (Option.some (((s,((iadd .i64 y1.2 (iadd .i64 y2.1 4)),())),()),(true,())))))
      (none))))=(some (some (((s,((p+B:Nat):Int),()),()),(decide (0 < B),()))):RO (Bool×Unit)):=fun hn=>by
  rw [if_neg hn] at hB
  refine zP (e57 hs hfu hp [47,47]) ?_
  dsimp only
  refine zAM (fun h1=>?_) fun h1=>?_
  · rw [if_pos h1] at hB
    refine zI (xB (by omega) (by show (p:Int)<=(s.length:Int); omega) (Int.le_refl _)) ?_
    rw [zBX]
    have hpl:=(List.isPrefixOf_iff_prefix.1 h1).length_le
    rw [List.length_drop] at hpl
    have hpl2:2<=s.length - p:=hpl
    refine zP (show c44 (s.drop p,10,())=some (Lib.indexByte (s.drop p) 10,()) from rfl) ?_
    dsimp only
    have h3:=zLV h1
    with_reducible refine xN (fun h2=>?_) fun h2=>?_
    · rw [if_pos h2,List.length_drop] at hB
      have e1:isub .i64 (lenI s) (p:Int)=(s.length:Int) - p:=zA9 _ _ (by show _<=(s.length:Int) - p; omega) (by show (s.length:Int) - p<=_; omega)
      rw [e1,yr _ _ (by omega) (by omega),decide_eq_true (show 0 < B by omega)]
      have e2:(p:Int)+((s.length:Int) - p)=((p+B:Nat):Int):=by omega
      rw [e2]
    · rw [if_neg (by omega)] at hB
      have h4:=h3 h2
      rw [yr _ _ (by omega) (by omega),decide_eq_true (show 0 < B by omega)]
      have e2:(p:Int)+Lib.indexByte (s.drop p) 10=((p+B:Nat):Int):=by omega
      rw [e2]
  · rw [if_neg (by rw [h1]; exact Bool.false_ne_true)] at hB
    refine zP (e57 hs hfu hp [47,42]) ?_
    dsimp only
    refine zHG (fun h2=>?_) fun h2=>?_
    · rw [if_neg (by rw [h2]; exact Bool.false_ne_true)] at hB
      subst hB
      rfl
    rw [if_pos h2] at hB
    have hpl:=(List.isPrefixOf_iff_prefix.1 h2).length_le
    rw [List.length_drop] at hpl
    have hpl2:2<=s.length - p:=hpl
    have e1:iadd .i64 (p:Int) 2=((p+2:Nat):Int):=by rw [yr _ _ (by omega) (by omega)]; omega
    rw [e1]
    refine zI (xB (by omega) (by show ((p+2:Nat):Int)<=(s.length:Int); omega) (Int.le_refl _)) ?_
    rw [zBX,<- List.drop_drop]
    have hl2:((s.drop p).drop 2).length < 4294967281:=by rw [List.length_drop,List.length_drop]; omega
    have hix:=zEo ((s.drop p).drop 2) [42,47]
    rw [List.length_drop,List.length_drop] at hix
    have e5:(([42,47]:Str).length:Int)=2:=rfl
    rw [e5] at hix
    refine zP (show c58 ((s.drop p).drop 2,[42,47],())=some (Lib.index ((s.drop p).drop 2) [42,47],()) from if_pos hl2) ?_
    dsimp only
    generalize Lib.index ((s.drop p).drop 2) [42,47]=v at hB hix ⊢
    with_reducible refine xN (fun h3=>?_) fun h3=>?_
    · rw [if_pos h3] at hB
      subst hB
      rfl
    · rw [if_neg (by omega)] at hB
      have h6:=hix h3
      rw [yr v 4 (by omega) (by omega),yr _ _ (by omega) (by omega),decide_eq_true (show 0 < B by omega)]
      have e2:(p:Int)+(v+4)=((p+B:Nat):Int):=by omega
      rw [e2]
 have one:(hd (s.drop p)=32\/hd (s.drop p)=9\/hd (s.drop p)=11\/hd (s.drop p)=12\/hd (s.drop p)=13)->(some (some (((s,(iadd .i64 (p:Int) 1),()),()),(true,()))):RO (Bool×Unit))=some (some (((s,((p+B:Nat):Int),()),()),(decide (0 < B),()))):=fun h=>by
  rw [if_pos h] at hB
  subst hB
  rw [i1 (k:=p) (by omega)]; rfl
 generalize hd (s.drop p)=z at rest one
 with_reducible refine ym (fun h1=>?_) fun h1=>?_
 · exact one (by omega)
 with_reducible refine ym (fun h2=>?_) fun h2=>?_
 · exact one (by omega)
 with_reducible refine ym (fun h3=>?_) fun h3=>?_
 · exact one (by omega)
 with_reducible refine ym (fun h4=>?_) fun h4=>?_
 · exact one (by omega)
 with_reducible refine ym (fun h5=>?_) fun h5=>?_
 · exact one (by omega)
 · exact rest (by omega)
theorem e30:c30 fu () s (p:Int)=some (((zq (s.drop p)).1,(((zq (s.drop p)).2:Nat):Int),()),(p:Int)):=by
 unfold c30 mD
 refine jS ?_
 show sh30 fu c57 (c59 fu) (c60 fu) (c61 fu) (c62 fu) ((s,((p:Int),())),()) ()=(some (some (((s,(p:Int),()),()),((zq (s.drop p)).1,(((zq (s.drop p)).2:Nat):Int),()))):RO (Int×Int×Unit))
 unfold sh30
 dsimp only
 have h10:([10]:Str).isPrefixOf (s.drop p)=decide (hd (s.drop p)=10):=by
  cases s.drop p with
  | nil=>rfl
  | cons c q=>
   rw [Bool.eq_iff_iff,decide_eq_true_iff]
   show ((10 == c) && true)=true↔(c.toNat:Int)=10
   rw [Bool.and_true,beq_iff_eq]
   refine ⟨fun h=>by rw [<- h]; rfl,fun h=>?_⟩
   apply UInt8.toNat_inj.1
   show 10=c.toNat
   omega
 have h1:=e59 hs hfu hp
 have h2:=e60 hs hfu hp
 have h3:=e61 hs hfu hp 34
 have h4:=e61 hs hfu hp 39
 have h5:=e62 hs hfu hp (by omega)
 have h0:=e57 hs hfu hp [10]
 rw [h10] at h0
 unfold zq
 generalize xt (s.drop p)=w at h1 ⊢
 generalize numL (s.drop p)=n at h2 ⊢
 generalize quoL 34 (s.drop p)=q at h3 ⊢
 generalize quoL 39 (s.drop p)=q' at h4 ⊢
 generalize jo (s.drop p)=g at h5 ⊢
 generalize hd (s.drop p)=z at h0 ⊢
 refine zP h0 ?_
 dsimp only
 refine zAM (fun a=>?_) fun a=>?_
 · rw [if_pos (of_decide_eq_true a)]; rfl
 rw [if_neg (of_decide_eq_false a)]
 refine zP h1 ?_
 dsimp only
 with_reducible refine xN (fun a=>?_) fun a=>?_
 · rw [if_pos (by omega)]
 rw [if_neg (by omega)]
 refine zP h2 ?_
 dsimp only
 with_reducible refine xN (fun a=>?_) fun a=>?_
 · rw [if_pos (by omega)]
 rw [if_neg (by omega)]
 refine zP h3 ?_
 dsimp only
 with_reducible refine xN (fun a=>?_) fun a=>?_
 · rw [if_pos (by omega)]
 rw [if_neg (by omega)]
 refine zP h4 ?_
 dsimp only
 with_reducible refine xN (fun a=>?_) fun a=>?_
 · rw [if_pos (by omega)]
 rw [if_neg (by omega)]
 refine zP h5 ?_
 dsimp only
 with_reducible refine xN (fun a=>?_) fun a=>?_
 · rw [if_pos (by omega)]
 rw [if_neg (by omega)]
 rfl
end
end
section
open Go.Al Go.Den
def lvl:List (Str×Int)->Str->Int
 | [],_=>0
 | (t,n)::r,x=>if x=t then n else lvl r x
def zFF:List (Str×Int)->Str->Option (Int×Unit)
 | [],_=>some (0,())
 | (t,n)::r,x=>cond (seq x t) (some (n,())) (zFF r x)
theorem zGq:∀ (l:List (Str×Int)) (x:Str),zFF l x=some (lvl l x,())
 | [],x=>rfl
 | (t,n)::r,x=>by
  unfold zFF lvl
  rw [zGq r x,qj]
  by_cases h:x=t
  · rw [if_pos h,decide_eq_true h]; rfl
  · rw [if_neg h,decide_eq_false h]; rfl
def lvL:List (Str×Int):=[([124,124],1),([38,38],2),([124],3),([94],4),([38],5),([61,61],6),([33,61],6),([60],7),([62],7),([60,61],7),([62,61],7),([60,60],8),([62,62],8),([43],9),([45],9),([42],10),([47],10),([37],10)]
def lv (x:Str):Int:=lvl lvL x
theorem zMH (x:Str):c74 (x,())=zFF lvL x:=by kernel_rfl
theorem c74_eq (x:Str):c74 (x,())=some (lv x,()):=(zMH x).trans (zGq _ x)
def sg:List TokT->Str
 | []=>[]
 | t::_=>if t.kind=5 then t.text else []
abbrev PR:=VT×List TokT×Int
noncomputable def kR (t:TokT):Option (Int×Int):=
 if t.kind=2 then some ((numS t.text).1,(numS t.text).2.1)
 else if t.kind=3 then some (((c16 (t.text,())).getD (0,(91,()))).1,((c16 (t.text,())).getD (0,(91,()))).2.1)
 else if t.kind=1 then some (0,0)
 else none
def zCO (bin:Int->List TokT->Int->Option PR) (least:Int):Nat->VT->List TokT->Int->Option PR
 | 0,_,_,_=>none
 | k+1,x,l,b=>if lv (sg l) < least\/lv (sg l)=0 then some (x,l,b)
  else (bin (lv (sg l)+1) (l.drop 1) b).bind fun y=>zCO bin least k (.bin (sg l) x y.1) y.2.1 y.2.2
structure PF where
 cho:Nat->List TokT->Int->Option PR
 bin:Int->Nat->List TokT->Int->Option PR
 inn:Nat->List TokT->Int->Option PR
 un:Nat->List TokT->Int->Option PR
 at1:Nat->List TokT->Int->Option PR
noncomputable def hdA:List TokT->Int->Option PR
 | [],_=>none
 | t::r,b=>(kR t).bind fun v=>some (.num v.1,r,if b=0 then v.2 else b)
def isUn (s:Str):Prop:=s=[43]\/s=[45]\/s=[33]\/s=[126]
instance (s:Str):Decidable (isUn s):=by unfold isUn; exact inferInstance
noncomputable def pf:Nat->PF
 | 0=>⟨fun _ _ _=>none,fun _ _ _ _=>none,fun _ _ _=>none,fun _ _ _=>none,fun _ _ _=>none⟩
 | m+1=>⟨fun d l b=>((pf m).bin 1 d l b).bind fun c=>if sg c.2.1=[63] then ((pf m).inn d (c.2.1.drop 1) c.2.2).bind fun x=>if sg x.2.1=[58] then ((pf m).inn d (x.2.1.drop 1) x.2.2).bind fun y=>some (.cho c.1 x.1 y.1,y.2.1,y.2.2) else none else some c,
  fun n d l b=>((pf m).un d l b).bind fun x=>zCO (fun n l b=>(pf m).bin n d l b) n (x.2.1.length+1) x.1 x.2.1 x.2.2,
  fun d l b=>if d=60 then none else (pf m).cho (d+1) l b,
  fun d l b=>if isUn (sg l) then (if d=60 then none else ((pf m).un (d+1) (l.drop 1) b).bind fun x=>some (.un (sg l) x.1,x.2.1,x.2.2)) else (pf m).at1 d l b,
  fun d l b=>if sg l=[40] then ((pf m).inn d (l.drop 1) b).bind fun x=>if sg x.2.1=[41] then some (x.1,x.2.1.drop 1,x.2.2) else none
   else hdA l b⟩
def Out (nf:Bool) (l:List TokT) (o:Option PR) (run:Option ((VT×Unit)×ES)):Prop:=
 match o with
 | some y=>run=some ((y.1,()),((nf,y.2.1),false,y.2.2))/\y.2.1 <:+ l
 | none=>∃ x l' b',run=some ((x,()),((nf,l'),true,b'))
theorem zBJ (nf w:Bool) (l:List TokT) (b:Int):c52 () ((nf,l),w,b)=some ((sg l,()),((nf,l),w,b)):=by
 show outE (sh52 0 (((nf,l),(w,(b,()))),()) ())=_
 have h:sh52 0 (((nf,l),(w,(b,()))),()) ()=some (some ((((nf,l),(w,(b,()))),()),(sg l,()))):=by
  unfold sh52
  dsimp only
  cases l with
  | nil=>rfl
  | cons t r=>
   refine zD (yb (by show ((r.length+1:Nat):Int)≠0; omega)) ?_
   have hin:inB 0 (t::r).length=true:=xk (Int.le_refl _) (by show (0:Int) < ((r.length+1:Nat):Int); omega)
   refine zI hin ?_
   show cond (ine t.kind 5) _ _=_
   have es:sg (t::r)=if t.kind=5 then t.text else []:=rfl
   rw [es]
   refine qJ (fun h=>?_) fun h=>?_
   · rw [if_neg h]
   · rw [if_pos h]
     exact zI hin rfl
 rw [h]; rfl
theorem zAG (nf w:Bool) (l:List TokT) (b:Int) (s:Str) (h:sg l=s) (hl:l≠[]):c53 (s,()) ((nf,l),w,b)=some ((),((nf,l.drop 1),w,b)):=by
 show outE (sh53 0 c52 (((nf,l),(w,(b,()))),()) (s,()))=_
 have h2:sh53 0 c52 (((nf,l),(w,(b,()))),()) (s,())=some (some ((((nf,l.drop 1),(w,(b,()))),()),())):=by
  unfold sh53
  refine zP (zBJ nf w l b) ?_
  dsimp only
  have e:seq (sg l) s=true:=by rw [qj,decide_eq_true_iff]; exact h
  rw [e]
  refine zD rfl ?_
  cases l with
  | nil=>exact absurd rfl hl
  | cons t r=>
   refine zI (xB (by omega) (by show (1:Int)<=((r.length+1:Nat):Int); omega) (Int.le_refl _)) ?_
   have e2:cutL (t::r) 1 (lenI (t::r))=(t::r).drop 1:=zBX (t::r) 1
   rw [e2]
 rw [h2]; rfl
theorem zGO (nf w:Bool) (l:List TokT) (b:Int) (s:Str) (h:sg l≠s):c53 (s,()) ((nf,l),w,b)=some ((),((nf,l),true,b)):=by
 show outE (sh53 0 c52 (((nf,l),(w,(b,()))),()) (s,()))=_
 have h2:sh53 0 c52 (((nf,l),(w,(b,()))),()) (s,())=some (some ((((nf,l),(true,(b,()))),()),())):=by
  unfold sh53
  refine zP (zBJ nf w l b) ?_
  dsimp only
  have e:seq (sg l) s=false:=by rw [qj,decide_eq_false_iff_not]; exact h
  rw [e]
  exact zI rfl rfl
 rw [h2]; rfl
theorem zKC (nf w:Bool) (l:List TokT) (b:Int) (s:Str) (hs:s≠[]) (hw:w=true):∃ l',c53 (s,()) ((nf,l),w,b)=some ((),((nf,l'),true,b)):=by
 subst hw
 by_cases h:sg l=s
 · exact ⟨_,zAG nf true l b s h (fun e=>by subst e; exact hs h.symm)⟩
 · exact ⟨_,zGO nf true l b s h⟩
theorem zFf {l:List TokT} {s:Str} (h:sg l=s) (hs:s≠[]):l≠[]:=fun e=>by subst e; exact hs h.symm
theorem xx {α:Type} {l l':List α} (h:l' <:+ l):l'.drop 1 <:+ l:=(List.drop_suffix 1 l').trans h
theorem ju {l:List TokT} (h:l≠[]):(l.drop 1).length+1=l.length:=by
 cases l with
 | nil=>exact absurd rfl h
 | cons t r=>rfl
theorem zGN {β:Type} {l:Bool×List TokT} {w:Bool} {b:Int} {v:β} {o:Option (Option ((ExT×Unit)×β))} (h:o=some (some (((l,(w,(b,()))),()),v))):outE o=some (v,(l,w,b)):=by rw [h]; rfl
def wt (l:List TokT) (rank:Nat):Nat:=8 * l.length+rank
structure Reads (fu m:Nat) (nf:Bool) (l:List TokT):Prop where
 at1:wt l 1 < m->∀ (d:Nat) (b:Int),d<=60->Out nf l ((pf m).at1 d l b) ((rf fu m).c82 ((d:Int),()) ((nf,l),false,b))
 un:wt l 2 < m->∀ (d:Nat) (b:Int),d<=60->Out nf l ((pf m).un d l b) ((rf fu m).c73 ((d:Int),()) ((nf,l),false,b))
 bin:wt l 3 < m->∀ (n:Nat) (d:Nat) (b:Int),n<=11->d<=60->Out nf l ((pf m).bin (n:Int) d l b) ((rf fu m).c51 ((n:Int),(d:Int),()) ((nf,l),false,b))
 cho:wt l 4 < m->∀ (d:Nat) (b:Int),d<=60->Out nf l ((pf m).cho d l b) ((rf fu m).c26 ((d:Int),()) ((nf,l),false,b))
 inn:wt l 5 < m->∀ (d:Nat) (b:Int),d<=60->Out nf l ((pf m).inn d l b) ((rf fu m).c54 ((d:Int),()) ((nf,l),false,b))
theorem zGv (fu m:Nat) (nf:Bool) (l:List TokT) (d:Nat) (b:Int):(rf fu (m+1)).c54 ((d:Int),()) ((nf,l),true,b)=some ((.num 0,()),((nf,l),true,b)):=by
 show outE (sh54 fu (rf fu m).c26 (((nf,l),(true,(b,()))),()) ((d:Int),()))=_
 refine zGN ?_
 show sh54 fu (rf fu m).c26 (((nf,l),(true,(b,()))),()) ((d:Int),())=(some (some ((((nf,l),(true,(b,()))),()),(VT.num 0,()))):Option (Option ((ExT×Unit)×(VT×Unit))))
 unfold sh54
 dsimp only
 refine ym (fun _=>rfl) fun _=>?_
 exact zI rfl rfl
theorem zLZ {nf:Bool} {l l':List TokT} {x:VT} {b':Int} {run:Option ((VT×Unit)×ES)} (h:run=some ((x,()),((nf,l'),true,b'))):Out nf l none run:=⟨x,l',b',h⟩
theorem xg {nf:Bool} {l l':List TokT} {x:VT} {b':Int} {run:Option ((VT×Unit)×ES)} (h:run=some ((x,()),((nf,l'),false,b'))) (hs:l' <:+ l):Out nf l (some (x,l',b')) run:=⟨h,hs⟩
theorem zBP {α:Type} {l l':List α} (h:l' <:+ l):l'.length<=l.length:=h.length_le
theorem zM7 (fu m:Nat) (nf:Bool) (l:List TokT) (hc:wt l 4 < m->∀ (d:Nat) (b:Int),d<=60->Out nf l ((pf m).cho d l b) ((rf fu m).c26 ((d:Int),()) ((nf,l),false,b))) :
 wt l 5 < m+1->∀ (d:Nat) (b:Int),d<=60->Out nf l ((pf (m+1)).inn d l b) ((rf fu (m+1)).c54 ((d:Int),()) ((nf,l),false,b)):=fun hw d b hd=>by
 show Out nf l (if d=60 then none else (pf m).cho (d+1) l b) (outE (sh54 fu (rf fu m).c26 (((nf,l),(false,(b,()))),()) ((d:Int),())))
 by_cases h:d=60
 · rw [if_pos h]
   refine zLZ (x:=.num 0) (l':=l) (b':=b) (zGN ?_)
   show sh54 fu (rf fu m).c26 (((nf,l),(false,(b,()))),()) ((d:Int),())=(some (some ((((nf,l),(true,(b,()))),()),(VT.num 0,()))):Option (Option ((ExT×Unit)×(VT×Unit))))
   unfold sh54
   exact zI (yi (by show (d:Int)=60; omega)) rfl
 · rw [if_neg h]
   have hh:=hc (by unfold wt at *; omega) (d+1) b (by omega)
   have key:∀ v:(VT×Unit)×ES,(rf fu m).c26 ((((d+1:Nat):Int)),()) ((nf,l),false,b)=some v->outE (sh54 fu (rf fu m).c26 (((nf,l),(false,(b,()))),()) ((d:Int),()))=some v:=fun v hv=>by
    obtain ⟨⟨x,u⟩,⟨f1,l1⟩,w1,b1⟩:=v
    refine zGN ?_
    show sh54 fu (rf fu m).c26 (((nf,l),(false,(b,()))),()) ((d:Int),())=(some (some ((((f1,l1),(w1,(b1,()))),()),(x,()))):Option (Option ((ExT×Unit)×(VT×Unit))))
    unfold sh54
    refine zD (yb (by show (d:Int)≠60; omega)) ?_
    refine zD rfl ?_
    rw [i1 (k:=d) (by omega)]
    exact zP hv rfl
   revert hh
   generalize (pf m).cho (d+1) l b=o
   intro hh
   cases o with
   | none=>obtain ⟨x,l',b',hr⟩:=hh; exact ⟨x,l',b',key _ hr⟩
   | some y=>exact ⟨key _ hh.1,hh.2⟩
abbrev RE (α:Type):=Option (Option ((ExT×Unit)×α))
section
variable {nf:Bool} {l l1:List TokT} {o o1:Option PR} {α:Type}
theorem zf {c:Option α} {v:α} {F:α->RE (VT×Unit)} (h:c=some v) (h2:Out nf l o (outE (F v))):Out nf l o (outE (Option.bind c F)):=by subst h; exact h2
theorem zDG {c:Option α} {v:α} {F:α->RE (VT×Unit)} {r:Option ((VT×Unit)×ES)} (h:c=some v) (h2:outE (F v)=r):outE (Option.bind c F)=r:=by subst h; exact h2
theorem z7 {c:Bool} {t f:RE (VT×Unit)} (h:c=true) (h2:Out nf l o (outE t)):Out nf l o (outE (cond c t f)):=by subst h; exact h2
theorem zm {c:Bool} {t f:RE (VT×Unit)} (h:c=false) (h2:Out nf l o (outE f)):Out nf l o (outE (cond c t f)):=by subst h; exact h2
theorem zBC {run:Option ((VT×Unit)×ES)} {F:PR->Option PR} {G:(VT×Unit)×ES->RE (VT×Unit)} (h:Out nf l1 o1 run)
 (good:∀ y,o1=some y->y.2.1 <:+ l1->Out nf l (F y) (outE (G ((y.1,()),((nf,y.2.1),false,y.2.2)))))
 (bad:∀ x l' b',∃ x2 l2 b2,outE (G ((x,()),((nf,l'),true,b')))=some ((x2,()),((nf,l2),true,b2))):Out nf l (o1.bind F) (outE (Option.bind run G)):=by
 cases o1 with
 | none=>
  obtain ⟨x,l',b',rfl⟩:=h
  obtain ⟨x2,l2,b2,h2⟩:=bad x l' b'
  exact ⟨x2,l2,b2,h2⟩
 | some y=>
  obtain ⟨rfl,h2⟩:=h
  exact good y rfl h2
end
theorem xZ {a b:Str} (h:a=b):seq a b=true:=by rw [qj,decide_eq_true_iff]; exact h
theorem yc {a b:Str} (h:a≠b):seq a b=false:=by rw [qj,decide_eq_false_iff_not]; exact h
theorem zCq {c:Bool} (h:c=false):(!c)=true:=by rw [h]; rfl
theorem zDE {c:Bool} (h:c=true):(!c)=false:=by rw [h]; rfl
theorem zN3 (fu m:Nat) (nf:Bool) (l:List TokT) (ha:wt l 1 < m->∀ (d:Nat) (b:Int),d<=60->Out nf l ((pf m).at1 d l b) ((rf fu m).c82 ((d:Int),()) ((nf,l),false,b)))
 (hu:∀ l1,l1.length < l.length->l1 <:+ l->wt l1 2 < m->∀ (d:Nat) (b:Int),d<=60->Out nf l1 ((pf m).un d l1 b) ((rf fu m).c73 ((d:Int),()) ((nf,l1),false,b))) :
 wt l 2 < m+1->∀ (d:Nat) (b:Int),d<=60->Out nf l ((pf (m+1)).un d l b) ((rf fu (m+1)).c73 ((d:Int),()) ((nf,l),false,b)):=fun hw d b hd=>by
 show Out nf l (if isUn (sg l) then (if d=60 then none else ((pf m).un (d+1) (l.drop 1) b).bind fun x=>some (.un (sg l) x.1,x.2.1,x.2.2)) else (pf m).at1 d l b) (outE (sh73 fu c52 c53 (rf fu m).c73 (rf fu m).c82 (((nf,l),(false,(b,()))),()) ((d:Int),())))
 unfold sh73
 refine zf (zBJ nf false l b) ?_
 dsimp only
 have br:isUn (sg l)->Out nf l (if isUn (sg l) then (if d=60 then none else ((pf m).un (d+1) (l.drop 1) b).bind fun x=>some (.un (sg l) x.1,x.2.1,x.2.2)) else (pf m).at1 d l b)
  (outE (cond (ieq (d:Int) 60)
   (some (Option.some ((((nf,l),(true,(b,()))),()),((VT.num 0),()))))
   (Option.bind (c53 (sg l,()) ((nf,l),(false,b))) fun y1=>
    Option.bind ((rf fu m).c73 ((iadd .i64 (d:Int) 1),()) ((y1.2.1.1,y1.2.1.2),(y1.2.2.1,y1.2.2.2))) fun y2=>
     some (Option.some ((((y2.2.1.1,y2.2.1.2),(y2.2.2.1,(y2.2.2.2,()))),()),((VT.un (UnT.sign (UnT.mk (sg l) y2.1.1)) (UnT.x (UnT.mk (sg l) y2.1.1))),())))))):=fun hs=>by
  rw [if_pos hs]
  have hne:l≠[]:=zFf rfl (by rcases hs with h | h | h | h <;> (rw [h]; exact fun e=>by cases e))
  by_cases h:d=60
  · rw [if_pos h]
    refine z7 (yi (by omega)) ?_
    exact ⟨_,_,_,rfl⟩
  · rw [if_neg h]
    refine zm (yb (by omega)) ?_
    refine zf (zAG nf false l b _ rfl hne) ?_
    dsimp only
    rw [i1 (k:=d) (by omega)]
    have h1:=ju hne
    refine zBC (hu (l.drop 1) (by omega) (List.drop_suffix _ _) (by unfold wt at *; omega) (d+1) b (by omega)) (fun y _ hy=>?_) fun x l' b'=>⟨_,_,_,rfl⟩
    exact xg rfl (hy.trans (List.drop_suffix _ _))
 by_cases h1:sg l=[43]
 · exact zm (zDE (xZ h1)) (br (.inl h1))
 refine z7 (zCq (yc h1)) ?_
 by_cases h2:sg l=[45]
 · exact zm (zDE (xZ h2)) (br (.inr (.inl h2)))
 refine z7 (zCq (yc h2)) ?_
 by_cases h3:sg l=[33]
 · exact zm (zDE (xZ h3)) (br (.inr (.inr (.inl h3))))
 refine z7 (zCq (yc h3)) ?_
 by_cases h4:sg l=[126]
 · exact zm (zDE (xZ h4)) (br (.inr (.inr (.inr h4))))
 refine z7 (zCq (yc h4)) ?_
 rw [if_neg (by rintro (h | h | h | h); exact h1 h; exact h2 h; exact h3 h; exact h4 h)]
 have hh:=ha (by unfold wt at *; omega) d b hd
 revert hh
 generalize (pf m).at1 d l b=o
 intro hh
 cases o with
 | none=>obtain ⟨x,l',b',hr⟩:=hh; exact zf hr ⟨_,_,_,rfl⟩
 | some y=>exact zf hh.1 (xg rfl hh.2)
theorem zOs (fu m:Nat) (hfu:2000 < fu) (nf:Bool) (l:List TokT) (ht:∀ t ∈ l,t.text.length<=1000)
 (hi:∀ l1,l1.length < l.length->l1 <:+ l->wt l1 5 < m->∀ (d:Nat) (b:Int),d<=60->Out nf l1 ((pf m).inn d l1 b) ((rf fu m).c54 ((d:Int),()) ((nf,l1),false,b))) :
 wt l 1 < m+1->∀ (d:Nat) (b:Int),d<=60->Out nf l ((pf (m+1)).at1 d l b) ((rf fu (m+1)).c82 ((d:Int),()) ((nf,l),false,b)):=fun hw d b hd=>by
 show Out nf l (if sg l=[40] then ((pf m).inn d (l.drop 1) b).bind fun x=>if sg x.2.1=[41] then some (x.1,x.2.1.drop 1,x.2.2) else none
  else hdA l b) (outE (sh82 fu (c13 fu) c15 c52 c53 (rf fu m).c54 (((nf,l),(false,(b,()))),()) ((d:Int),())))
 unfold sh82
 refine zf (zBJ nf false l b) ?_
 dsimp only
 by_cases h1:sg l=[40]
 · rw [if_pos h1]
   have hne:l≠[]:=zFf h1 (by decide)
   have hl:=ju hne
   refine z7 (xZ h1) ?_
   refine zf (zAG nf false l b _ h1 hne) ?_
   dsimp only
   refine zBC (hi (l.drop 1) (by omega) (List.drop_suffix _ _) (by unfold wt at *; omega) d b hd) (fun y _ hy=>?_) fun x l' b'=>?_
   · dsimp only
     by_cases h2:sg y.2.1=[41]
     · rw [if_pos h2]
       refine zf (zAG nf false y.2.1 y.2.2 _ h2 (zFf h2 (by decide))) ?_
       exact xg rfl (xx (hy.trans (List.drop_suffix _ _)))
     · rw [if_neg h2]
       refine zf (zGO nf false y.2.1 y.2.2 _ h2) ?_
       exact ⟨_,_,_,rfl⟩
   · dsimp only
     obtain ⟨l2,h3⟩:=zKC nf true l' b' [41] (by decide) rfl
     exact ⟨x,l2,b',zDG h3 rfl⟩
 rw [if_neg h1]
 refine zm (yc h1) ?_
 cases l with
 | nil=>exact z7 (yi rfl) ⟨_,_,_,rfl⟩
 | cons t r=>
  have htx:=ht t (by simp)
  refine zm (yb (by show ((r.length+1:Nat):Int)≠0; omega)) ?_
  refine z7 (xk (Int.le_refl _) (by show (0:Int) < ((r.length+1:Nat):Int); omega)) ?_
  refine z7 (xB (by omega) (by show (1:Int)<=((r.length+1:Nat):Int); omega) (Int.le_refl _)) ?_
  have e2:cutL (t::r) 1 (lenI (t::r))=r:=zBX (t::r) 1
  rw [e2]
  simp only [zIp]
  show Out nf (t::r) ((kR t).bind fun v=>some (.num v.1,r,if b=0 then v.2 else b)) _
  have fin:∀ v e:Int,kR t=some (v,e)->Out nf (t::r) ((kR t).bind fun v=>some (.num v.1,r,if b=0 then v.2 else b)) (outE (cond (ieq b 0) (some (Option.some ((((nf,r),(false,(e,()))),()),((VT.num v),())))) (some (Option.some ((((nf,r),(false,(b,()))),()),((VT.num v),())))))):=fun v e hv=>by
   rw [hv,Option.bind_some]
   by_cases hb:b=0
   · rw [if_pos hb]; exact z7 (yi hb) (xg rfl (List.suffix_cons t r))
   · rw [if_neg hb]; exact zm (yb hb) (xg rfl (List.suffix_cons t r))
  have hk0:TokT.kind (List.getD (t::r) 0 tokD)=t.kind:=rfl
  have hx0:TokT.text (List.getD (t::r) 0 tokD)=t.text:=rfl
  rw [hk0,hx0]
  by_cases k2:t.kind=2
  · refine z7 (yi k2) ?_
    refine zf (c13_eq fu t.text (by omega) (by omega)) ?_
    exact fin _ _ (by unfold kR; rw [if_pos k2])
  refine zm (yb k2) ?_
  by_cases k3:t.kind=3
  · refine z7 (yi k3) ?_
    obtain ⟨q1,⟨v,e,u⟩,q2⟩:=quo_eq t.text (by omega)
    refine zf (q1.trans q2) ?_
    refine fin v e ?_
    unfold kR
    rw [if_neg k2,if_pos k3,q2]; rfl
  refine zm (yb k3) ?_
  by_cases k1:t.kind=1
  · refine z7 (yi k1) ?_
    exact fin 0 0 (by unfold kR; rw [if_neg k2,if_neg k3,if_pos k1])
  · refine zm (yb k1) ?_
    have hv:kR t=none:=by unfold kR; rw [if_neg k2,if_neg k3,if_neg k1]
    rw [hv]
    by_cases hb:b=0
    · exact z7 (yi hb) ⟨_,_,_,rfl⟩
    · exact zm (yb hb) ⟨_,_,_,rfl⟩
theorem zMJ:∀ (l:List (Str×Int)) (x:Str),(∀ p ∈ l,0<=p.2/\p.2<=10)->0<=lvl l x/\lvl l x<=10
 | [],x,_=>⟨by show (0:Int)<=0; omega,by show (0:Int)<=10; omega⟩
 | (t,n)::r,x,h=>by
  unfold lvl
  by_cases e:x=t
  · rw [if_pos e]; exact h (t,n) (by simp)
  · rw [if_neg e]; exact zMJ r x fun p hp=>h p (by simp [hp])
theorem lv_le (x:Str):0<=lv x/\lv x<=10:=zMJ lvL x (by decide)
theorem lv_nil:lv []=0:=by decide
theorem zNM (fu m:Nat) (hfu:2000 < fu) (nf:Bool) (l:List TokT) (hl9:l.length < 1500) (hu:wt l 2 < m->∀ (d:Nat) (b:Int),d<=60->Out nf l ((pf m).un d l b) ((rf fu m).c73 ((d:Int),()) ((nf,l),false,b)))
 (hb:∀ l1,l1.length < l.length->l1 <:+ l->wt l1 3 < m->∀ (n:Nat) (d:Nat) (b:Int),n<=11->d<=60->Out nf l1 ((pf m).bin (n:Int) d l1 b) ((rf fu m).c51 ((n:Int),(d:Int),()) ((nf,l1),false,b))) :
 wt l 3 < m+1->∀ (n:Nat) (d:Nat) (b:Int),n<=11->d<=60->Out nf l ((pf (m+1)).bin (n:Int) d l b) ((rf fu (m+1)).c51 ((n:Int),(d:Int),()) ((nf,l),false,b)):=fun hw n d b hn hd=>by
 show Out nf l (((pf m).un d l b).bind fun x=>zCO (fun n l b=>(pf m).bin n d l b) (n:Int) (x.2.1.length+1) x.1 x.2.1 x.2.2) (outE (sh51 fu c74 (rf fu m).c51 c52 c53 (rf fu m).c73 (((nf,l),(false,(b,()))),()) ((n:Int),((d:Int),()))))
 unfold sh51
 dsimp only
 have key:∀ (O:Option PR) (x:VT) (l1:List TokT) (w:Bool) (b1:Int),((w=true/\O=none)\/(w=false/\l1 <:+ l/\∃ k,l1.length < k/\zCO (fun n l b=>(pf m).bin n d l b) (n:Int) k x l1 b1=O)) ->
  Out nf l O (outE (iter fu (fun (rec1:((VT×PUnit)×(((Bool×(List TokT))×(Bool×(Int×PUnit)))×PUnit))->Option (Option ((((Bool×(List TokT))×(Bool×(Int×PUnit)))×PUnit)×(VT×PUnit)))) (s1:((VT×PUnit)×(((Bool×(List TokT))×(Bool×(Int×PUnit)))×PUnit)))=>
   cond (!s1.2.1.2.1)
    (Option.bind (c52 () ((s1.2.1.1.1,s1.2.1.1.2),(s1.2.1.2.1,s1.2.1.2.2.1))) fun y1=>
     Option.bind (c74 (y1.1.1,())) fun y2=>
      cond (ilt y2.1 (n:Int))
       (some (Option.some ((((y1.2.1.1,y1.2.1.2),(y1.2.2.1,(y1.2.2.2,()))),()),(s1.1.1,()))))
       (cond (ieq y2.1 0)
        (some (Option.some ((((y1.2.1.1,y1.2.1.2),(y1.2.2.1,(y1.2.2.2,()))),()),(s1.1.1,()))))
        (Option.bind (c53 (y1.1.1,()) ((y1.2.1.1,y1.2.1.2),(y1.2.2.1,y1.2.2.2))) fun y3=>
         Option.bind ((rf fu m).c51 ((iadd .i64 y2.1 1),((d:Int),())) ((y3.2.1.1,y3.2.1.2),(y3.2.2.1,y3.2.2.2))) fun y4=>
          rec1 (((VT.bin (BinT.sign (BinT.mk y1.1.1 s1.1.1 y4.1.1)) (BinT.x (BinT.mk y1.1.1 s1.1.1 y4.1.1)) (BinT.y (BinT.mk y1.1.1 s1.1.1 y4.1.1))),()),(((y4.2.1.1,y4.2.1.2),(y4.2.2.1,(y4.2.2.2,()))),())))))
    (some (Option.some ((((s1.2.1.1.1,s1.2.1.1.2),(s1.2.1.2.1,(s1.2.1.2.2.1,()))),()),(s1.1.1,())))))
   ((x,()),(((nf,l1),(w,(b1,()))),())))):=fun O x l1 w b1 h0=>by
  refine zGm (fun o=>Out nf l O (outE o)) (fun st=>∃ x l1 w b1,st=(((x,()),(((nf,l1),(w,(b1,()))),())):(VT×PUnit)×(((Bool×List TokT)×Bool×Int×PUnit)×PUnit))/\((w=true/\O=none)\/(w=false/\l1 <:+ l/\∃ k,l1.length < k/\zCO (fun n l b=>(pf m).bin n d l b) (n:Int) k x l1 b1=O)))
   (fun st=>if st.2.1.2.1 then 0 else st.2.1.1.2.length+1) ?_ fu _ ⟨x,l1,w,b1,rfl,h0⟩ (by
    dsimp only
    rcases h0 with ⟨rfl,_⟩ | ⟨rfl,h,_⟩
    · rw [if_pos rfl]; omega
    · rw [if_neg Bool.false_ne_true]
      have:=zBP h
      omega)
  clear h0 x l1 w b1
  rintro rec st ⟨x,l1,w,b1,rfl,hinv⟩ hrec
  dsimp only
  rcases hinv with ⟨rfl,rfl⟩ | ⟨rfl,hsuf,k,hk,hO⟩
  · exact zm rfl ⟨_,_,_,rfl⟩
  refine z7 rfl ?_
  refine zf (zBJ nf false l1 b1) ?_
  dsimp only
  refine zf (c74_eq (sg l1)) ?_
  dsimp only
  cases k with
  | zero=>omega
  | succ k=>
   rw [zCO] at hO
   by_cases hs:lv (sg l1) < (n:Int)\/lv (sg l1)=0
   · rw [if_pos hs] at hO
     subst hO
     by_cases h1:lv (sg l1) < (n:Int)
     · exact z7 (xi h1) (xg rfl hsuf)
     · refine zm (yS (by omega)) ?_
       exact z7 (yi (by omega)) (xg rfl hsuf)
   · rw [if_neg hs] at hO
     refine zm (yS (by omega)) (zm (yb (by omega)) ?_)
     have hsg:sg l1≠[]:=fun e=>hs (.inr (by rw [e]; exact lv_nil))
     have hne:l1≠[]:=fun e=>hsg (by rw [e]; rfl)
     have hl:=ju hne
     have hle:=zBP hsuf
     refine zf (zAG nf false l1 b1 _ rfl hne) ?_
     dsimp only
     obtain ⟨q,hq⟩:∃ q:Nat,lv (sg l1)=(q:Int):=⟨(lv (sg l1)).toNat,by have:=(lv_le (sg l1)).1; omega⟩
     have hq10:=(lv_le (sg l1)).2
     rw [hq,i1 (k:=q) (by omega)]
     have hh:=hb (l1.drop 1) (by omega) (xx hsuf) (by unfold wt at *; omega) (q+1) d b1 (by omega) hd
     have e1:(lv (sg l1)+1:Int)=((q+1:Nat):Int):=by omega
     rw [e1] at hO
     have hO':(((pf m).bin ((q+1:Nat):Int) d (l1.drop 1) b1).bind fun y=>zCO (fun n l b=>(pf m).bin n d l b) (n:Int) k (.bin (sg l1) x y.1) y.2.1 y.2.2)=O:=hO
     revert hh hO'
     generalize (pf m).bin ((q+1:Nat):Int) d (l1.drop 1) b1=o
     intro hh hO'
     cases o with
     | none=>
      obtain ⟨x2,l2,b2,hr⟩:=hh
      refine zf hr ?_
      exact hrec _ ⟨_,l2,true,b2,rfl,.inl ⟨rfl,hO'.symm⟩⟩ (by dsimp only; rw [if_pos rfl,if_neg Bool.false_ne_true]; omega)
     | some y=>
      refine zf hh.1 ?_
      have h5:=zBP hh.2
      exact hrec _ ⟨_,y.2.1,false,y.2.2,rfl,.inr ⟨rfl,hh.2.trans (xx hsuf),k,by omega,hO'⟩⟩ (by dsimp only; rw [if_neg Bool.false_ne_true,if_neg Bool.false_ne_true]; omega)
 have hh:=hu (by unfold wt at *; omega) d b hd
 revert hh
 generalize (pf m).un d l b=o
 intro hh
 cases o with
 | none=>
  obtain ⟨x,l',b',hr⟩:=hh
  refine zf hr ?_
  exact key none x l' true b' (.inl ⟨rfl,rfl⟩)
 | some y=>
  refine zf hh.1 ?_
  exact key _ y.1 y.2.1 false y.2.2 (.inr ⟨rfl,hh.2,y.2.1.length+1,by omega,rfl⟩)
theorem zMt (fu m:Nat) (nf:Bool) (l:List TokT) (hb:wt l 3 < m->∀ (n:Nat) (d:Nat) (b:Int),n<=11->d<=60->Out nf l ((pf m).bin (n:Int) d l b) ((rf fu m).c51 ((n:Int),(d:Int),()) ((nf,l),false,b)))
 (hi:∀ l1,l1.length < l.length->l1 <:+ l->wt l1 5 < m->∀ (d:Nat) (b:Int),d<=60->Out nf l1 ((pf m).inn d l1 b) ((rf fu m).c54 ((d:Int),()) ((nf,l1),false,b))) :
 wt l 4 < m+1->∀ (d:Nat) (b:Int),d<=60->Out nf l ((pf (m+1)).cho d l b) ((rf fu (m+1)).c26 ((d:Int),()) ((nf,l),false,b)):=fun hw d b hd=>by
 show Out nf l (((pf m).bin ((1:Nat):Int) d l b).bind fun c=>if sg c.2.1=[63] then ((pf m).inn d (c.2.1.drop 1) c.2.2).bind fun x=>if sg x.2.1=[58] then ((pf m).inn d (x.2.1.drop 1) x.2.2).bind fun y=>some (.cho c.1 x.1 y.1,y.2.1,y.2.2) else none else some c)
  (outE (sh26 fu (rf fu m).c51 c52 c53 (rf fu m).c54 (((nf,l),(false,(b,()))),()) ((d:Int),())))
 unfold sh26
 dsimp only
 obtain ⟨m',rfl⟩:∃ m',m=m' + 1:=⟨m - 1,by unfold wt at hw; omega⟩
 refine zBC (hb (by unfold wt at *; omega) 1 d b (by omega) hd) (fun c _ hc=>?_) fun x l' b'=>⟨x,l',b',rfl⟩
 refine zm rfl ?_
 refine zf (zBJ nf false c.2.1 c.2.2) ?_
 dsimp only
 by_cases h1:sg c.2.1=[63]
 rotate_left
 · rw [if_neg h1]
   exact z7 (zCq (yc h1)) (xg rfl hc)
 rw [if_pos h1]
 have hne:c.2.1≠[]:=zFf h1 (by decide)
 have hl1:=ju hne
 have hlc:=zBP hc
 refine zm (zDE (xZ h1)) ?_
 refine zf (zAG nf false c.2.1 c.2.2 _ h1 hne) ?_
 dsimp only
 refine zBC (hi (c.2.1.drop 1) (by omega) (xx hc) (by unfold wt at *; omega) d c.2.2 hd) (fun x _ hx=>?_) fun x l' b'=>?_
 · dsimp only
   have hx':x.2.1 <:+ l:=hx.trans (xx hc)
   have hlx:=zBP hx
   by_cases h2:sg x.2.1=[58]
   · rw [if_pos h2]
     have hne2:x.2.1≠[]:=zFf h2 (by decide)
     have hl2:=ju hne2
     refine zf (zAG nf false x.2.1 x.2.2 _ h2 hne2) ?_
     dsimp only
     refine zBC (hi (x.2.1.drop 1) (by omega) (xx hx') (by unfold wt at *; omega) d x.2.2 hd) (fun y _ hy=>?_) fun y l' b'=>⟨_,_,_,rfl⟩
     exact xg rfl (hy.trans (xx hx'))
   · rw [if_neg h2]
     refine zf (zGO nf false x.2.1 x.2.2 _ h2) ?_
     dsimp only
     exact zf (zGv fu m' nf x.2.1 d x.2.2) ⟨_,_,_,rfl⟩
 · dsimp only
   obtain ⟨l2,h3⟩:=zKC nf true l' b' [58] (by decide) rfl
   exact ⟨_,_,_,zDG h3 (zDG (zGv fu m' nf l2 d b') rfl)⟩
theorem zLR (fu:Nat) (hfu:2000 < fu) (nf:Bool):∀ (m:Nat) (l:List TokT),l.length < 1500->(∀ t ∈ l,t.text.length<=1000)->Reads fu m nf l
 | 0,l,_,_=>⟨fun h=>absurd h (by omega),fun h=>absurd h (by omega),fun h=>absurd h (by omega),fun h=>absurd h (by omega),fun h=>absurd h (by omega)⟩
 | m+1,l,hl,ht=>by
  have ih:=zLR fu hfu nf m l hl ht
  have ihs:∀ l1:List TokT,l1.length < l.length->l1 <:+ l->Reads fu m nf l1:=fun l1 h1 h2=>zLR fu hfu nf m l1 (by omega) fun t h=>ht t (h2.subset h)
  exact ⟨zOs fu m hfu nf l ht fun l1 h1 h2=>(ihs l1 h1 h2).inn,zN3 fu m nf l ih.at1 fun l1 h1 h2=>(ihs l1 h1 h2).un,zNM fu m hfu nf l hl ih.un fun l1 h1 h2=>(ihs l1 h1 h2).bin,zMt fu m nf l ih.bin fun l1 h1 h2=>(ihs l1 h1 h2).inn,zM7 fu m nf l ih.cho⟩
end
section
open Go.Al Go.Den
theorem zC9 (file:Int) (cs:List CharT):∀ (f:Nat) (r:Str) (i:Nat) (b:Bool),r.length < f->lexF file cs f r i b=lexF file cs (f+1) r i b
 | 0,r,i,b,h=>by omega
 | f+1,r,i,b,h=>by
  rw [lexF,lexF]
  by_cases hr:r=[]
  · rw [if_pos hr,if_pos hr]
  rw [if_neg hr,if_neg hr]
  have hl:1<=r.length:=by cases r with
   | nil=>exact absurd rfl hr
   | cons c q=>simp
  by_cases hb:0 < blaL r
  · rw [if_pos hb,if_pos hb]
    exact zC9 file cs f _ _ _ (by rw [List.length_drop]; omega)
  · rw [if_neg hb,if_neg hb]
    have:=zAX r
    rw [zC9 file cs f _ _ _ (by rw [List.length_drop]; omega)]
def lexA (file:Int) (cs:List CharT) (r:Str) (i:Nat) (b:Bool):List TokT:=lexF file cs (r.length+1) r i b
theorem zH0 (file:Int) (cs:List CharT) (r:Str) (i:Nat) (b:Bool):∀ d:Nat,lexF file cs (r.length+1+d) r i b=lexA file cs r i b
 | 0=>rfl
 | d+1=>by rw [<- zH0 file cs r i b d,Nat.add_succ]; exact (zC9 file cs _ r i b (by omega)).symm
theorem zFm (file:Int) (cs:List CharT) (r:Str) (i:Nat) (b:Bool):lexA file cs r i b=if r=[] then [] else if 0 < blaL r then lexA file cs (r.drop (blaL r)) (i+blaL r) true
 else ⟨(zq r).1,r.take (zq r).2,file,(cs.getD i yX).fat,(cs.getD (i+(zq r).2 - 1) yX).fat+1,b⟩::lexA file cs (r.drop (zq r).2) (i+(zq r).2) false:=by
 rw [lexA,lexF]
 by_cases hr:r=[]
 · rw [if_pos hr,if_pos hr]
 rw [if_neg hr,if_neg hr]
 have hl:1<=r.length:=by cases r with
  | nil=>exact absurd rfl hr
  | cons c q=>simp
 have key:∀ (n:Nat) (i:Nat) (b:Bool),0 < n->lexF file cs r.length (r.drop n) i b=lexA file cs (r.drop n) i b:=fun n i b hn=>by
  have h:=zH0 file cs (r.drop n) i b (r.length - ((r.drop n).length+1))
  have h2:(r.drop n).length+1<=r.length:=by rw [List.length_drop]; omega
  rw [Nat.add_sub_cancel' h2] at h
  exact h
 by_cases hb:0 < blaL r
 · rw [if_pos hb,if_pos hb,key _ _ _ hb]
 · rw [if_neg hb,if_neg hb,key _ _ _ (zAX r)]
def txt (cs:List CharT):Str:=cs.map fun c=>UInt8.ofNat c.b.toNat
def tokS (file:Int) (t:Str):List TokT:=lexA file (chG t 0) (txt (chG t 0)) 0 false
theorem zGK:∀ (s:List UInt8) (i:Nat),∀ c ∈ chG s i,(i:Int)<=c.fat/\c.fat < i+s.length
 | [],_,c,h=>by simp [chG] at h
 | [a],i,c,h=>by
  simp only [chG,List.mem_singleton] at h
  subst h
  simp
  omega
 | a::d::r,i,c,h=>by
  unfold chG at h
  have h1:=zGK r (i+2) c
  have h2:=zGK (d::r) (i+1) c
  simp only [List.length_cons] at h2 ⊢
  cases hb:(a == 92 && d == 10) with
  | true=>
   rw [hb,cond_true] at h
   have:=h1 h
   push_cast at this ⊢
   omega
  | false=>
   rw [hb,cond_false,List.mem_cons] at h
   rcases h with rfl | h
   · push_cast; simp; omega
   · have:=h2 h
     push_cast at this ⊢
     omega
theorem zO8 (t:Str) (j:Nat):0<=((chG t 0).getD j yX).fat/\((chG t 0).getD j yX).fat<=t.length:=by
 rw [List.getD_eq_getElem?_getD]
 by_cases h:j < (chG t 0).length
 · rw [List.getElem?_eq_getElem h]
   have:=zGK t 0 _ (List.getElem_mem h)
   show 0<=((chG t 0)[j]).fat/\((chG t 0)[j]).fat<=t.length
   omega
 · rw [List.getElem?_eq_none (by omega)]
   exact ⟨Int.le_refl _,by show (0:Int)<=_; omega⟩
set_option maxRecDepth 4000 in
theorem c10_eq (fu:Nat) (file:Int) (t:Str) (ht:t.length<=1090000) (hfu:t.length+100 < fu):c10 fu (file,t,())=some (tokS file t,()):=by
 show sh10 fu c27 c28 (c29 fu) (c30 fu) (fun _=>false) file t=_
 unfold sh10
 have hcl:=zBB t 0
 have hl:(txt (chG t 0)).length=(chG t 0).length:=by unfold txt; rw [List.length_map]
 refine zP (show c27 (t,())=some (chG t 0,()) from if_pos (show t.length < 1100000 by omega)) ?_
 dsimp only
 refine zP (show c28 (chG t 0,())=some (txt (chG t 0),()) from if_pos (show (chG t 0).length < 1100000 by omega)) ?_
 dsimp only
 have hfat:=zO8 t
 unfold tokS
 generalize hcs:chG t 0=cs at hcl hl hfat ⊢
 generalize hs:txt cs=s at hl ⊢
 have hs9:s.length<=1090000:=by omega
 have hf9:s.length+100 < fu:=by omega
 refine yz (fun st=>∃ (p:Nat) (out:List TokT),st=(((out,()),((s,((p:Int),())),())):(List TokT×PUnit)×(Str×Int×PUnit)×PUnit)/\p<=s.length/\out.length<=p/\out++lexA file cs (s.drop p) p false=lexA file cs s 0 false) (fun st=>s.length+1 - st.2.1.2.1.toNat) ?_ fu _ ⟨0,[],rfl,Nat.zero_le _,Nat.le_refl _,rfl⟩ (by show s.length+1 - (0:Int).toNat < fu; omega)
 rintro rec st ⟨p0,out,rfl,hp0,hout,hw⟩ hrec
 dsimp only
 refine yz (fun st=>∃ (p:Nat) (b:Bool),st=(((out,()),((s,((p:Int),())),((0,([],(file,(0,(0,(b,())))))),()))):(List TokT×PUnit)×(Str×Int×PUnit)×(Int×Str×Int×Int×Int×Bool×PUnit)×PUnit)/\p0<=p/\p<=s.length/\out++lexA file cs (s.drop p) p b=lexA file cs s 0 false) (fun st=>s.length+1 - st.2.1.2.1.toNat) ?_ fu _ ⟨p0,false,rfl,Nat.le_refl _,hp0,hw⟩ (by show s.length+1 - (p0:Int).toNat < fu; omega)
 clear hw
 rintro rec2 st ⟨p,b,rfl,hpp,hp,hw⟩ hrec2
 dsimp only
 rw [zFm] at hw
 have h29:=e29 hs9 hf9 hp
 have h30:=e30 hs9 hf9 hp
 have hbl:=zJt (s.drop p)
 rw [List.length_drop] at hbl
 have hnp:=zAX (s.drop p)
 have hnl:=zIQ (s.drop p)
 rw [List.length_drop] at hnl
 rw [show lenI s=(s.length:Int) from rfl]
 generalize zq (s.drop p)=kn at hw h30 hnp hnl
 obtain ⟨kk,n⟩:=kn
 dsimp only at hw h30 hnp hnl
 generalize blaL (s.drop p)=B at hw h29 hbl
 have he:¬ p < s.length->out=lexA file cs s 0 false:=fun h=>by
  rw [if_pos (List.drop_eq_nil_of_le (by omega)),List.append_nil] at hw
  exact hw
 have tok:p < s.length->B=0->(Option.bind (c30 fu () s (p:Int)) fun y3=>
  cond (inS y3.2 (iadd .i64 y3.2 y3.1.2.1) (List.length s))
   (cond (inB y3.2 (List.length cs))
    (cond (inB (isub .i64 (iadd .i64 y3.2 y3.1.2.1) 1) (List.length cs))
     (cond (okN 56 ((List.length out)+(List.length [(TokT.mk y3.1.1 (cutL s y3.2 (iadd .i64 y3.2 y3.1.2.1)) file (CharT.fat (List.getD cs (Int.toNat y3.2) yX)) (iadd .i64 (CharT.fat (List.getD cs (Int.toNat (isub .i64 (iadd .i64 y3.2 y3.1.2.1) 1)) yX)) 1) b)])))
      (rec (((out++[(TokT.mk y3.1.1 (cutL s y3.2 (iadd .i64 y3.2 y3.1.2.1)) file (CharT.fat (List.getD cs (Int.toNat y3.2) yX)) (iadd .i64 (CharT.fat (List.getD cs (Int.toNat (isub .i64 (iadd .i64 y3.2 y3.1.2.1) 1)) yX)) 1) b)]),()),((s,((iadd .i64 y3.2 y3.1.2.1),())),())))
      (none))
     (none))
    (none))
   (none))=some (lexA file cs s 0 false,()):=fun hlt hB=>by
  have hne:s.drop p≠[]:=fun e=>by
   have:=congrArg List.length e
   rw [List.length_drop,List.length_nil] at this
   omega
  have hn:=hnl hne
  rw [if_neg hne,if_neg (by omega)] at hw
  refine zP h30 ?_
  dsimp only
  have e1:iadd .i64 (p:Int) (n:Int)=((p+n:Nat):Int):=by rw [yr _ _ (by omega) (by omega)]; omega
  have e2:isub .i64 ((p+n:Nat):Int) 1=((p+n - 1:Nat):Int):=by rw [zA9 _ _ (by omega) (by omega)]; omega
  rw [e1,e2,Int.toNat_natCast,Int.toNat_natCast]
  have hf:=hfat (p+n - 1)
  rw [yr _ 1 (by omega) (by omega)]
  refine zI (xB (by omega) (by omega) (by omega)) ?_
  refine zI (xk (by omega) (by omega)) ?_
  refine zI (xk (by omega) (by omega)) ?_
  refine zI (zGu (by rw [List.length_singleton]; omega) (by rw [List.length_singleton]; simp only [maxLen]; omega)) ?_
  have e3:cutL s (p:Int) ((p+n:Nat):Int)=(s.drop p).take n:=by
   unfold cutL
   rw [Int.toNat_natCast,Int.toNat_natCast,List.drop_take,Nat.add_sub_cancel_left]
  rw [e3]
  refine hrec _ ⟨p+n,_,rfl,by omega,by rw [List.length_append,List.length_singleton]; omega,?_⟩ (by dsimp only; omega)
  rw [List.append_assoc,List.singleton_append,<- List.drop_drop]
  exact hw
 with_reducible refine xN (fun h=>?_) fun h=>?_
 · have hlt:p < s.length:=by omega
   have hne:s.drop p≠[]:=fun e=>by
    have:=congrArg List.length e
    rw [List.length_drop,List.length_nil] at this
    omega
   refine zP h29 ?_
   dsimp only
   refine zAM (fun h1=>?_) fun h1=>?_
   · have hB:0 < B:=of_decide_eq_true h1
     rw [if_neg hne,if_pos hB,List.drop_drop] at hw
     exact hrec2 _ ⟨p+B,true,rfl,by omega,by omega,hw⟩ (by dsimp only; omega)
   · have hB:¬ 0 < B:=of_decide_eq_false h1
     obtain rfl:B=0:=by omega
     rw [Nat.add_zero]
     with_reducible refine ji (fun h2=>?_) fun h2=>?_
     · exfalso; omega
     · exact tok hlt rfl
 · with_reducible refine ji (fun h2=>?_) fun h2=>?_
   · rw [he (by omega)]
   · exfalso; omega
end
section
open Go.Al Go.Den
def noNl (l:List TokT):List TokT:=l.filter fun t=>decide (t.kind≠7)
theorem zPB (t:TokT):TokT.mk t.kind t.text t.file t.ffrom t.fto t.blank=t:=by cases t; rfl
theorem zMO {α:Type} (l:List α):zQ l.length l=l:=List.take_length
theorem zCk {α:Type} {n:Nat} {l:List α} (h:l.length=n):zQ n l=l:=by unfold zQ; exact List.take_of_length_le (by omega)
theorem zDg {a b:Nat} (h:a=b):eqN a b=true:=by subst h; unfold eqN; simp
theorem zG1 {α:Type} (y:List α) (i:Nat) (x:α) (h:i < y.length):(y.set i x).take (i+1)=y.take i++[x]:=by
 rw [List.take_succ_eq_append_getElem (by rw [List.length_set]; exact h),List.getElem_set_self,List.take_set,List.set_eq_of_length_le (by rw [List.length_take]; omega)]
theorem zLA {a b:Nat} (h:a < b):Nat.blt a b=true:=by simp [Nat.blt_eq,h]
theorem jE {a b:Nat} (h:a<=b):Nat.ble a b=true:=Nat.ble_eq_true_of_le h
theorem zOy (fu:Nat):c23 (fu+1) (none,((),()))=some ((true,[]),()):=by kernel_rfl
theorem zO0 {β:Type} {v:β} {o:Option (Option (Unit×β))} (h:o=some (some ((),v))):outF o=some v:=by rw [h]; rfl
theorem c23_eq (fu:Nat) (l:List TokT) (hl:l.length < 1500) (hfu:2000 < fu):c23 fu (some l,((),()))=some ((false,noNl l),()):=by
 show outF (sh23 fu () (some l,((),())))=some ((false,noNl l),())
 refine zO0 ?_
 show sh23 fu () (some l,((),()))=(some (some ((),((false,noNl l),()))):Option (Option (Unit×((Bool×List TokT)×Unit))))
 unfold sh23
 dsimp only [zn]
 have ht:zQ l.length l=l:=zMO l
 rw [ht]
 refine zI (zDg rfl) ?_
 have second:∀ (k:Nat) {F:((Int×(Int×PUnit))×((Option (List TokT))×PUnit)->Option (Option (PUnit×((Bool×(List TokT))×PUnit))))->((Int×(Int×PUnit))×((Option (List TokT))×PUnit))->Option (Option (PUnit×((Bool×(List TokT))×PUnit)))},
  (∀ (i j:Nat) (y:List TokT) rec (r:Option (Option (PUnit×((Bool×(List TokT))×PUnit)))),y.length=l.length->i < j->j<=l.length ->
   (j < l.length->(y.getD j tokD).kind≠7->rec (((((i+1:Nat):Int)),((((j+1:Nat):Int)),())),(some (y.set i (y.getD j tokD)),()))=r)->(j < l.length->(y.getD j tokD).kind=7->rec (((i:Int),((((j+1:Nat):Int)),())),(some y,()))=r) ->
   (j=l.length->(some (Option.some ((),((false,y.take i),()))):Option (Option (PUnit×((Bool×(List TokT))×PUnit))))=r)->F rec (((i:Int),((j:Int),())),(some y,()))=r) ->
  k < l.length->(l.getD k tokD).kind=7->noNl (l.take k)=l.take k ->
  iter fu F (((k:Int),((((k+1:Nat):Int)),())),(some l,()))=some (some ((),((false,noNl l),()))):=fun k F hF hk hk7 hpre=>by
  refine yz (fun st=>∃ (i j:Nat) (y:List TokT),st=((((i:Int),((j:Int),())),(some y,())):(Int×Int×PUnit)×(Option (List TokT))×PUnit)/\y.length=l.length/\i < j/\j<=l.length/\y.take i=noNl (l.take j)/\y.drop j=l.drop j) (fun st=>l.length - st.1.2.1.toNat) ?_ fu _ ⟨k,k+1,l,rfl,rfl,by omega,by omega,?_,rfl⟩ (by show l.length - ((k+1:Nat):Int).toNat < fu; omega)
  · rintro rec st ⟨i,j,y,rfl,hy,hij,hj,h1,h2⟩ hrec
    refine hF i j y rec _ hy hij hj (fun hlt h7=>?_) (fun hlt h7=>?_) (fun he=>?_)
    · have hyj:y.getD j tokD=y[j]'(by omega):=by rw [List.getD_eq_getElem?_getD,List.getElem?_eq_getElem (by omega)]; rfl
      have hlj:y[j]'(by omega)=l[j]:=by
       have:=congrArg List.head? h2
       rw [List.drop_eq_getElem_cons (by omega),List.drop_eq_getElem_cons hlt] at this
       injection this
      refine hrec _ ⟨i+1,j+1,_,rfl,by rw [List.length_set]; exact hy,by omega,by omega,?_,?_⟩ (by dsimp only; omega)
      · rw [zG1 _ _ _ (by omega),hyj,h1,hlj,List.take_succ_eq_append_getElem hlt]
        unfold noNl
        rw [List.filter_append,List.filter_cons_of_pos (by rw [<- hlj,<- hyj]; exact decide_eq_true h7),List.filter_nil]
      · rw [List.drop_set_of_lt (by omega),<- List.drop_drop,h2,List.drop_drop]
    · have hyj:y.getD j tokD=y[j]'(by omega):=by rw [List.getD_eq_getElem?_getD,List.getElem?_eq_getElem (by omega)]; rfl
      have hlj:y[j]'(by omega)=l[j]:=by
       have:=congrArg List.head? h2
       rw [List.drop_eq_getElem_cons (by omega),List.drop_eq_getElem_cons hlt] at this
       injection this
      refine hrec _ ⟨i,j+1,y,rfl,hy,by omega,by omega,?_,?_⟩ (by dsimp only; omega)
      · rw [h1,List.take_succ_eq_append_getElem hlt]
        unfold noNl
        rw [List.filter_append,List.filter_cons_of_neg (by rw [<- hlj,<- hyj,h7]; decide),List.filter_nil,List.append_nil]
      · rw [<- List.drop_drop,h2,List.drop_drop]
    · rw [h1,he,List.take_length]
  · rw [List.take_succ_eq_append_getElem hk]
    unfold noNl
    rw [List.filter_append]
    have hg:l.getD k tokD=l[k]:=by rw [List.getD_eq_getElem?_getD,List.getElem?_eq_getElem hk]; rfl
    rw [List.filter_cons_of_neg (by rw [<- hg,hk7]; decide),List.filter_nil,List.append_nil]
    exact hpre.symm
 refine yz (fun st=>∃ k:Nat,st=((((k:Int),()),(some l,())):(Int×PUnit)×(Option (List TokT))×PUnit)/\k<=l.length/\noNl (l.take k)=l.take k) (fun st=>l.length - st.1.1.toNat) ?_ fu _ ⟨0,rfl,Nat.zero_le _,rfl⟩ (by show l.length - (0:Int).toNat < fu; omega)
 rintro rec st ⟨k,rfl,hk,hpre⟩ hrec
 dsimp only
 rw [ht]
 refine xN (fun h=>?_) fun h=>?_
 rotate_left
 · obtain rfl:k=l.length:=by have:Int.ofNat l.length<=(k:Int):=h; have e:Int.ofNat l.length=((l.length:Nat):Int):=rfl; omega
   refine zI (yi rfl) (zI (jE (Nat.le_refl _)) ?_)
   rw [List.take_length] at hpre
   rw [hpre]
 have hlt:k < l.length:=by have:(k:Int) < Int.ofNat l.length:=h; have e:Int.ofNat l.length=((l.length:Nat):Int):=rfl; omega
 refine zI (xk (by omega) (by omega)) (zI (zLA (by rw [Int.toNat_natCast]; exact hlt)) ?_)
 rw [Int.toNat_natCast,i1 (k:=k) (by omega)]
 refine ym (fun h7=>?_) fun h7=>?_
 · refine zD (yb (by show (k:Int)≠-1; omega)) (zI (zDg rfl) ?_)
   refine second k (fun i j y rec r hy hij hj r1 r2 r3=>?_) hlt h7 hpre
   dsimp only
   have hty:zQ l.length y=y:=zCk hy
   have hset:zQ l.length (y.set i (y.getD j tokD))=y.set i (y.getD j tokD):=zCk (by rw [List.length_set]; exact hy)
   rw [Int.toNat_natCast,Int.toNat_natCast,zPB,hty,hset,i1 (k:=i) (by omega),i1 (k:=j) (by omega)]
   refine xN (fun h=>?_) fun h=>?_
   · have hjl:j < l.length:=by have:(j:Int) < Int.ofNat l.length:=h; have e:Int.ofNat l.length=((l.length:Nat):Int):=rfl; omega
     refine zI (xk (by omega) (by omega)) (zI (zLA (by omega)) ?_)
     refine zHG (fun h7=>?_) fun h7=>?_
     · refine zI (xk (by omega) (by omega)) (zI (zLA (by omega)) (zI (zDg (by rw [List.length_set]; exact hy.symm)) ?_))
       exact r1 hjl (fun e=>by rw [yi e] at h7; cases h7)
     · refine zI (zDg hy.symm) ?_
       refine r2 hjl ?_
       rw [kj] at h7
       exact of_decide_eq_true h7
   · have hjl:j=l.length:=by have:Int.ofNat l.length<=(j:Int):=h; have e:Int.ofNat l.length=((l.length:Nat):Int):=rfl; omega
     have e:Int.ofNat l.length=((l.length:Nat):Int):=rfl
     rw [e,Int.toNat_natCast]
     refine zI (xB (by omega) (by omega) (by omega)) (zI (jE (by omega)) ?_)
     have hb:Nat.beq (l.length - i) 0=false:=by
      cases hc:Nat.beq (l.length - i) 0
      · rfl
      · have:=Nat.eq_of_beq_eq_true hc; omega
     refine zD hb ?_
     have h9:(zQ i y).length=i:=by unfold zQ; rw [List.length_take]; omega
     refine zI (xB (by omega) (by omega) (by rw [h9]; exact Int.le_refl _)) (zI (jE (by rw [h9]; exact Nat.le_refl _)) ?_)
     rw [zCk h9]
     exact r3 hjl
 · refine zI (zDg rfl) ?_
   refine hrec _ ⟨k+1,rfl,hlt,?_⟩ (by dsimp only; omega)
   rw [List.take_succ_eq_append_getElem hlt]
   unfold noNl at hpre ⊢
   have hg:l.getD k tokD=l[k]:=by rw [List.getD_eq_getElem?_getD,List.getElem?_eq_getElem hlt]; rfl
   rw [List.filter_append,hpre,List.filter_cons_of_pos (by rw [<- hg]; exact decide_eq_true h7),List.filter_nil]
end
section
open Go.Al Go.Den
noncomputable def k111:Str×Int×Int×Unit->Option (Int×Int×Unit):=c111
noncomputable def kM (k:Nat):VT×Unit->Option (Int×Int×Unit):=cm k
noncomputable def k26 (fu m:Nat):Int×Unit->ES->Option ((VT×Unit)×ES):=(rf fu m).c26
noncomputable def both (s:Str) (a b:Int):Int×Int:=
 let y:=(k111 (s,a,b,())).getD (0,0,())
 (y.1,y.2.1)
theorem zMR (s:Str) (a b:Int):∃ y,c113 (s,a,b,())=some y:=by
 show ∃ y,sh113 0 (fun _=>false) s a b=some y
 have d:∀ (c:Bool) (x y:Option (Int×Unit)),(∃ z,x=some z)->(∃ z,y=some z)->∃ z,cond c x y=some z:=fun c x y h1 h2=>by cases c <;> assumption
 unfold sh113
 repeat' (first | exact ⟨_,rfl⟩ | refine d _ _ _ ?_ ?_)
theorem zJu (s:Str) (a b:Int):k111 (s,a,b,())=some ((both s a b).1,(both s a b).2,()):=by
 have h:∃ y:Int×Int×Unit,k111 (s,a,b,())=some y:=by
  show ∃ y:Int×Int×Unit,sh111 0 c113 (fun _=>false) s a b=some y
  obtain ⟨y,hy⟩:=zMR s a b
  have d:∀ (c:Bool) (x y:Option (Int×Int×Unit)),(c=true->∃ z,x=some z)->(c=false->∃ z,y=some z)->∃ z,cond c x y=some z:=fun c x y h1 h2=>by
   cases c
   · exact h2 rfl
   · exact h1 rfl
  unfold sh111
  refine d _ _ _ (fun _=>d _ _ _ (fun _=>⟨_,rfl⟩) fun h0=>?_) fun _=>?_
  · rw [kj] at h0
    have hb:=of_decide_eq_false h0
    refine d _ _ _ (fun _=>d _ _ _ (fun _=>⟨_,rfl⟩) fun _=>⟨_,rfl⟩) fun _=>?_
    rw [jf hb]
    exact d _ _ _ (fun _=>⟨_,rfl⟩) fun _=>⟨_,rfl⟩
  refine d _ _ _ (fun _=>d _ _ _ (fun _=>⟨_,rfl⟩) fun h0=>?_) fun _=>?_
  · rw [kj] at h0
    have hb:=of_decide_eq_false h0
    refine d _ _ _ (fun _=>d _ _ _ (fun _=>⟨_,rfl⟩) fun _=>⟨_,rfl⟩) fun _=>?_
    rw [jf hb]
    exact d _ _ _ (fun _=>⟨_,rfl⟩) fun _=>⟨_,rfl⟩
  refine d _ _ _ (fun _=>d _ _ _ (fun _=>⟨_,rfl⟩) fun h0=>d _ _ _ (fun _=>⟨_,rfl⟩) fun _=>?_) fun _=>?_
  · have hb:0<=b:=by have:=of_decide_eq_false h0; omega
    rw [zBg hb]
    exact d _ _ _ (fun _=>⟨_,rfl⟩) fun _=>⟨_,rfl⟩
  refine d _ _ _ (fun _=>d _ _ _ (fun _=>⟨_,rfl⟩) fun h0=>d _ _ _ (fun _=>⟨_,rfl⟩) fun _=>?_) fun _=>?_
  · have hb:0<=b:=by have:=of_decide_eq_false h0; omega
    rw [zBg hb]
    exact d _ _ _ (fun _=>⟨_,rfl⟩) fun _=>⟨_,rfl⟩
  refine d _ _ _ (fun _=>d _ _ _ (fun _=>⟨_,rfl⟩) fun _=>⟨_,rfl⟩) fun _=>?_
  refine d _ _ _ (fun _=>d _ _ _ (fun _=>⟨_,rfl⟩) fun _=>⟨_,rfl⟩) fun _=>?_
  exact ⟨(y.1,(0,())),zP hy rfl⟩
 obtain ⟨y,hy⟩:=h
 unfold both
 rw [hy]
 rfl
noncomputable def unV (s:Str) (a:Int):Int:=if s=[45] then isub .i64 0 a else if s=[33] then (if a=0 then 1 else 0) else if s=[126] then jnot .i64 a else a
noncomputable def vS:VT->Int×Int
 | .num n=>(n,0)
 | .un s x=>if (vS x).2=0 then (unV s (vS x).1,0) else (0,(vS x).2)
 | .bin s x y=>if (vS x).2=0 then (if s=[124,124]/\(vS x).1≠0 then (1,0) else if s=[38,38]/\(vS x).1=0 then (0,0) else if (vS y).2=0 then both s (vS x).1 (vS y).1 else (0,(vS y).2)) else (0,(vS x).2)
 | .cho c x y=>if (vS c).2=0 then (if (vS c).1=0 then vS y else vS x) else (0,(vS c).2)
def dp:VT->Nat
 | .num _=>0
 | .un _ x=>dp x+1
 | .bin _ x y=>max (dp x) (dp y)+1
 | .cho c x y=>max (dp c) (max (dp x) (dp y))+1
theorem zB3:∀ (k:Nat) (x:VT),dp x < k->kM k (x,())=some ((vS x).1,(vS x).2,())
 | 0,x,h=>by omega
 | k+1,.num n,_=>rfl
 | k+1,.un s x,h=>by
  have ih:=zB3 k x (by simp only [dp] at h; omega)
  show sh115 0 (kM k) (fun _=>false) ⟨s,x⟩=_
  rw [vS]
  unfold sh115
  generalize vS x=v at ih ⊢
  obtain ⟨a,e⟩:=v
  refine zP ih ?_
  dsimp only
  have fin:∀ (c:Int),unV s a=c->cond (ine e 0) (some ((0:Int),(e,()))) (some (c,((0:Int),())))=some ((if e=0 then (unV s a,0) else (0,e)).1,(if e=0 then (unV s a,(0:Int)) else (0,e)).2,()):=fun c hc=>by
   subst hc
   refine qJ (fun h=>?_) fun h=>?_
   · rw [if_neg h]
   · rw [if_pos h]
  by_cases h1:s=[45]
  · exact zI (xZ h1) (fin _ (by unfold unV; rw [if_pos h1]))
  refine zD (yc h1) ?_
  by_cases h2:s=[33]
  · refine zI (xZ h2) ?_
    refine ym (fun h3=>?_) fun h3=>?_
    · exact fin _ (by unfold unV; rw [if_neg h1,if_pos h2,if_pos h3])
    · exact fin _ (by unfold unV; rw [if_neg h1,if_pos h2,if_neg h3])
  refine zD (yc h2) ?_
  by_cases h3:s=[126]
  · exact zI (xZ h3) (fin _ (by unfold unV; rw [if_neg h1,if_neg h2,if_pos h3]))
  · exact zD (yc h3) (fin _ (by unfold unV; rw [if_neg h1,if_neg h2,if_neg h3]))
 | k+1,.bin s x y,h=>by
  have ih:=zB3 k x (by simp only [dp] at h; omega)
  have ih2:=zB3 k y (by simp only [dp] at h; omega)
  show sh110 0 k111 (kM k) (fun _=>false) ⟨s,x,y⟩=_
  rw [vS]
  unfold sh110
  generalize vS x=v at ih ⊢
  obtain ⟨a,e⟩:=v
  refine zP ih ?_
  dsimp only
  refine qJ (fun h0=>?_) fun h0=>?_
  · rw [if_neg h0]
  rw [if_pos h0]
  have fin:¬ (s=[124,124]/\a≠0)->¬ (s=[38,38]/\a=0)->(Option.bind (kM k (y,())) fun y1=>cond (ine y1.2.1 0) (some (0,(y1.2.1,()))) (Option.bind (k111 (s,(a,(y1.1,())))) fun y2=>some (y2.1,(y2.2.1,()))))=some ((if s=[124,124]/\a≠0 then ((1:Int),(0:Int)) else if s=[38,38]/\a=0 then (0,0) else if (vS y).2=0 then both s a (vS y).1 else (0,(vS y).2)).1,(if s=[124,124]/\a≠0 then ((1:Int),(0:Int)) else if s=[38,38]/\a=0 then (0,0) else if (vS y).2=0 then both s a (vS y).1 else (0,(vS y).2)).2,()):=fun n1 n2=>by
   rw [if_neg n1,if_neg n2]
   generalize vS y=v2 at ih2 ⊢
   obtain ⟨b,f⟩:=v2
   refine zP ih2 ?_
   dsimp only
   refine qJ (fun h3=>?_) fun h3=>?_
   · rw [if_neg h3]
   · rw [if_pos h3]
     exact zP (zJu s a b) rfl
  by_cases h1:s=[124,124]
  · refine zI (xZ h1) ?_
    refine qJ (fun h2=>?_) fun h2=>?_
    · rw [if_pos ⟨h1,h2⟩]
    · refine zD (yc (by rw [h1]; decide)) ?_
      exact fin (fun h=>h.2 h2) (fun h=>by rw [h1] at h; exact absurd h.1 (by decide))
  refine zD (yc h1) ?_
  by_cases h2:s=[38,38]
  · refine zI (xZ h2) ?_
    refine ym (fun h3=>?_) fun h3=>?_
    · rw [if_neg fun h=>h1 h.1,if_pos ⟨h2,h3⟩]
    · exact fin (fun h=>h1 h.1) fun h=>h3 h.2
  · exact zD (yc h2) (fin (fun h=>h1 h.1) fun h=>h2 h.1)
 | k+1,.cho c x y,h=>by
  have ih:=zB3 k c (by simp only [dp] at h; omega)
  have ih1:=zB3 k x (by simp only [dp] at h; omega)
  have ih2:=zB3 k y (by simp only [dp] at h; omega)
  show sh109 0 (kM k) (fun _=>false) ⟨c,x,y⟩=_
  rw [vS]
  unfold sh109
  generalize vS c=v at ih ⊢
  obtain ⟨a,e⟩:=v
  refine zP ih ?_
  dsimp only
  refine qJ (fun h0=>?_) fun h0=>?_
  · rw [if_neg h0]
  rw [if_pos h0]
  refine qJ (fun h1=>?_) fun h1=>?_
  · rw [if_neg h1]
    exact zP ih1 rfl
  · rw [if_pos h1]
    exact zP ih2 rfl
noncomputable def evS (m:Nat) (l:List TokT):Int×Int:=
 match (pf m).cho 0 (noNl l) 0 with
 | none=>(0,90)
 | some y=>if y.2.1=[] then (if y.2.2=0 then vS y.1 else (0,y.2.2)) else (0,90)
theorem zND (l:List TokT):(noNl l).length<=l.length:=List.length_filter_le _ _
theorem c9_eq (fu m:Nat) (hfu:2000 < fu) (l:List TokT) (hl:l.length < 1500) (ht:∀ t ∈ l,t.text.length<=1000) (hm:13000 < m):∃ k0,∀ k,k0<=k->c9 fu m k (l,())=some ((evS m l).1,(evS m l).2,()):=by
 have hnl:=zND l
 have part:∀ nf:Bool,∃ k0,∀ k,k0<=k->(Option.bind (k26 fu m (0,()) ((nf,noNl l),(false,0))) fun y1=>
  cond y1.2.2.1
   (some (0,(90,())))
   (cond (ilt 0 (lenI y1.2.1.2))
    (some (0,(90,())))
    (cond (ine y1.2.2.2 0)
     (some (0,(y1.2.2.2,())))
     (Option.bind (kM k (y1.1.1,())) fun y2=>
      some (y2.1,(y2.2.1,()))))))=(some ((evS m l).1,(evS m l).2,()):Option (Int×Int×Unit)):=fun nf=>by
  have hr:=(zLR fu hfu nf m (noNl l) (by omega) fun t h=>ht t ((List.mem_filter.1 h).1)).cho (by unfold wt; omega) 0 0 (by omega)
  unfold evS
  revert hr
  generalize (pf m).cho 0 (noNl l) 0=o
  intro hr
  cases o with
  | none=>
   obtain ⟨x,l',b',h⟩:=hr
   exact ⟨0,fun k _=>zP h (zI rfl rfl)⟩
  | some y=>
   obtain ⟨x,l',b'⟩:=y
   refine ⟨dp x+1,fun k hk=>zP hr.1 ?_⟩
   dsimp only
   refine zD rfl ?_
   by_cases h1:l' = []
   · rw [if_pos h1,h1]
     refine zD (yS (Int.le_refl _)) ?_
     by_cases h2:b' = 0
     · rw [if_pos h2]
       refine zD (zKU h2) ?_
       exact zP (zB3 k x (by omega)) rfl
     · rw [if_neg h2]
       exact zI (jf h2) rfl
   · rw [if_neg h1]
     refine zI (xi ?_) rfl
     cases l' with
     | nil=>exact absurd rfl h1
     | cons a r=>show (0:Int) < ((r.length+1:Nat):Int); omega
 obtain ⟨f,rfl⟩:∃ f,fu=f+1:=⟨fu - 1,by omega⟩
 cases l with
 | nil=>
  obtain ⟨k0,hk⟩:=part true
  refine ⟨k0,fun k h0=>?_⟩
  show sh9 (f+1) (kM k) (c23 (f+1)) (k26 (f+1) m) (fun _=>false) []=_
  unfold sh9
  refine zI rfl ?_
  exact zP (zOy f) (hk k h0)
 | cons t r=>
  obtain ⟨k0,hk⟩:=part false
  refine ⟨k0,fun k h0=>?_⟩
  show sh9 (f+1) (kM k) (c23 (f+1)) (k26 (f+1) m) (fun _=>false) (t::r)=_
  unfold sh9
  refine zD rfl ?_
  have hlr:r.length+1 < 1500:=hl
  refine zI (zGu (by simp only [List.length_cons]; omega) (by simp only [List.length_cons,maxLen]; omega)) ?_
  refine zI (zDg (by simp)) ?_
  have e:(List.take 0 ([]:List TokT))++(t::r)=t::r:=rfl
  rw [e]
  exact zP (c23_eq (f+1) (t::r) hl hfu) (hk k h0)
noncomputable def evT (m:Nat) (t:Str):Int:=if (evS m (tokS 0 t)).2=0 then (evS m (tokS 0 t)).1 else isub .i64 (-1000) (evS m (tokS 0 t)).2
theorem zB1 (file:Int) (cs:List CharT) (n:Nat):∀ (f:Nat) (r:Str) (i:Nat) (b:Bool),r.length<=n->(lexF file cs f r i b).length<=r.length/\∀ t ∈ lexF file cs f r i b,t.text.length<=n
 | 0,r,i,b,h=>⟨Nat.zero_le _,fun t ht=>by cases ht⟩
 | f+1,r,i,b,h=>by
  rw [lexF]
  by_cases hr:r=[]
  · rw [if_pos hr]; exact ⟨Nat.zero_le _,fun t ht=>by cases ht⟩
  rw [if_neg hr]
  by_cases hb:0 < blaL r
  · rw [if_pos hb]
    have hd:=List.length_drop (i:=blaL r) (l:=r)
    have ih:=zB1 file cs n f (r.drop (blaL r)) (i+blaL r) true (by omega)
    exact ⟨by omega,ih.2⟩
  · rw [if_neg hb]
    have hp:=zAX r
    have hl:=zIQ r hr
    have hd:=List.length_drop (i:=(zq r).2) (l:=r)
    have ih:=zB1 file cs n f (r.drop (zq r).2) (i+(zq r).2) false (by omega)
    refine ⟨by rw [List.length_cons]; omega,fun t ht=>?_⟩
    rcases List.mem_cons.1 ht with rfl | ht
    · show (r.take (zq r).2).length<=n
      rw [List.length_take]; omega
    · exact ih.2 t ht
theorem zKS (file:Int) (t:Str):(tokS file t).length<=t.length/\∀ x ∈ tokS file t,x.text.length<=t.length:=by
 have h1:=zBB t 0
 have h2:(txt (chG t 0)).length=(chG t 0).length:=by unfold txt; rw [List.length_map]
 have:=zB1 file (chG t 0) t.length ((txt (chG t 0)).length+1) (txt (chG t 0)) 0 false (by omega)
 exact ⟨by have:=this.1; unfold tokS lexA; omega,this.2⟩
theorem c18_eq (fu m:Nat) (hfu:2000 < fu) (t:Str) (ht:t.length<=1000) (hm:13000 < m):∃ k0,∀ k,k0<=k->c18 fu m k (t,())=some (evT m t,()):=by
 have hf:=zKS 0 t
 obtain ⟨k0,hk⟩:=c9_eq fu m hfu (tokS 0 t) (by omega) (fun x hx=>by have:=hf.2 x hx; omega) hm
 refine ⟨k0,fun k h0=>?_⟩
 show sh18 fu (c9 fu m k) (c10 fu) (fun _=>false) t=_
 unfold sh18
 refine zP (c10_eq fu 0 t (by omega) (by omega)) ?_
 dsimp only
 refine zP (hk k h0) ?_
 unfold evT
 generalize evS m (tokS 0 t)=v
 obtain ⟨n,e⟩:=v
 dsimp only
 refine qJ (fun h=>?_) fun h=>?_
 · rw [if_neg h]
 · rw [if_pos h]
end
section
open Go.Al Go.Den
structure Dec (d:Str) (n:Nat):Prop where
 ne:d≠[]
 dig:∀ c ∈ d,48<=c.toNat/\c.toNat<=57
 num:numG 10 0 d=some (n,[])
 hd48:n≠0->d.head?≠some 48
 len:d.length<=10
 zero:n=0->d=[48]
theorem zNN {k:Nat} (h:k<=9):digN (48+k)=k:=by
 unfold digN
 rw [if_pos ⟨by omega,by omega⟩]
 omega
theorem zIx (fu N:Nat) (hN:N≠0) (hN2:N < 10000000000) (hfu:10000000000 < fu+9999999000) (pre:Str) (hpre:pre.length<=1) {F:((Int×(Str×PUnit))×PUnit->Option (Str×PUnit))->(Int×(Str×PUnit))×PUnit->Option (Str×PUnit)}
 (hF:∀ (m:Int) (d:Str) rec,F rec ((m,(d,())),())=cond (ilt 0 m)
  (cond (ine 10 0)
   (cond (okS ((List.length (qZ (fun x=>x) [(zM .u8 (iadd .i64 48 (irem m 10)))]))+(List.length d)))
    (cond (ine 10 0)
     (rec (((iquo .i64 m 10),(((qZ (fun x=>x) [(zM .u8 (iadd .i64 48 (irem m 10)))])++d),())),()))
     (none))
    (none))
   (none))
  (cond (seq d [])
   (some ([48],()))
   (cond (okS (pre.length+(List.length d)))
    (some ((pre++d),()))
    (none)))):∃ d,Dec d N/\iter fu F ((((N:Nat):Int),([],())),())=some (pre++d,()):=by
 have key:=zGm (F:=F) (fun o=>∃ d,Dec d N/\o=some (pre++d,())) (fun st=>∃ (m:Nat) (d:Str) (j:Nat),st=((((m:Int),(d,())),()):(Int×Str×PUnit)×PUnit)/\(∀ c ∈ d,48<=c.toNat/\c.toNat<=57)/\numG 10 m d=some (N,[])/\d.length+j=10/\m < 10 ^ j/\(m=0->d≠[]/\d.head?≠some 48))
  (fun st=>11 - st.1.2.1.length) ?_ fu ((((N:Nat):Int),([],())),()) ⟨N,[],10,rfl,(fun c h=>by cases h),rfl,rfl,hN2,fun h=>absurd h hN⟩ (by dsimp only; simp; omega)
 · exact key
 rintro rec st ⟨m,d,j,rfl,hd,hn,hj,hm,h0⟩ hrec
 rw [hF]
 by_cases hm0:m=0
 · subst hm0
   obtain ⟨hne,hhd⟩:=h0 rfl
   refine ⟨d,⟨hne,hd,hn,fun _=>hhd,by omega,fun h=>absurd h hN⟩,?_⟩
   refine zD (yS (Int.le_refl _)) (zD (yc hne) (zI (jE (by omega)) rfl))
 · have hj1:1<=j:=by
    rcases Nat.eq_zero_or_pos j with h | h
    · subst h
      have:m < 1:=hm
      omega
    · exact h
   obtain ⟨j',rfl⟩:∃ j',j=j' + 1:=⟨j - 1,by omega⟩
   have hm9:m < 10000000000:=by
    have h1:10 ^ (j' + 1)<=10 ^ 10:=Nat.pow_le_pow_right (by omega) (by omega)
    have h2:(10:Nat) ^ 10=10000000000:=by decide
    omega
   have er:irem (m:Int) 10=((m % 10:Nat):Int):=by
    unfold irem
    rw [Int.tmod_eq_emod_of_nonneg (by omega)]
    omega
   have eq:iquo .i64 (m:Int) 10=((m / 10:Nat):Int):=by
    unfold iquo
    rw [Int.tdiv_eq_ediv_of_nonneg (by omega)]
    have:(m:Int) / 10=((m / 10:Nat):Int):=by omega
    rw [this]
    exact IntWalk.i64_in _ (by omega)
   have ea:iadd .i64 48 ((m % 10:Nat):Int)=((48+m % 10:Nat):Int):=by rw [yr _ _ (by omega) (by omega)]; omega
   have ew:zM .u8 ((48+m % 10:Nat):Int)=((48+m % 10:Nat):Int):=by
    unfold zM IntKind.wrap
    simp only [IntKind.signed,IntKind.bits]
    simp
    omega
   have hb:(UInt8.ofNat (48+m % 10)).toNat=48+m % 10:=by rw [UInt8.toNat_ofNat']; omega
   have et:qZ (fun x=>x) [((48+m % 10:Nat):Int)]=[UInt8.ofNat (48+m % 10)]:=rfl
   rw [er,ea,ew,et,eq]
   have hrr:=hrec ((((m / 10:Nat):Int),(([UInt8.ofNat (48+m % 10)]++d),())),()) ⟨m / 10,UInt8.ofNat (48+m % 10)::d,j',rfl,fun c hc=>?_,?_,by simp only [List.length_cons]; omega,?_,fun h=>⟨by simp,?_⟩⟩ (by dsimp only; simp only [List.length_append,List.length_singleton]; omega)
   · obtain ⟨d',hd',h⟩:=hrr
     refine ⟨d',hd',?_⟩
     rw [<- h]
     exact zI (xi (by omega)) (zI rfl (zI (jE (by simp only [List.length_singleton]; omega)) (zI rfl rfl)))
   · rcases List.mem_cons.1 hc with rfl | hc
     · rw [hb]; omega
     · exact hd c hc
   · rw [numG,hb,zNN (by omega),if_neg (by omega),if_neg (by omega)]
     have:m / 10 * 10+m % 10=m:=by omega
     rw [this]
     exact hn
   · have:10 ^ (j' + 1)=10 ^ j' * 10:=Nat.pow_succ 10 j'
     omega
   · intro e
     injection e with e
     have:=congrArg UInt8.toNat e
     rw [hb] at this
     have h48:(48:UInt8).toNat=48:=rfl
     omega
noncomputable def c17 (fu:Nat) (x:Int×Unit):Option (Str×Unit):=sh17 fu (fun _=>false) x.1
theorem ok17 (fu:Nat):ConOk CC Tryd.prog 17 ⟨as17,rs17,c17 fu⟩:=con17 fu
theorem zMf (fu:Nat) (hfu:2000 < fu) (x:Int) (h1:-2147483648<=x) (h2:x<=2147483647):∃ d,Dec d x.natAbs/\c17 fu (x,())=some ((if x < 0 then [45] else [])++d,()):=by
 show ∃ d,Dec d x.natAbs/\(sh17 fu (fun _=>false) x:Option (Str×Unit))=some ((if x < 0 then [45] else [])++d,())
 unfold sh17
 have ew:zM .i64 x=x:=IntWalk.i64_in _ (by omega)
 rw [ew]
 by_cases hneg:x < 0
 · rw [if_pos hneg,xi hneg,cond_true]
   have e:isub .i64 0 x=((x.natAbs:Nat):Int):=by rw [zA9 _ _ (by omega) (by omega)]; omega
   rw [e]
   exact zIx fu x.natAbs (by omega) (by omega) (by omega) [45] (Nat.le_refl _) fun m d rec=>rfl
 · rw [if_neg hneg,yS (by omega),cond_false]
   by_cases h0:x=0
   · subst h0
     refine ⟨[48],⟨by decide,by decide,by decide,fun h=>absurd rfl h,by decide,fun _=>rfl⟩,?_⟩
     obtain ⟨f,rfl⟩:∃ f,fu=f+1:=⟨fu - 1,by omega⟩
     rfl
   · have e:x=((x.natAbs:Nat):Int):=by omega
     have:=zIx fu x.natAbs (by omega) (by omega) (by omega) [] (Nat.zero_le _) (F:=fun rec s1=>cond (ilt 0 s1.1.1)
      (cond (ine 10 0)
       (cond (okS ((List.length (qZ (fun x=>x) [(zM .u8 (iadd .i64 48 (irem s1.1.1 10)))]))+(List.length s1.1.2.1)))
        (cond (ine 10 0)
         (rec (((iquo .i64 s1.1.1 10),(((qZ (fun x=>x) [(zM .u8 (iadd .i64 48 (irem s1.1.1 10)))])++s1.1.2.1),())),()))
         (none))
        (none))
       (none))
      (cond (seq s1.1.2.1 [])
       (some ([48],()))
       (cond (okS (0+(List.length s1.1.2.1)))
        (some (([]++s1.1.2.1),()))
        (none)))) fun m d rec=>rfl
     rw [<- e] at this
     exact this
theorem zJS {d:Str} {n:Nat} (h:Dec d n):numS d=((n:Int),0,()):=by
 have hR:numR 10 d=((n:Int),0,()):=by
  unfold numR
  rw [h.num]
  dsimp only
  have hl:¬ ([]:Str).length=d.length:=fun e=>h.ne (List.eq_nil_of_length_eq_zero e.symm)
  rw [if_neg hl,if_pos (show zE8 []=true by decide)]
 by_cases h0:n=0
 · have:=h.zero h0
   subst this
   subst h0
   decide
 · have hh:=h.hd48 h0
   match d,h.ne with
   | [a],_=>
    rw [numS,if_neg (fun e=>hh (by rw [e]; rfl))]
    exact hR
   | a::b::r,_=>
    rw [numS,if_neg (fun e=>hh (by rw [e]; rfl))]
    exact hR
end
section
open Go.Al Go.Den
theorem zL6:∀ (t:Str) (i:Nat),(∀ c ∈ t,c≠92)->txt (chG t i)=t
 | [],_,_=>rfl
 | [a],i,_=>by
  show [UInt8.ofNat ((a.toNat:Int)).toNat]=[a]
  rw [Int.toNat_natCast,UInt8.ofNat_toNat]
 | a::b::r,i,h=>by
  have ha:=h a (by simp)
  have e:(a == 92 && b == 10)=false:=by
   have:(a == 92)=false:=by rw [beq_eq_false_iff_ne]; exact ha
   rw [this]; rfl
  have ih:=zL6 (b::r) (i+1) fun c hc=>h c (by simp [hc])
  unfold chG
  rw [e,cond_false]
  show UInt8.ofNat ((a.toNat:Int)).toNat::txt (chG (b::r) (i+1))=_
  rw [ih,Int.toNat_natCast,UInt8.ofNat_toNat]
def IsT (t:TokT) (k:Int) (x:Str):Prop:=t.kind=k/\t.text=x
theorem xy (cs:List CharT) (r:Str) (i:Nat) (b:Bool) (k:Int) (n:Nat) (x q:Str) (hr:r=x++q) (hx:x.length=n) (hne:r≠[]) (hb:blaL r=0) (hn:zq r=(k,n)):∃ t,IsT t k x/\lexA 0 cs r i b=t::lexA 0 cs q (i+n) false:=by
 rw [zFm,if_neg hne,if_neg (by omega),hn]
 have h1:r.take n=x:=by rw [hr,<- hx,List.take_left]
 have h2:r.drop n=q:=by rw [hr,<- hx,List.drop_left]
 refine ⟨⟨k,r.take n,0,(cs.getD i yX).fat,(cs.getD (i+n - 1) yX).fat+1,b⟩,⟨rfl,h1⟩,?_⟩
 dsimp only
 rw [h2]
theorem zGh {c:UInt8} (h:48<=c.toNat/\c.toNat<=57):c=48\/c=49\/c=50\/c=51\/c=52\/c=53\/c=54\/c=55\/c=56\/c=57:=by
 have e:∀ k:UInt8,c.toNat=k.toNat->c=k:=fun k hk=>UInt8.toNat_inj.1 hk
 have:c.toNat=48\/c.toNat=49\/c.toNat=50\/c.toNat=51\/c.toNat=52\/c.toNat=53\/c.toNat=54\/c.toNat=55\/c.toNat=56\/c.toNat=57:=by omega
 rcases this with h | h | h | h | h | h | h | h | h | h
 · exact .inl (e 48 h)
 · exact .inr (.inl (e 49 h))
 · exact .inr (.inr (.inl (e 50 h)))
 · exact .inr (.inr (.inr (.inl (e 51 h))))
 · exact .inr (.inr (.inr (.inr (.inl (e 52 h)))))
 · exact .inr (.inr (.inr (.inr (.inr (.inl (e 53 h))))))
 · exact .inr (.inr (.inr (.inr (.inr (.inr (.inl (e 54 h)))))))
 · exact .inr (.inr (.inr (.inr (.inr (.inr (.inr (.inl (e 55 h))))))))
 · exact .inr (.inr (.inr (.inr (.inr (.inr (.inr (.inr (.inl (e 56 h)))))))))
 · exact .inr (.inr (.inr (.inr (.inr (.inr (.inr (.inr (.inr (e 57 h)))))))))
theorem zGx:∀ (d R:Str),(∀ c ∈ d,48<=c.toNat/\c.toNat<=57)->numT (d++41::R)=d.length
 | [],R,_=>by
  rw [List.nil_append,zFk,if_neg (by show ¬ (expP 41/\_); unfold expP; omega),if_neg (by show ¬ aldP 41; unfold aldP letP digP; omega)]; rfl
 | c::d,R,h=>by
  have hc:=h c (by simp)
  have ih:=zGx d R fun c hc=>h c (by simp [hc])
  have hz:hd ((c::d)++41::R)=(c.toNat:Int):=rfl
  rw [zFk,hz,if_neg (by unfold expP; omega),if_pos (by unfold aldP digP; omega)]
  show numT (d++41::R)+1=d.length+1
  rw [ih]
theorem zJ7 (c:UInt8) (R:Str) (h:48<=c.toNat/\c.toNat<=57):blaL (c::R)=0:=by
 rcases zGh h with rfl | rfl | rfl | rfl | rfl | rfl | rfl | rfl | rfl | rfl <;> kernel_rfl
theorem zGy (d R:Str) (hne:d≠[]) (h:∀ c ∈ d,48<=c.toNat/\c.toNat<=57):zq (d++41::R)=(2,d.length):=by
 cases d with
 | nil=>exact absurd rfl hne
 | cons c d=>
  have hc:=h c (by simp)
  have hz:hd ((c::d)++41::R)=(c.toNat:Int):=rfl
  have hw:xt ((c::d)++41::R)=0:=by rw [zHi,hz,if_neg (by unfold letP; omega)]
  have hn:numL ((c::d)++41::R)=d.length+1:=by
   unfold numL
   rw [hz,if_pos (.inl (by unfold digP; omega))]
   show numT (d++41::R)+1=_
   rw [zGx d R fun c hc=>h c (by simp [hc])]
  unfold zq
  rw [hz,if_neg (by omega),hw,if_neg (by omega),hn,if_pos (by omega)]
  rfl
theorem zK9 (c:UInt8) (R:Str) (h:48<=c.toNat/\c.toNat<=57):zq (45::c::R)=(5,1):=by
 rcases zGh h with rfl | rfl | rfl | rfl | rfl | rfl | rfl | rfl | rfl | rfl <;> kernel_rfl
theorem zII (R:Str):blaL (40::R)=0:=by kernel_rfl
theorem zGV (R:Str):zq (40::R)=(5,1):=by kernel_rfl
theorem zIq (R:Str):blaL (41::R)=0:=by kernel_rfl
theorem zGt (R:Str):zq (41::R)=(5,1):=by kernel_rfl
theorem zL8 (R:Str):blaL (45::R)=0:=by kernel_rfl
theorem zOK (cs:List CharT) (d R:Str) (n i:Nat) (b:Bool) (hd:Dec d n):∃ t1 t3 t4 i',IsT t1 5 [40]/\IsT t3 2 d/\IsT t4 5 [41]/\lexA 0 cs (40::(d++41::R)) i b=t1::t3::t4::lexA 0 cs R i' false:=by
 obtain ⟨t1,h1,e1⟩:=xy cs (40::(d++41::R)) i b 5 1 [40] (d++41::R) rfl rfl (by simp) (zII _) (zGV _)
 obtain ⟨t3,h3,e3⟩:=xy cs (d++41::R) (i+1) false 2 d.length d (41::R) rfl rfl (by simp) (by
  cases hdd:d with
  | nil=>exact absurd hdd hd.ne
  | cons c q=>exact zJ7 c _ (hd.dig c (by rw [hdd]; simp))) (zGy d R hd.ne hd.dig)
 obtain ⟨t4,h4,e4⟩:=xy cs (41::R) (i+1+d.length) false 5 1 [41] R rfl rfl (by simp) (zIq _) (zGt _)
 exact ⟨t1,t3,t4,_,h1,h3,h4,by rw [e1,e3,e4]⟩
theorem zOc (cs:List CharT) (d R:Str) (n i:Nat) (b:Bool) (hd:Dec d n):∃ t1 t2 t3 t4 i',IsT t1 5 [40]/\IsT t2 5 [45]/\IsT t3 2 d/\IsT t4 5 [41]/\lexA 0 cs (40::45::(d++41::R)) i b=t1::t2::t3::t4::lexA 0 cs R i' false:=by
 obtain ⟨t1,h1,e1⟩:=xy cs (40::45::(d++41::R)) i b 5 1 [40] (45::(d++41::R)) rfl rfl (by simp) (zII _) (zGV _)
 obtain ⟨t2,h2,e2⟩:=xy cs (45::(d++41::R)) (i+1) false 5 1 [45] (d++41::R) rfl rfl (by simp) (zL8 _) (by
  cases hdd:d with
  | nil=>exact absurd hdd hd.ne
  | cons c q=>exact zK9 c _ (hd.dig c (by rw [hdd]; simp)))
 obtain ⟨t3,h3,e3⟩:=xy cs (d++41::R) (i+1+1) false 2 d.length d (41::R) rfl rfl (by simp) (by
  cases hdd:d with
  | nil=>exact absurd hdd hd.ne
  | cons c q=>exact zJ7 c _ (hd.dig c (by rw [hdd]; simp))) (zGy d R hd.ne hd.dig)
 obtain ⟨t4,h4,e4⟩:=xy cs (41::R) (i+1+1+d.length) false 5 1 [41] R rfl rfl (by simp) (zIq _) (zGt _)
 exact ⟨t1,t2,t3,t4,_,h1,h2,h3,h4,by rw [e1,e2,e3,e4]⟩
def B0 (e:Int):Int:=if (0:Int)=0 then e else 0
def numX (neg:Bool) (a:Int):VT:=if neg then .un [45] (.num a) else .num a
def mm:Nat:=13001
def nT (x:Int) (d:Str):Str:=(if x < 0 then [45] else [])++d
theorem zLq (x:Int) (h1:-2147483648<=x) (h2:x<=2147483647):vS (numX (decide (x < 0)) (x.natAbs:Int))=(x,0):=by
 unfold numX
 by_cases h:x < 0
 · rw [decide_eq_true h,if_pos rfl,vS,vS,if_pos rfl,unV,if_pos rfl]
   rw [zA9 _ _ (by omega) (by omega)]
   exact Prod.ext (by show 0 - (x.natAbs:Int)=x; omega) rfl
 · rw [decide_eq_false h,if_neg Bool.false_ne_true,vS]
   exact Prod.ext (by show (x.natAbs:Int)=x; omega) rfl
end
section
open Go.Al Go.Den
theorem wrp (x:Int):IntKind.i64.wrap x=(x+9223372036854775808) % 18446744073709551616 - 9223372036854775808:=by
 unfold IntKind.wrap
 simp only [IntKind.signed,IntKind.bits]
 simp
 (repeat' split) <;> omega
noncomputable def c45 (x:Bool×Unit):Option (Int×Unit):=sh45 0 (fun _=>false) x.1
theorem ok45:ConOk CC Tryd.prog 45 ⟨as45,rs45,c45⟩:=con45 0
noncomputable def c19 (fu:Nat) (x:Str×Int×Int×Unit):Option (Int×Int×Unit):=sh19 fu c45 (fun _=>false) x.1 x.2.1 x.2.2.1
theorem ok19 (fu:Nat):ConOk CC Tryd.prog 19 ⟨as19,rs19,c19 fu⟩:=con19 fu c45 ok45
def signs18:List Str:=[[124,124],[38,38],[124],[94],[38],[61,61],[33,61],[60],[62],[60,61],[62,61],[60,60],[62,62],[43],[45],[42],[47],[37]]
def R3 (p:Int×Int):Option (Int×Int×Unit):=some (p.1,p.2,())
theorem zKG {s:Str} {a b:Int} {v e:Int} (h:k111 (s,a,b,())=some (v,e,())):R3 (both s a b)=some (v,e,()):=by
 have:=zJu s a b
 rw [h] at this
 injection this with this
 unfold R3
 rw [<- this]
theorem zKk (x:Int):-9223372036854775808<=IntKind.i64.wrap x/\IntKind.i64.wrap x<=9223372036854775807:=by rw [wrp]; omega
theorem zKH {x:Int} (h1:-9223372036854775808<=x) (h2:x<=9223372036854775807):IntKind.i64.wrap x=x:=by rw [wrp]; omega
theorem zHl (x:Int):∃ q:Int,IntKind.i64.wrap x=x+18446744073709551616 * q:=⟨-((x+9223372036854775808) / 18446744073709551616),by rw [wrp]; omega⟩
theorem zI9 (x q:Int):IntKind.i64.wrap (x+18446744073709551616 * q)=IntKind.i64.wrap x:=by rw [wrp,wrp]; omega
theorem zEm (x c:Int):IntKind.i64.wrap (IntKind.i64.wrap x * c)=IntKind.i64.wrap (x * c):=by
 obtain ⟨q,hq⟩:=zHl x
 rw [hq,Int.add_mul,Int.mul_assoc,zI9]
theorem two_lt (fu:Nat) (hfu:2000 < fu) (a b:Int) (ha:-9223372036854775808<=a) (ha2:a<=9223372036854775807) (h0:0<=b) (h1:b<=63):c19 fu ([60,60],a,b,())=some (jshl .i64 a b,0,()):=by
 show sh19 fu c45 (fun _=>false) [60,60] a b=(some (jshl .i64 a b,0,()):Option (Int×Int×Unit))
 unfold sh19
 refine zD rfl (zD rfl (zD rfl (zD rfl (zD rfl (zD rfl (zD rfl (zD rfl (zD rfl (zD rfl (zD rfl (zD rfl (zD rfl (zD rfl (zI rfl ?_))))))))))))))
 refine zD (yS h0) (zD (yS h1) ?_)
 obtain ⟨n,rfl⟩:∃ n:Nat,b=(n:Int):=⟨b.toNat,by omega⟩
 have ej:jshl .i64 a (n:Int)=IntKind.i64.wrap (a * 2 ^ n):=by
  show IntKind.i64.wrap (a * 2 ^ (min (Int.toNat (n:Int)) 64))=_
  rw [Int.toNat_natCast,Nat.min_eq_left (by omega)]
 rw [ej]
 refine yz (fun st=>∃ (v:Int) (k:Nat),st=(((v,((k:Int),())),()):(Int×Int×PUnit)×PUnit)/\k<=n/\-9223372036854775808<=v/\v<=9223372036854775807/\IntKind.i64.wrap (v * 2 ^ (n - k))=IntKind.i64.wrap (a * 2 ^ n)) (fun st=>n - st.1.2.1.toNat) ?_ fu _ ⟨a,0,rfl,Nat.zero_le _,ha,ha2,by rw [Nat.sub_zero]⟩ (by show n - (0:Int).toNat < fu; omega)
 rintro rec st ⟨v,k,rfl,hk,hv1,hv2,hw⟩ hrec
 dsimp only
 refine xN (fun h=>?_) fun h=>?_
 · refine zI rfl ?_
   rw [i1 (k:=k) (by omega)]
   have e:imul .i64 v 2=IntKind.i64.wrap (v * 2):=rfl
   have hr:=zKk (v * 2)
   refine hrec _ ⟨imul .i64 v 2,k+1,rfl,by omega,hr.1,hr.2,?_⟩ (by dsimp only; omega)
   rw [e,zEm,<- hw]
   have e2:n - k=(n - (k+1))+1:=by omega
   rw [e2,Int.pow_succ,Int.mul_assoc,Int.mul_comm 2]
 · obtain rfl:k=n:=by omega
   rw [Nat.sub_self,Int.pow_zero,Int.mul_one,zKH hv1 hv2] at hw
   rw [hw]
theorem two_gt (fu:Nat) (hfu:2000 < fu) (a b:Int) (h0:0<=b) (h1:b<=63):c19 fu ([62,62],a,b,())=some (jshr .i64 a b,0,()):=by
 show sh19 fu c45 (fun _=>false) [62,62] a b=(some (jshr .i64 a b,0,()):Option (Int×Int×Unit))
 unfold sh19
 refine zD rfl (zD rfl (zD rfl (zD rfl (zD rfl (zD rfl (zD rfl (zD rfl (zD rfl (zD rfl (zD rfl (zD rfl (zD rfl (zD rfl (zD rfl (zI rfl ?_)))))))))))))))
 refine zD (yS h0) (zD (yS h1) ?_)
 obtain ⟨n,rfl⟩:∃ n:Nat,b=(n:Int):=⟨b.toNat,by omega⟩
 have ej:jshr .i64 a (n:Int)=a.fdiv (2 ^ n):=by
  show a.fdiv (2 ^ (min (Int.toNat (n:Int)) 64))=_
  rw [Int.toNat_natCast,Nat.min_eq_left (by omega)]
 rw [ej]
 refine yz (fun st=>∃ (v:Int) (k:Nat),st=(((v,((k:Int),())),()):(Int×Int×PUnit)×PUnit)/\k<=n/\v.fdiv (2 ^ (n - k))=a.fdiv (2 ^ n)) (fun st=>n - st.1.2.1.toNat) ?_ fu _ ⟨a,0,rfl,Nat.zero_le _,by rw [Nat.sub_zero]⟩ (by show n - (0:Int).toNat < fu; omega)
 rintro rec st ⟨v,k,rfl,hk,hw⟩ hrec
 dsimp only
 refine xN (fun h=>?_) fun h=>?_
 · refine zD rfl ?_
   rw [i1 (k:=k) (by omega)]
   have e:jshr .i64 v 1=v.fdiv 2:=rfl
   refine hrec _ ⟨jshr .i64 v 1,k+1,rfl,by omega,?_⟩ (by dsimp only; omega)
   rw [e,<- hw]
   have e2:n - k=(n - (k+1))+1:=by omega
   have hp:∀ m:Nat,(0:Int)<=2 ^ m:=fun m=>Int.le_of_lt (Int.pow_pos (by omega))
   rw [e2,Int.fdiv_eq_ediv_of_nonneg _ (hp _),Int.fdiv_eq_ediv_of_nonneg _ (by omega),Int.fdiv_eq_ediv_of_nonneg _ (hp _),Int.pow_succ,Int.mul_comm,Int.ediv_ediv,if_neg (fun h=>absurd h.1 (by omega)),Int.sub_zero]
 · obtain rfl:k=n:=by omega
   rw [Nat.sub_self,Int.pow_zero] at hw
   rw [<- hw,Int.fdiv_one]
theorem rem_eq (a b:Int) (ha:-9223372036854775808<=a) (ha2:a<=9223372036854775807):isub .i64 a (imul .i64 (iquo .i64 a b) b)=irem a b:=by
 show IntKind.i64.wrap (a - IntKind.i64.wrap (IntKind.i64.wrap (a.tdiv b) * b))=a.tmod b
 rw [zEm]
 obtain ⟨q,hq⟩:=zHl (a.tdiv b * b)
 have h1:a - IntKind.i64.wrap (a.tdiv b * b)=a.tmod b+18446744073709551616 * (-q):=by
  rw [hq]
  have:=Int.tdiv_mul_add_tmod a b
  generalize a.tdiv b * b=p at this ⊢
  omega
 rw [h1,zI9]
 have h2:(a.tmod b).natAbs<=a.natAbs:=by
  rw [Int.natAbs_tmod]
  exact Nat.mod_le _ _
 exact zKH (by omega) (by
  rcases Int.le_total 0 a with h | h
  · omega
  · have h3:=Int.tmod_nonneg b (show 0<=-a by omega)
    rw [Int.neg_tmod] at h3
    omega)
theorem zz {fu:Nat} {s:Str} {a b v:Int} (h1:c19 fu (s,a,b,())=some (v,0,())) (h2:k111 (s,a,b,())=some (v,0,())):c19 fu (s,a,b,())=R3 (both s a b):=h1.trans (zKG h2).symm
theorem kr {fu:Nat} {s:Str} {a b:Int} (c:Bool) (h1:c19 fu (s,a,b,())=Option.bind (c45 (c,())) fun y0=>some (y0.1,(0,()))) (h2:k111 (s,a,b,())=Option.bind (cond c (some ((1:Int),())) (some (0,()))) fun y0=>some (y0.1,(0,()))):c19 fu (s,a,b,())=R3 (both s a b):=by
 cases c
 · exact zz (v:=0) (h1.trans rfl) (h2.trans rfl)
 · exact zz (v:=1) (h1.trans rfl) (h2.trans rfl)
theorem zJ8 {fu:Nat} {s:Str} {a b:Int} (c:Bool) (h1:c19 fu (s,a,b,())=Option.bind (c45 (c,())) fun y0=>some (y0.1,(0,()))) (h2:k111 (s,a,b,())=cond c (some ((1:Int),((0:Int),()))) (some (0,(0,())))):c19 fu (s,a,b,())=R3 (both s a b):=by
 cases c
 · exact zz (v:=0) (h1.trans rfl) (h2.trans rfl)
 · exact zz (v:=1) (h1.trans rfl) (h2.trans rfl)
theorem kg {fu:Nat} {s:Str} {a b e:Int} (h1:c19 fu (s,a,b,())=some (0,e,())) (h2:k111 (s,a,b,())=some (0,e,())):c19 fu (s,a,b,())=R3 (both s a b):=h1.trans (zKG h2).symm
theorem zNA (fu:Nat) (hfu:2000 < fu) (s:Str) (hs:s ∈ signs18) (a b:Int) (ha:-9223372036854775808<=a) (ha2:a<=9223372036854775807):c19 fu (s,a,b,())=R3 (both s a b):=by
 simp only [signs18,List.mem_cons,List.not_mem_nil,or_false] at hs
 rcases hs with rfl | rfl | rfl | rfl | rfl | rfl | rfl | rfl | rfl | rfl | rfl | rfl | rfl | rfl | rfl | rfl | rfl | rfl
 · exact zJ8 (ine b 0) (by kernel_rfl) (by kernel_rfl)
 · exact zJ8 (ine b 0) (by kernel_rfl) (by kernel_rfl)
 · exact zz (v:=jor .i64 a b) (by kernel_rfl) (by kernel_rfl)
 · exact zz (v:=jxor .i64 a b) (by kernel_rfl) (by kernel_rfl)
 · exact zz (v:=jand .i64 a b) (by kernel_rfl) (by kernel_rfl)
 · exact kr (ieq a b) (by kernel_rfl) (by kernel_rfl)
 · exact kr (ine a b) (by kernel_rfl) (by kernel_rfl)
 · exact kr (ilt a b) (by kernel_rfl) (by kernel_rfl)
 · exact kr (ilt b a) (by kernel_rfl) (by kernel_rfl)
 · exact kr (ile a b) (by kernel_rfl) (by kernel_rfl)
 · exact kr (ile b a) (by kernel_rfl) (by kernel_rfl)
 · have e1:c19 fu ([60,60],a,b,())=c19 fu ([60,60],a,b,()):=rfl
   have e2:k111 ([60,60],a,b,())=cond (ilt b 0) (some (0,(93,()))) (cond (ilt 63 b) (some (0,(93,()))) (cond (ile 0 b) (some ((jshl .i64 a b),(0,()))) none)):=by kernel_rfl
   by_cases h0:b < 0
   · refine kg (e:=93) ?_ (e2.trans (zI (xi h0) rfl))
     show sh19 fu c45 (fun _=>false) [60,60] a b=(some (0,93,()):Option (Int×Int×Unit))
     unfold sh19
     exact zD rfl (zD rfl (zD rfl (zD rfl (zD rfl (zD rfl (zD rfl (zD rfl (zD rfl (zD rfl (zD rfl (zD rfl (zD rfl (zD rfl (zI rfl (zI (xi h0) rfl)))))))))))))))
   by_cases h1:63 < b
   · refine kg (e:=93) ?_ (e2.trans (zD (yS (by omega)) (zI (xi h1) rfl)))
     show sh19 fu c45 (fun _=>false) [60,60] a b=(some (0,93,()):Option (Int×Int×Unit))
     unfold sh19
     exact zD rfl (zD rfl (zD rfl (zD rfl (zD rfl (zD rfl (zD rfl (zD rfl (zD rfl (zD rfl (zD rfl (zD rfl (zD rfl (zD rfl (zI rfl (zD (yS (by omega)) (zI (xi h1) rfl))))))))))))))))
   · exact zz (two_lt fu hfu a b ha ha2 (by omega) (by omega)) (e2.trans (zD (yS (by omega)) (zD (yS (by omega)) (zI (zBg (by omega)) rfl))))
 · have e2:k111 ([62,62],a,b,())=cond (ilt b 0) (some (0,(93,()))) (cond (ilt 63 b) (some (0,(93,()))) (cond (ile 0 b) (some ((jshr .i64 a b),(0,()))) none)):=by kernel_rfl
   by_cases h0:b < 0
   · refine kg (e:=93) ?_ (e2.trans (zI (xi h0) rfl))
     show sh19 fu c45 (fun _=>false) [62,62] a b=(some (0,93,()):Option (Int×Int×Unit))
     unfold sh19
     exact zD rfl (zD rfl (zD rfl (zD rfl (zD rfl (zD rfl (zD rfl (zD rfl (zD rfl (zD rfl (zD rfl (zD rfl (zD rfl (zD rfl (zD rfl (zI rfl (zI (xi h0) rfl))))))))))))))))
   by_cases h1:63 < b
   · refine kg (e:=93) ?_ (e2.trans (zD (yS (by omega)) (zI (xi h1) rfl)))
     show sh19 fu c45 (fun _=>false) [62,62] a b=(some (0,93,()):Option (Int×Int×Unit))
     unfold sh19
     exact zD rfl (zD rfl (zD rfl (zD rfl (zD rfl (zD rfl (zD rfl (zD rfl (zD rfl (zD rfl (zD rfl (zD rfl (zD rfl (zD rfl (zD rfl (zI rfl (zD (yS (by omega)) (zI (xi h1) rfl)))))))))))))))))
   · exact zz (two_gt fu hfu a b (by omega) (by omega)) (e2.trans (zD (yS (by omega)) (zD (yS (by omega)) (zI (zBg (by omega)) rfl))))
 · exact zz (v:=iadd .i64 a b) (by kernel_rfl) (by kernel_rfl)
 · exact zz (v:=isub .i64 a b) (by kernel_rfl) (by kernel_rfl)
 · exact zz (v:=imul .i64 a b) (by kernel_rfl) (by kernel_rfl)
 · have e1:c19 fu ([47],a,b,())=cond (ieq b 0) (some (0,(92,()))) (cond (ine b 0) (some (iquo .i64 a b,(0,()))) none):=by kernel_rfl
   have e2:k111 ([47],a,b,())=cond (ieq b 0) (some (0,(92,()))) (cond (ieq b (Neg.neg 1)) (some (imul .i64 (isub .i64 0 a) 1,(0,()))) (cond (ine b 0) (some (iquo .i64 a b,(0,()))) none)):=by kernel_rfl
   by_cases h0:b=0
   · exact kg (e:=92) (e1.trans (zI (yi h0) rfl)) (e2.trans (zI (yi h0) rfl))
   · have e3:c19 fu ([47],a,b,())=some (iquo .i64 a b,(0,())):=e1.trans (zD (yb h0) (zI (jf h0) rfl))
     by_cases h1:b = -1
     · have e4:imul .i64 (isub .i64 0 a) 1=iquo .i64 a b:=by
        subst h1
        show IntKind.i64.wrap (IntKind.i64.wrap (0 - a) * 1)=IntKind.i64.wrap (a.tdiv (-1))
        rw [zEm,Int.tdiv_neg,Int.tdiv_one,Int.mul_one,Int.zero_sub]
       exact zz e3 (by rw [<- e4]; exact e2.trans (zD (yb h0) (zI (yi h1) rfl)))
     · exact zz e3 (e2.trans (zD (yb h0) (zD (yb h1) (zI (jf h0) rfl))))
 · have e1:c19 fu ([37],a,b,())=cond (ieq b 0) (some (0,(92,()))) (cond (ine b 0) (some (isub .i64 a (imul .i64 (iquo .i64 a b) b),(0,()))) none):=by kernel_rfl
   have e2:k111 ([37],a,b,())=cond (ieq b 0) (some (0,(92,()))) (cond (ieq b (Neg.neg 1)) (some (imul .i64 (isub .i64 0 a) 0,(0,()))) (cond (ine b 0) (some (irem a b,(0,()))) none)):=by kernel_rfl
   by_cases h0:b=0
   · exact kg (e:=92) (e1.trans (zI (yi h0) rfl)) (e2.trans (zI (yi h0) rfl))
   · have e3:c19 fu ([37],a,b,())=some (irem a b,(0,())):=by rw [<- rem_eq a b ha ha2]; exact e1.trans (zD (yb h0) (zI (jf h0) rfl))
     by_cases h1:b = -1
     · have e4:imul .i64 (isub .i64 0 a) 0=irem a b:=by
        subst h1
        show IntKind.i64.wrap (IntKind.i64.wrap (0 - a) * 0)=a.tmod (-1)
        rw [Int.mul_zero,Int.tmod_neg,Int.tmod_one]
        rfl
       exact zz e3 (by rw [<- e4]; exact e2.trans (zD (yb h0) (zI (yi h1) rfl)))
     · exact zz e3 (e2.trans (zD (yb h0) (zD (yb h1) (zI (jf h0) rfl))))
end
section
open Go.Al Go.Den
abbrev Q4:Type:=Int×Int×Int×Bool
def tk (k:Int) (x:Str) (q:Q4):TokT:=⟨k,x,q.1,q.2.1,q.2.2.1,q.2.2.2⟩
theorem zAl {t:TokT} {k:Int} {x:Str} (h:IsT t k x):∃ q,t=tk k x q:=by
 obtain ⟨k1,x1,f1,a1,c1,b1⟩:=t
 obtain ⟨rfl,rfl⟩:k1=k/\x1=x:=h
 exact ⟨(f1,a1,c1,b1),rfl⟩
def brT (neg:Bool) (d:Str) (q1 q2 q3 q4:Q4):List TokT:=if neg then [tk 5 [40] q1,tk 5 [45] q2,tk 2 d q3,tk 5 [41] q4] else [tk 5 [40] q1,tk 2 d q3,tk 5 [41] q4]
theorem lexBr (neg:Bool) (cs:List CharT) (d R:Str) (n i:Nat) (b:Bool) (hd:Dec d n):∃ q1 q2 q3 q4 i',lexA 0 cs (40::((if neg then [45] else [])++(d++41::R))) i b=brT neg d q1 q2 q3 q4++lexA 0 cs R i' false:=by
 cases neg with
 | false=>
  obtain ⟨t1,t3,t4,i',h1,h3,h4,e⟩:=zOK cs d R n i b hd
  obtain ⟨q1,rfl⟩:=zAl h1
  obtain ⟨q3,rfl⟩:=zAl h3
  obtain ⟨q4,rfl⟩:=zAl h4
  exact ⟨q1,q1,q3,q4,i',e⟩
 | true=>
  obtain ⟨t1,t2,t3,t4,i',h1,h2,h3,h4,e⟩:=zOc cs d R n i b hd
  obtain ⟨q1,rfl⟩:=zAl h1
  obtain ⟨q2,rfl⟩:=zAl h2
  obtain ⟨q3,rfl⟩:=zAl h3
  obtain ⟨q4,rfl⟩:=zAl h4
  exact ⟨q1,q2,q3,q4,i',e⟩
theorem zOq (s:Str) (hs:s ∈ signs18) (cs:List CharT) (R:Str) (i:Nat) (b:Bool):∃ q,lexA 0 cs (s++40::R) i b=tk 5 s q::lexA 0 cs (40::R) (i+s.length) false:=by
 have h:s++40::R≠[]/\blaL (s++40::R)=0/\zq (s++40::R)=(5,s.length):=by
  simp only [signs18,List.mem_cons,List.not_mem_nil,or_false] at hs
  rcases hs with rfl | rfl | rfl | rfl | rfl | rfl | rfl | rfl | rfl | rfl | rfl | rfl | rfl | rfl | rfl | rfl | rfl | rfl <;> exact ⟨by simp,by kernel_rfl,by kernel_rfl⟩
 obtain ⟨t,ht,e⟩:=xy cs (s++40::R) i b 5 s.length s (40::R) rfl rfl h.1 h.2.1 h.2.2
 obtain ⟨q,rfl⟩:=zAl ht
 exact ⟨q,e⟩
def B2 (e1 e2:Int):Int:=if B0 e1=0 then e2 else B0 e1
theorem r00 (s:Str) (hs:s ∈ signs18) (d1 d2:Str) (q1 q2 q3 q4 q5 q6 q7:Q4):(pf mm).cho 0 (noNl [tk 5 [40] q1,tk 2 d1 q2,tk 5 [41] q3,tk 5 s q4,tk 5 [40] q5,tk 2 d2 q6,tk 5 [41] q7]) 0=some (.bin s (.num (numS d1).1) (.num (numS d2).1),[],B2 (numS d1).2.1 (numS d2).2.1):=by
 simp only [signs18,List.mem_cons,List.not_mem_nil,or_false] at hs
 rcases hs with rfl | rfl | rfl | rfl | rfl | rfl | rfl | rfl | rfl | rfl | rfl | rfl | rfl | rfl | rfl | rfl | rfl | rfl <;> kernel_rfl
theorem r10 (s:Str) (hs:s ∈ signs18) (d1 d2:Str) (q0 q1 q2 q3 q4 q5 q6 q7:Q4):(pf mm).cho 0 (noNl [tk 5 [40] q1,tk 5 [45] q0,tk 2 d1 q2,tk 5 [41] q3,tk 5 s q4,tk 5 [40] q5,tk 2 d2 q6,tk 5 [41] q7]) 0=some (.bin s (.un [45] (.num (numS d1).1)) (.num (numS d2).1),[],B2 (numS d1).2.1 (numS d2).2.1):=by
 simp only [signs18,List.mem_cons,List.not_mem_nil,or_false] at hs
 rcases hs with rfl | rfl | rfl | rfl | rfl | rfl | rfl | rfl | rfl | rfl | rfl | rfl | rfl | rfl | rfl | rfl | rfl | rfl <;> kernel_rfl
theorem r01 (s:Str) (hs:s ∈ signs18) (d1 d2:Str) (q1 q2 q3 q4 q5 q6 q7 q8:Q4):(pf mm).cho 0 (noNl [tk 5 [40] q1,tk 2 d1 q2,tk 5 [41] q3,tk 5 s q4,tk 5 [40] q5,tk 5 [45] q8,tk 2 d2 q6,tk 5 [41] q7]) 0=some (.bin s (.num (numS d1).1) (.un [45] (.num (numS d2).1)),[],B2 (numS d1).2.1 (numS d2).2.1):=by
 simp only [signs18,List.mem_cons,List.not_mem_nil,or_false] at hs
 rcases hs with rfl | rfl | rfl | rfl | rfl | rfl | rfl | rfl | rfl | rfl | rfl | rfl | rfl | rfl | rfl | rfl | rfl | rfl <;> kernel_rfl
theorem r11 (s:Str) (hs:s ∈ signs18) (d1 d2:Str) (q0 q1 q2 q3 q4 q5 q6 q7 q8:Q4):(pf mm).cho 0 (noNl [tk 5 [40] q1,tk 5 [45] q0,tk 2 d1 q2,tk 5 [41] q3,tk 5 s q4,tk 5 [40] q5,tk 5 [45] q8,tk 2 d2 q6,tk 5 [41] q7]) 0=some (.bin s (.un [45] (.num (numS d1).1)) (.un [45] (.num (numS d2).1)),[],B2 (numS d1).2.1 (numS d2).2.1):=by
 simp only [signs18,List.mem_cons,List.not_mem_nil,or_false] at hs
 rcases hs with rfl | rfl | rfl | rfl | rfl | rfl | rfl | rfl | rfl | rfl | rfl | rfl | rfl | rfl | rfl | rfl | rfl | rfl <;> kernel_rfl
theorem cho_to {l l':List TokT} {o o':Option PR} (e:l=l') (h:(pf mm).cho 0 (noNl l') 0=o') (ho:o' = o):(pf mm).cho 0 (noNl l) 0=o:=by subst e; exact h.trans ho
theorem zFh {v:VT} {l:List TokT} {b c:Int} (h:b=c):(some (v,l,b):Option PR)=some (v,l,c):=by rw [h]
def twoR (neg1 neg2:Bool) (d1 s d2:Str):Str:=40::((if neg1 then [45] else [])++(d1++41::(s++40::((if neg2 then [45] else [])++(d2++41::[])))))
theorem zOE (neg1 neg2:Bool) (s:Str) (hs:s ∈ signs18) {d1 d2:Str} {n1 n2:Nat} (h1:Dec d1 n1) (h2:Dec d2 n2) (cs:List CharT) :
 ∃ q1 q2 q3 q4 q p1 p2 p3 p4,lexA 0 cs (twoR neg1 neg2 d1 s d2) 0 false=brT neg1 d1 q1 q2 q3 q4++tk 5 s q::(brT neg2 d2 p1 p2 p3 p4++[]):=by
 unfold twoR
 obtain ⟨q1,q2,q3,q4,i',e1⟩:=lexBr neg1 cs d1 (s++40::((if neg2 then [45] else [])++(d2++41::[]))) n1 0 false h1
 obtain ⟨q,e2⟩:=zOq s hs cs ((if neg2 then [45] else [])++(d2++41::[])) i' false
 obtain ⟨p1,p2,p3,p4,j',e3⟩:=lexBr neg2 cs d2 [] n2 (i' + s.length) false h2
 have e4:lexA 0 cs [] j' false=[]:=by rw [zFm,if_pos rfl]
 rw [e4] at e3
 rw [e3] at e2
 rw [e2] at e1
 exact ⟨q1,q2,q3,q4,q,p1,p2,p3,p4,e1⟩
theorem zNh (neg1 neg2:Bool) (s:Str) (hs:s ∈ signs18) {d1 d2:Str} {n1 n2:Nat} (h1:Dec d1 n1) (h2:Dec d2 n2) (q1 q2 q3 q4 q p1 p2 p3 p4:Q4) :
 ∃ l',brT neg1 d1 q1 q2 q3 q4++tk 5 s q::(brT neg2 d2 p1 p2 p3 p4++[])=l'/\∃ o,(pf mm).cho 0 (noNl l') 0=o/\o=some (.bin s (numX neg1 (n1:Int)) (numX neg2 (n2:Int)),[],0):=by
 have hv1:=zJS h1
 have hv2:=zJS h2
 have hB:B2 0 0=0:=by decide
 cases neg1 with
 | false=>
  cases neg2 with
  | false=>
   have hh:=r00 s hs d1 d2 q1 q3 q4 q p1 p3 p4
   refine ⟨_,?_,_,hh,?_⟩
   · rfl
   · rw [hv1,hv2]; exact zFh hB
  | true=>
   have hh:=r01 s hs d1 d2 q1 q3 q4 q p1 p3 p4 p2
   refine ⟨_,?_,_,hh,?_⟩
   · rfl
   · rw [hv1,hv2]; exact zFh hB
 | true=>
  cases neg2 with
  | false=>
   have hh:=r10 s hs d1 d2 q2 q1 q3 q4 q p1 p3 p4
   refine ⟨_,?_,_,hh,?_⟩
   · rfl
   · rw [hv1,hv2]; exact zFh hB
  | true=>
   have hh:=r11 s hs d1 d2 q2 q1 q3 q4 q p1 p3 p4 p2
   refine ⟨_,?_,_,hh,?_⟩
   · rfl
   · rw [hv1,hv2]; exact zFh hB
theorem zNX (neg1 neg2:Bool) (s:Str) (hs:s ∈ signs18) {d1 d2:Str} {n1 n2:Nat} (h1:Dec d1 n1) (h2:Dec d2 n2) (cs:List CharT) :
 (pf mm).cho 0 (noNl (lexA 0 cs (twoR neg1 neg2 d1 s d2) 0 false)) 0=some (.bin s (numX neg1 (n1:Int)) (numX neg2 (n2:Int)),[],0):=by
 obtain ⟨q1,q2,q3,q4,q,p1,p2,p3,p4,e1⟩:=zOE neg1 neg2 s hs h1 h2 cs
 obtain ⟨l',el,o,ho,e2⟩:=zNh neg1 neg2 s hs h1 h2 q1 q2 q3 q4 q p1 p2 p3 p4
 exact cho_to (e1.trans el) ho e2
theorem evS_of {m:Nat} {l:List TokT} {v:VT} (h:(pf m).cho 0 (noNl l) 0=some (v,[],0)):evS m l=vS v:=by
 unfold evS
 rw [h]
 rfl
noncomputable def twoV (s:Str) (x y:Int):Int×Int:=if s=[124,124]/\x≠0 then (1,0) else if s=[38,38]/\x=0 then (0,0) else both s x y
theorem zGc {s:Str} (hs:s ∈ signs18):s.length<=2/\∀ c ∈ s,c≠92:=by
 simp only [signs18,List.mem_cons,List.not_mem_nil,or_false] at hs
 rcases hs with rfl | rfl | rfl | rfl | rfl | rfl | rfl | rfl | rfl | rfl | rfl | rfl | rfl | rfl | rfl | rfl | rfl | rfl <;> exact ⟨by decide,by decide⟩
theorem nT_92 (x:Int) {d:Str} {n:Nat} (hd:Dec d n):∀ c ∈ nT x d,c≠92:=by
 intro c hc e
 subst e
 unfold nT at hc
 rw [List.mem_append] at hc
 rcases hc with hc | hc
 · by_cases h:x < 0
   · rw [if_pos h] at hc; exact absurd hc (by decide)
   · rw [if_neg h] at hc; cases hc
 · exact absurd (hd.dig 92 hc) (by decide)
theorem zOQ (x y:Int) (hx1:-2147483648<=x) (hx2:x<=2147483647) (hy1:-2147483648<=y) (hy2:y<=2147483647) (s:Str) (hs:s ∈ signs18) {d1 d2:Str} (h1:Dec d1 x.natAbs) (h2:Dec d2 y.natAbs) :
 evT mm (((((([40]++nT x d1)++[41])++s)++[40])++nT y d2)++[41])=if (twoV s x y).2=0 then (twoV s x y).1 else isub .i64 (-1000) (twoV s x y).2:=by
 have e0:((((([40]++nT x d1)++[41])++s)++[40])++nT y d2)++[41]=twoR (decide (x < 0)) (decide (y < 0)) d1 s d2:=by
  unfold twoR nT
  simp only [decide_eq_true_eq,List.append_assoc,List.cons_append,List.nil_append]
 have h92:∀ c ∈ ((((([40]++nT x d1)++[41])++s)++[40])++nT y d2)++[41],c≠92:=by
  intro c hc
  simp only [List.mem_append,List.mem_singleton] at hc
  rcases hc with (((((hc | hc) | hc) | hc) | hc) | hc) | hc
  · rw [hc]; decide
  · exact nT_92 x h1 c hc
  · rw [hc]; decide
  · exact (zGc hs).2 c hc
  · rw [hc]; decide
  · exact nT_92 y h2 c hc
  · rw [hc]; decide
 generalize ((((([40]++nT x d1)++[41])++s)++[40])++nT y d2)++[41]=T at e0 h92
 have h0:=zNX (decide (x < 0)) (decide (y < 0)) s hs h1 h2 (chG T 0)
 rw [<- e0] at h0
 have h5:tokS 0 T=lexA 0 (chG T 0) T 0 false:=by unfold tokS; rw [zL6 T 0 h92]
 rw [<- h5] at h0
 have h6:=evS_of h0
 have h4:vS (.bin s (numX (decide (x < 0)) (x.natAbs:Int)) (numX (decide (y < 0)) (y.natAbs:Int)))=twoV s x y:=by
  rw [vS,zLq x hx1 hx2,zLq y hy1 hy2,if_pos rfl,if_pos rfl]
  rfl
 rw [h4] at h6
 unfold evT
 rw [h6]
theorem fin5 (y v e:Int) (h:y=if e=0 then v else isub .i64 (-1000) e):cond (ine e 0) (cond true (some ((ieq y (isub .i64 (Neg.neg 1000) e)),())) (some (false,()))) (cond true (some ((ieq y v),())) (some (false,())))=some (true,()):=by
 by_cases h0:e=0
 · rw [if_pos h0] at h
   refine zD (zKU h0) ?_
   rw [cond_true,yi h]
 · rw [if_neg h0] at h
   refine zI (jf h0) ?_
   rw [cond_true,yi h]
theorem sg_mem (x2:Int) (h:¬ x2 < 0) (h2:¬ 17 < x2):List.getD signs18 (Int.toNat x2) [] ∈ signs18:=by
 have hl:x2.toNat < signs18.length:=by show x2.toNat < 18; omega
 have e:List.getD signs18 (Int.toNat x2) []=signs18[x2.toNat]:=by unfold List.getD; rw [List.getElem?_eq_getElem hl]; rfl
 rw [e]
 exact List.getElem_mem hl
theorem zNd (x y x2:Int) (hx1:-2147483648<=x) (hx2:x<=2147483647) (hy1:-2147483648<=y) (hy2:y<=2147483647):∃ k,sh5 3000 c8t (c17 3000) (c18 3000 mm k) (c19 3000) (fun _=>false) x y x2=some (true,()):=by
 obtain ⟨d1,hd1,h17⟩:=zMf 3000 (by omega) x hx1 hx2
 obtain ⟨d2,hd2,h17'⟩:=zMf 3000 (by omega) y hy1 hy2
 have hl:∀ (x:Int) (d:Str) (n:Nat),Dec d n->(nT x d).length<=11:=by
  intro x d n hd
  unfold nT
  have:=hd.len
  rw [List.length_append]
  by_cases h:x < 0
  · rw [if_pos h]; simp only [List.length_singleton]; omega
  · rw [if_neg h]; simp only [List.length_nil]; omega
 have hl1:=hl x d1 _ hd1
 have hl2:=hl y d2 _ hd2
 by_cases h0:x2 < 0
 · refine ⟨0,?_⟩
   unfold sh5
   refine zP (v:=(true,())) rfl ?_
   exact zI (xi h0) rfl
 by_cases h1:17 < x2
 · refine ⟨0,?_⟩
   unfold sh5
   refine zP (v:=(true,())) rfl ?_
   exact zD (yS (by omega)) (zI (xi h1) rfl)
 have hs:=sg_mem x2 h0 h1
 have ht:=zOQ x y hx1 hx2 hy1 hy2 _ hs hd1 hd2
 have hs2:=(zGc hs).1
 have hmm:13000 < mm:=by decide
 have hlT:(((((([40]++nT x d1)++[41])++(List.getD signs18 (Int.toNat x2) []))++[40])++nT y d2)++[41]).length<=1000:=by
  simp only [List.length_append,List.length_singleton]; omega
 obtain ⟨k,ek⟩:=c18_eq 3000 mm (by omega) _ hlT hmm
 replace ek:=ek k (Nat.le_refl _)
 rw [ht] at ek
 have h19:=zNA 3000 (by omega) _ hs x y (by omega) (by omega)
 have ex:zM .i64 x=x:=IntWalk.i64_in _ (by omega)
 have ey:zM .i64 y=y:=IntWalk.i64_in _ (by omega)
 refine ⟨k,?_⟩
 generalize c18 3000 mm k=C18 at ek ⊢
 generalize c19 3000=C19 at h19 ⊢
 unfold sh5
 refine zP (v:=(true,())) rfl ?_
 refine zD (yS (by omega)) (zD (yS (by omega)) ?_)
 refine zP h17 ?_
 refine zP h17' ?_
 refine zI (xk (by omega) (by omega)) ?_
 show _=_
 rw [ex,ey]
 change _=(some (true,()):Option (Bool×Unit))
 unfold signs18 at ek h19 hs2
 generalize (List.getD ([[124,124],[38,38],[124],[94],[38],[61,61],[33,61],[60],[62],[60,61],[62,61],[60,60],[62,62],[43],[45],[42],[47],[37]]:List Str) (Int.toNat x2) []:Str)=s at ek h19 hs2 ⊢
 change (_:Option (Bool×Unit))=_
 generalize hr:(if (twoV s x y).2=0 then (twoV s x y).1 else isub .i64 (-1000) (twoV s x y).2)=r at ek
 refine zI (jE (by show 1+(nT x d1).length<=_; omega)) ?_
 refine zI (jE (by show ([40]++nT x d1).length+1<=_; simp only [List.length_append,List.length_singleton]; omega)) ?_
 refine zI (jE (by show (([40]++nT x d1)++[41]).length+s.length<=_; simp only [List.length_append,List.length_singleton]; omega)) ?_
 refine zI (jE (by show ((([40]++nT x d1)++[41])++s).length+1<=_; simp only [List.length_append,List.length_singleton]; omega)) ?_
 refine zI (jE (by show (((([40]++nT x d1)++[41])++s)++[40]).length+(nT y d2).length<=_; simp only [List.length_append,List.length_singleton]; omega)) ?_
 refine zI (jE (by show ((((([40]++nT x d1)++[41])++s)++[40])++nT y d2).length+1<=_; simp only [List.length_append,List.length_singleton]; omega)) ?_
 refine zP ek ?_
 refine zP h19 ?_
 dsimp only
 by_cases hs1:s=[124,124]
 · refine zI (xZ hs1) ?_
   have hn:s≠[38,38]:=by rw [hs1]; decide
   by_cases hx:x=0
   · refine zD (zKU hx) (zD (yc hn) ?_)
     have e:twoV s x y=both s x y:=by unfold twoV; rw [if_neg (fun h=>h.2 hx),if_neg (fun h=>hn h.1)]
     rw [e] at hr
     exact fin5 _ _ _ hr.symm
   · refine zI (jf hx) (zD (yc hn) ?_)
     have e:twoV s x y=(1,0):=by unfold twoV; rw [if_pos ⟨hs1,hx⟩]
     rw [e] at hr
     exact fin5 _ 1 0 hr.symm
 · refine zD (yc hs1) ?_
   have e0:twoV s x y=if s=[38,38]/\x=0 then (0,0) else both s x y:=by unfold twoV; rw [if_neg (fun h=>hs1 h.1)]
   by_cases hs3:s=[38,38]
   · refine zI (xZ hs3) ?_
     by_cases hx:x=0
     · refine zI (yi hx) ?_
       rw [if_pos ⟨hs3,hx⟩] at e0
       rw [e0] at hr
       exact fin5 _ 0 0 hr.symm
     · refine zD (yb hx) ?_
       rw [if_neg (fun h=>hx h.2)] at e0
       rw [e0] at hr
       exact fin5 _ _ _ hr.symm
   · refine zD (yc hs3) ?_
     rw [if_neg (fun h=>hs3 h.1)] at e0
     rw [e0] at hr
     exact fin5 _ _ _ hr.symm
def u5 (x:Int×Int×Int×Unit):Option (Bool×Unit):=if (-2147483648<=x.1/\x.1<=2147483647)/\(-2147483648<=x.2.1/\x.2.1<=2147483647) then some (true,()) else none
theorem ok5:ConOk CC Tryd.prog 5 ⟨as5,rs5,u5⟩:=fun x y hx=>by
 obtain ⟨z,z1,z2,u⟩:=x
 change Int at z
 change Int at z1
 change Int at z2
 by_cases h:(-2147483648<=z/\z<=2147483647)/\(-2147483648<=z1/\z1<=2147483647)
 · have h2:u5 (z,z1,z2,u)=some (true,()):=if_pos h
   replace hx:u5 (z,z1,z2,u)=some y:=hx
   rw [h2] at hx
   injection hx with hx
   subst hx
   obtain ⟨k,hk⟩:=zNd z z1 z2 h.1.1 h.1.2 h.2.1 h.2.2
   exact con5 3000 c8t ok8t (c17 3000) (ok17 3000) (c18 3000 mm k) (ok18 3000 mm k) (c19 3000) (ok19 3000) (z,z1,z2,u) (true,()) hk
 · have h2:u5 (z,z1,z2,u)=none:=if_neg h
   replace hx:u5 (z,z1,z2,u)=some y:=hx
   rw [h2] at hx
   cases hx
end
end Go.Proofs.YtonnigoiklahdaaDoor
namespace Go.Proofs.YtonnigoiklahdaaDoor.ifexprTwo
section
open Go.Al Go.Den Go.ChangeShapes Go.WideShapes Go.ChangeAt Go.RowKit
open Go.ChangeMaps (open_string shut_string)
theorem own:ownKnob Tryd.prog.godebug=none:=by kernel_rfl
theorem laidOut:laidOutB Tryd.prog=true:=by kernel_rfl
theorem walk (z0:Int) (r0:-2147483648<=z0/\z0<=2147483647) (z1:Int) (r1:-2147483648<=z1/\z1<=2147483647) (z2:Int) (W:World) (hgl:GlobOk W.heap.size (wmOf W) W) (v0 v1 v2:Value) (h0:RV1 ⟨wmOf W,fun _=>none,Fr.no⟩ W (.at (.int .i32 z0)) v0) (h1:RV1 ⟨wmOf W,fun _=>none,Fr.no⟩ W (.at (.int .i32 z1)) v1) (h2:RV1 ⟨wmOf W,fun _=>none,Fr.no⟩ W (.at (.int .i64 z2)) v2):Calls Tryd.prog 5 #[v0,v1,v2] W fun e W'=>e = .returned (.bool true)/\Below W.heap.size W W':=by
 have hp:=ok5 (z0,z1,z2,()) (true,()) (if_pos ⟨r0,r1⟩) _ ⟨_,_,rfl,rfl,⟨_,_,rfl,rfl,⟨_,_,rfl,rfl,rfl⟩⟩⟩
 refine (hp (wmOf W) W [v0,v1,v2] (zK8 W) hgl (.cons h0 (.cons h1 (.cons h2 RVs.nil)))).mono ?_
 rintro e W' ⟨v,wm',rfl,_,hst,hr⟩
 have hv:v = .bool true:=zR hr
 subst hv
 exact ⟨rfl,hst.below⟩
set_option maxRecDepth 100000 in
theorem lifted (os:Os) (started:os.Started) (H:Type) (enc:TypeId×Value->H) :
 ReturnsInHanded {} Tryd.checked os 5 .any (fun w args=>(Rows.ifexprTwoSpec.pre enc Tryd.prog Tryd.f5 [] false w args/\laidMetH Tryd.prog zE4 w)/\sizedMet enc Tryd.prog Tryd.f5 (OpenSpec.ofChange Rows.ifexprTwoSpec) false w args)
  (Rows.ifexprTwoSpec.post enc Tryd.prog Tryd.f5 false true false false):=by
 refine zCY (C:=Tryd.checked) (X:=fun w _=>laidMetH Tryd.prog zE4 w) (fun _ _ _ hh h=>laidMetH.of_heap hh h) own started (by kernel_rfl) Tryd.func5
  (ChangeSpec.witness_shaped (enc:=enc) (C:=Tryd.checked) (os:=os) (X:=fun w _=>laidMetH Tryd.prog zE4 w) false (World.doorLaid Tryd.prog 400 os) #[.int .i32 0,.int .i32 0,.int .i64 0] 8 rfl (World.shaped_of_RefB (by kernel_rfl) (by kernel_rfl)) (by kernel_rfl) (by kernel_rfl) (by kernel_rfl) (zNO os _)) ?_
 intro W base args ds gs before hval0 hW hsh hL
 have hval:∀ (j:Nat) t v,Tryd.f5.params[j]? = some t->args[j]? = some v->Value.okWide Tryd.prog W .any base t v:=hval0
 have hW':=hW
 obtain ⟨p,q,hA0,hV,rfl,hfz,hnd⟩:=hW
 have hA:DataW.TrodAll enc Tryd.prog W 0 (fun _=>true) true Tryd.f5.params.toList args.toList ds p:=hA0
 rw [Tryd.params5] at hA hval
 obtain ⟨v0,vs0,d0,ds0,p0,q0,hargs,rfl,rfl,h0,r0⟩:=trodAll_cons hA
 obtain ⟨v1,vs1,d1,ds1,p1,q1,rfl,rfl,rfl,h1,r1⟩:=trodAll_cons r0
 obtain ⟨v2,vs2,d2,ds2,p2,q2,rfl,rfl,rfl,h2,r2⟩:=trodAll_cons r1
 obtain ⟨rfl,rfl,rfl⟩:=trodAll_nil r2
 obtain rfl:args = #[v0,v1,v2]:=by cases args; simp_all
 obtain ⟨rfl,rfl⟩:=trodVars_none hV
 have hgl:=zF0 hsh hL
 have k0:=h0
 have lt0:∀ x ∈ p0,x.block < W.heap.size:=by obtain ⟨m,hm⟩:=k0; exact DataW.trod_lt m _ _ _ hm
 obtain ⟨z0,rfl,rfl,rfl,w0⟩:=open_int Tryd.underlying21 (hval 0 21 v0 rfl rfl) h0
 have rr0:-2147483648<=z0/\z0<=2147483647:=by
  have w:=w0
  simp only [Lit.wf,Bool.and_eq_true,decide_eq_true_iff] at w
  exact w
 have k1:=h1
 have lt1:∀ x ∈ p1,x.block < W.heap.size:=by obtain ⟨m,hm⟩:=k1; exact DataW.trod_lt m _ _ _ hm
 obtain ⟨z1,rfl,rfl,rfl,w1⟩:=open_int Tryd.underlying21 (hval 1 21 v1 rfl rfl) h1
 have rr1:-2147483648<=z1/\z1<=2147483647:=by
  have w:=w1
  simp only [Lit.wf,Bool.and_eq_true,decide_eq_true_iff] at w
  exact w
 have k2:=h2
 have lt2:∀ x ∈ p2,x.block < W.heap.size:=by obtain ⟨m,hm⟩:=k2; exact DataW.trod_lt m _ _ _ hm
 obtain ⟨z2,rfl,rfl,rfl,w2⟩:=open_int Tryd.underlying3 (hval 2 3 v2 rfl rfl) h2
 clear hA0 hval0
 refine (walk z0 rr0 z1 rr1 z2 W hgl _ _ _ (zGL .i32 z0) (zGL .i32 z1) (zGL .i64 z2)).mono fun e W' ⟨he,bel⟩=>?_
 subst he
 exact ⟨_,rfl,_,_,_,[],_,[],hW',trodAll_mk1 (shut_bool Tryd.underlying4 _),(trodAll_cons_mk (Below.trod laidOut (by kernel_rfl) (of_decide_eq_true (by kernel_rfl)) k0 bel lt0) (trodAll_cons_mk (Below.trod laidOut (by kernel_rfl) (of_decide_eq_true (by kernel_rfl)) k1 bel lt1) (trodAll_cons_mk (Below.trod laidOut (by kernel_rfl) (of_decide_eq_true (by kernel_rfl)) k2 bel lt2) trodAll_mk0))),rfl,bel.frame _,fun h=>by cases h⟩
theorem over:Rows.IfexprTwoSaid:=
 OpenClaim.holds_of_wide 5 Tryd.f5 rfl rfl rfl rfl rfl rfl rfl ⟨rfl,rfl,rfl,rfl,rfl⟩ rfl rfl rfl rfl rfl (by kernel_rfl) Tryd.func5 (by kernel_rfl)
  (of_decide_eq_true (by kernel_rfl)) (by unfold Func.isWrapper; first | (rw [if_pos (by decide +kernel)]; kernel_rfl) | (rw [if_neg (by decide +kernel)]; exact ⟨rfl,rfl⟩))
  (fun os started H enc _=>lifted os started H enc)
theorem ifexprTwo_holds:Rows.IfexprTwoCardSaid:=
 Claim7.holds_tied_plain_at .later [] [.listed,.data,.data] true (true, "9147890bc36f5da7ddbf85365800fa2858e58f193b221afb2dd99ffeef9cecf5") false
  over (fun _ h=>by cases h) (by kernel_rfl) (fun _ h=>by cases h) ifexprTwo_row_tie rfl ⟨rfl,rfl⟩ (by kernel_rfl) rfl
  (fun f fn hf hfn=>by
   obtain rfl:f=5:=Option.some.inj ((show Tryd.prog.funcNamed "emend/emendlaw09.IfexprTwo" = some 5 by kernel_rfl).symm.trans hf) |>.symm
   obtain rfl:fn=Tryd.f5:=(Option.some.inj (Tryd.func5.symm.trans hfn)).symm
   exact ⟨by kernel_rfl,fun j t ht=>by
    rw [Tryd.params5] at ht
    have hm:t ∈ [21,21,3]:=by simpa using Array.mem_of_getElem? ht
    have hall:([21,21,3].all fun u=>!Tryd.prog.wantsStandIn u)=true:=by kernel_rfl
    exact (show Tryd.prog.wantsStandIn t=false by simpa using List.all_eq_true.1 hall t hm)⟩)
  (by kernel_rfl)
end
end Go.Proofs.YtonnigoiklahdaaDoor.ifexprTwo
