/-
  Part 6 of what the last text needs: library, runs, contracts, plain laws. No condition of its own.
-/
import Derived.Test.YtonnigoiklahdaaDoorZD5
set_option linter.unusedVariables false
set_option linter.unusedSimpArgs false
set_option linter.unusedSectionVars false
namespace Go.Proofs.YtonnigoiklahdaaDoor
section
open Go.Al Go.Den
def sh39 (fu:Nat) (nf:Nat->Bool) (x0:Int):(Option (Int×Unit)):=cond (ile 48 x0) (cond (ile x0 57) (some ((zR .u64 (isub .u8 x0 48)),())) (cond (ile 97 x0) (cond (ile x0 102) (some ((iadd .u64 (zR .u64 (isub .u8 x0 97)) 10),())) (cond (ile 65 x0) (cond (ile x0 70) (some ((iadd .u64 (zR .u64 (isub .u8 x0 65)) 10),())) (some (16,()))) (some (16,())))) (cond (ile 65 x0) (cond (ile x0 70) (some ((iadd .u64 (zR .u64 (isub .u8 x0 65)) 10),())) (some (16,()))) (some (16,()))))) (cond (ile 97 x0) (cond (ile x0 102) (some ((iadd .u64 (zR .u64 (isub .u8 x0 97)) 10),())) (cond (ile 65 x0) (cond (ile x0 70) (some ((iadd .u64 (zR .u64 (isub .u8 x0 65)) 10),())) (some (16,()))) (some (16,())))) (cond (ile 65 x0) (cond (ile x0 70) (some ((iadd .u64 (zR .u64 (isub .u8 x0 65)) 10),())) (some (16,()))) (some (16,()))))
theorem eq39:@run39 = @sh39:=by kernel_rfl
def sh41 (fu:Nat) (nf:Nat->Bool) (x0:Str):(Option (Bool×Unit)):=iter fu (fun (rec1:((Int×Unit)×Unit)->Option (Bool×Unit)) (s1:((Int×Unit)×Unit))=>cond (ilt s1.1.1 5) (cond (inB s1.1.1 5) (iter fu (fun (rec2:((Int×Unit)×Unit)->Option (Bool×Unit)) (s2:((Int×Unit)×Unit))=>cond (ilt s2.1.1 3) (cond (inB s2.1.1 3) (cond (okS ((List.length (α:=UInt8) (List.getD [[],[108],[76],[108,108],[76,76]] (Int.toNat s1.1.1) []))+(List.length (α:=UInt8) (List.getD [[],[117],[85]] (Int.toNat s2.1.1) [])))) (cond (seq x0 ((List.getD [[],[108],[76],[108,108],[76,76]] (Int.toNat s1.1.1) [])++(List.getD [[],[117],[85]] (Int.toNat s2.1.1) []))) (some (true,())) (cond (okS ((List.length (α:=UInt8) (List.getD [[],[117],[85]] (Int.toNat s2.1.1) []))+(List.length (α:=UInt8) (List.getD [[],[108],[76],[108,108],[76,76]] (Int.toNat s1.1.1) [])))) (cond (seq x0 ((List.getD [[],[117],[85]] (Int.toNat s2.1.1) [])++(List.getD [[],[108],[76],[108,108],[76,76]] (Int.toNat s1.1.1) []))) (some (true,())) (rec2 (((iadd .i64 s2.1.1 1),()),()))) (none))) (none)) (none)) (rec1 (((iadd .i64 s1.1.1 1),()),()))) ((0,()),())) (none)) (some (false,()))) ((0,()),())
theorem eq41:@run41 = @sh41:=by kernel_rfl
def sh13 (fu:Nat) (c39:(Int×Unit)->(Option (Int×Unit))) (c40:(Int×(Int×Unit))->(Option (Int×(Int×Unit)))) (c41:(Str×Unit)->(Option (Bool×Unit))) (nf:Nat->Bool) (x0:Str):(Option (Int×(Int×Unit))):=cond (ile (lenI [48,120]) (lenI x0)) (cond (inS 0 (lenI [48,120]) (List.length x0)) (cond (seq (cutL x0 0 (lenI [48,120])) [48,120]) (cond (inS 2 (lenI x0) (List.length x0)) (iter fu (fun (rec1:((Int×(Int×Unit))×Unit)->Option (Int×(Int×Unit))) (s1:((Int×(Int×Unit))×Unit))=>cond (ilt s1.1.2.1 (lenI (cutL x0 2 (lenI x0)))) (cond (inB s1.1.2.1 (List.length (cutL x0 2 (lenI x0)))) (Option.bind (c39 ((zD (cutL x0 2 (lenI x0)) s1.1.2.1),())) fun y0=>cond (ile 16 y0.1) (cond (ieq s1.1.2.1 0) (some (0,(91,()))) (cond (inS s1.1.2.1 (lenI (cutL x0 2 (lenI x0))) (List.length (cutL x0 2 (lenI x0)))) (Option.bind (c41 ((cutL (cutL x0 2 (lenI x0)) s1.1.2.1 (lenI (cutL x0 2 (lenI x0)))),())) fun y1=>cond (!y1.1) (some (0,(91,()))) (some ((zR .i64 s1.1.1),(0,())))) (none))) (Option.bind (c40 (s1.1.1,(16,()))) fun y1=>cond (ine y1.1 0) (some (0,(91,()))) (cond (ile 9223372036854775808 y1.2.1) (some (0,(91,()))) (cond (ile 9223372036854775808 (iadd .u64 y1.2.1 y0.1)) (some (0,(91,()))) (rec1 (((iadd .u64 y1.2.1 y0.1),((iadd .i64 s1.1.2.1 1),())),())))))) (none)) (cond (ieq s1.1.2.1 0) (some (0,(91,()))) (cond (inS s1.1.2.1 (lenI (cutL x0 2 (lenI x0))) (List.length (cutL x0 2 (lenI x0)))) (Option.bind (c41 ((cutL (cutL x0 2 (lenI x0)) s1.1.2.1 (lenI (cutL x0 2 (lenI x0)))),())) fun y0=>cond (!y0.1) (some (0,(91,()))) (some ((zR .i64 s1.1.1),(0,())))) (none)))) ((0,(0,())),())) (none)) (cond (ile (lenI [48,88]) (lenI x0)) (cond (inS 0 (lenI [48,88]) (List.length x0)) (cond (seq (cutL x0 0 (lenI [48,88])) [48,88]) (cond (inS 2 (lenI x0) (List.length x0)) (iter fu (fun (rec1:((Int×(Int×Unit))×Unit)->Option (Int×(Int×Unit))) (s1:((Int×(Int×Unit))×Unit))=>cond (ilt s1.1.2.1 (lenI (cutL x0 2 (lenI x0)))) (cond (inB s1.1.2.1 (List.length (cutL x0 2 (lenI x0)))) (Option.bind (c39 ((zD (cutL x0 2 (lenI x0)) s1.1.2.1),())) fun y0=>cond (ile 16 y0.1) (cond (ieq s1.1.2.1 0) (some (0,(91,()))) (cond (inS s1.1.2.1 (lenI (cutL x0 2 (lenI x0))) (List.length (cutL x0 2 (lenI x0)))) (Option.bind (c41 ((cutL (cutL x0 2 (lenI x0)) s1.1.2.1 (lenI (cutL x0 2 (lenI x0)))),())) fun y1=>cond (!y1.1) (some (0,(91,()))) (some ((zR .i64 s1.1.1),(0,())))) (none))) (Option.bind (c40 (s1.1.1,(16,()))) fun y1=>cond (ine y1.1 0) (some (0,(91,()))) (cond (ile 9223372036854775808 y1.2.1) (some (0,(91,()))) (cond (ile 9223372036854775808 (iadd .u64 y1.2.1 y0.1)) (some (0,(91,()))) (rec1 (((iadd .u64 y1.2.1 y0.1),((iadd .i64 s1.1.2.1 1),())),())))))) (none)) (cond (ieq s1.1.2.1 0) (some (0,(91,()))) (cond (inS s1.1.2.1 (lenI (cutL x0 2 (lenI x0))) (List.length (cutL x0 2 (lenI x0)))) (Option.bind (c41 ((cutL (cutL x0 2 (lenI x0)) s1.1.2.1 (lenI (cutL x0 2 (lenI x0)))),())) fun y0=>cond (!y0.1) (some (0,(91,()))) (some ((zR .i64 s1.1.1),(0,())))) (none)))) ((0,(0,())),())) (none)) (cond (ile (lenI [48]) (lenI x0)) (cond (inS 0 (lenI [48]) (List.length x0)) (cond (seq (cutL x0 0 (lenI [48])) [48]) (iter fu (fun (rec1:((Int×(Int×Unit))×Unit)->Option (Int×(Int×Unit))) (s1:((Int×(Int×Unit))×Unit))=>cond (ilt s1.1.2.1 (lenI x0)) (cond (inB s1.1.2.1 (List.length x0)) (Option.bind (c39 ((zD x0 s1.1.2.1),())) fun y0=>cond (ile 8 y0.1) (cond (ieq s1.1.2.1 0) (some (0,(91,()))) (cond (inS s1.1.2.1 (lenI x0) (List.length x0)) (Option.bind (c41 ((cutL x0 s1.1.2.1 (lenI x0)),())) fun y1=>cond (!y1.1) (some (0,(91,()))) (some ((zR .i64 s1.1.1),(0,())))) (none))) (Option.bind (c40 (s1.1.1,(8,()))) fun y1=>cond (ine y1.1 0) (some (0,(91,()))) (cond (ile 9223372036854775808 y1.2.1) (some (0,(91,()))) (cond (ile 9223372036854775808 (iadd .u64 y1.2.1 y0.1)) (some (0,(91,()))) (rec1 (((iadd .u64 y1.2.1 y0.1),((iadd .i64 s1.1.2.1 1),())),())))))) (none)) (cond (ieq s1.1.2.1 0) (some (0,(91,()))) (cond (inS s1.1.2.1 (lenI x0) (List.length x0)) (Option.bind (c41 ((cutL x0 s1.1.2.1 (lenI x0)),())) fun y0=>cond (!y0.1) (some (0,(91,()))) (some ((zR .i64 s1.1.1),(0,())))) (none)))) ((0,(0,())),())) (iter fu (fun (rec1:((Int×(Int×Unit))×Unit)->Option (Int×(Int×Unit))) (s1:((Int×(Int×Unit))×Unit))=>cond (ilt s1.1.2.1 (lenI x0)) (cond (inB s1.1.2.1 (List.length x0)) (Option.bind (c39 ((zD x0 s1.1.2.1),())) fun y0=>cond (ile 10 y0.1) (cond (ieq s1.1.2.1 0) (some (0,(91,()))) (cond (inS s1.1.2.1 (lenI x0) (List.length x0)) (Option.bind (c41 ((cutL x0 s1.1.2.1 (lenI x0)),())) fun y1=>cond (!y1.1) (some (0,(91,()))) (some ((zR .i64 s1.1.1),(0,())))) (none))) (Option.bind (c40 (s1.1.1,(10,()))) fun y1=>cond (ine y1.1 0) (some (0,(91,()))) (cond (ile 9223372036854775808 y1.2.1) (some (0,(91,()))) (cond (ile 9223372036854775808 (iadd .u64 y1.2.1 y0.1)) (some (0,(91,()))) (rec1 (((iadd .u64 y1.2.1 y0.1),((iadd .i64 s1.1.2.1 1),())),())))))) (none)) (cond (ieq s1.1.2.1 0) (some (0,(91,()))) (cond (inS s1.1.2.1 (lenI x0) (List.length x0)) (Option.bind (c41 ((cutL x0 s1.1.2.1 (lenI x0)),())) fun y0=>cond (!y0.1) (some (0,(91,()))) (some ((zR .i64 s1.1.1),(0,())))) (none)))) ((0,(0,())),()))) (none)) (iter fu (fun (rec1:((Int×(Int×Unit))×Unit)->Option (Int×(Int×Unit))) (s1:((Int×(Int×Unit))×Unit))=>cond (ilt s1.1.2.1 (lenI x0)) (cond (inB s1.1.2.1 (List.length x0)) (Option.bind (c39 ((zD x0 s1.1.2.1),())) fun y0=>cond (ile 10 y0.1) (cond (ieq s1.1.2.1 0) (some (0,(91,()))) (cond (inS s1.1.2.1 (lenI x0) (List.length x0)) (Option.bind (c41 ((cutL x0 s1.1.2.1 (lenI x0)),())) fun y1=>cond (!y1.1) (some (0,(91,()))) (some ((zR .i64 s1.1.1),(0,())))) (none))) (Option.bind (c40 (s1.1.1,(10,()))) fun y1=>cond (ine y1.1 0) (some (0,(91,()))) (cond (ile 9223372036854775808 y1.2.1) (some (0,(91,()))) (cond (ile 9223372036854775808 (iadd .u64 y1.2.1 y0.1)) (some (0,(91,()))) (rec1 (((iadd .u64 y1.2.1 y0.1),((iadd .i64 s1.1.2.1 1),())),())))))) (none)) (cond (ieq s1.1.2.1 0) (some (0,(91,()))) (cond (inS s1.1.2.1 (lenI x0) (List.length x0)) (Option.bind (c41 ((cutL x0 s1.1.2.1 (lenI x0)),())) fun y0=>cond (!y0.1) (some (0,(91,()))) (some ((zR .i64 s1.1.1),(0,())))) (none)))) ((0,(0,())),())))) (none)) (cond (ile (lenI [48]) (lenI x0)) (cond (inS 0 (lenI [48]) (List.length x0)) (cond (seq (cutL x0 0 (lenI [48])) [48]) (iter fu (fun (rec1:((Int×(Int×Unit))×Unit)->Option (Int×(Int×Unit))) (s1:((Int×(Int×Unit))×Unit))=>cond (ilt s1.1.2.1 (lenI x0)) (cond (inB s1.1.2.1 (List.length x0)) (Option.bind (c39 ((zD x0 s1.1.2.1),())) fun y0=>cond (ile 8 y0.1) (cond (ieq s1.1.2.1 0) (some (0,(91,()))) (cond (inS s1.1.2.1 (lenI x0) (List.length x0)) (Option.bind (c41 ((cutL x0 s1.1.2.1 (lenI x0)),())) fun y1=>cond (!y1.1) (some (0,(91,()))) (some ((zR .i64 s1.1.1),(0,())))) (none))) (Option.bind (c40 (s1.1.1,(8,()))) fun y1=>cond (ine y1.1 0) (some (0,(91,()))) (cond (ile 9223372036854775808 y1.2.1) (some (0,(91,()))) (cond (ile 9223372036854775808 (iadd .u64 y1.2.1 y0.1)) (some (0,(91,()))) (rec1 (((iadd .u64 y1.2.1 y0.1),((iadd .i64 s1.1.2.1 1),())),())))))) (none)) (cond (ieq s1.1.2.1 0) (some (0,(91,()))) (cond (inS s1.1.2.1 (lenI x0) (List.length x0)) (Option.bind (c41 ((cutL x0 s1.1.2.1 (lenI x0)),())) fun y0=>cond (!y0.1) (some (0,(91,()))) (some ((zR .i64 s1.1.1),(0,())))) (none)))) ((0,(0,())),())) (iter fu (fun (rec1:((Int×(Int×Unit))×Unit)->Option (Int×(Int×Unit))) (s1:((Int×(Int×Unit))×Unit))=>cond (ilt s1.1.2.1 (lenI x0)) (cond (inB s1.1.2.1 (List.length x0)) (Option.bind (c39 ((zD x0 s1.1.2.1),())) fun y0=>cond (ile 10 y0.1) (cond (ieq s1.1.2.1 0) (some (0,(91,()))) (cond (inS s1.1.2.1 (lenI x0) (List.length x0)) (Option.bind (c41 ((cutL x0 s1.1.2.1 (lenI x0)),())) fun y1=>cond (!y1.1) (some (0,(91,()))) (some ((zR .i64 s1.1.1),(0,())))) (none))) (Option.bind (c40 (s1.1.1,(10,()))) fun y1=>cond (ine y1.1 0) (some (0,(91,()))) (cond (ile 9223372036854775808 y1.2.1) (some (0,(91,()))) (cond (ile 9223372036854775808 (iadd .u64 y1.2.1 y0.1)) (some (0,(91,()))) (rec1 (((iadd .u64 y1.2.1 y0.1),((iadd .i64 s1.1.2.1 1),())),())))))) (none)) (cond (ieq s1.1.2.1 0) (some (0,(91,()))) (cond (inS s1.1.2.1 (lenI x0) (List.length x0)) (Option.bind (c41 ((cutL x0 s1.1.2.1 (lenI x0)),())) fun y0=>cond (!y0.1) (some (0,(91,()))) (some ((zR .i64 s1.1.1),(0,())))) (none)))) ((0,(0,())),()))) (none)) (iter fu (fun (rec1:((Int×(Int×Unit))×Unit)->Option (Int×(Int×Unit))) (s1:((Int×(Int×Unit))×Unit))=>cond (ilt s1.1.2.1 (lenI x0)) (cond (inB s1.1.2.1 (List.length x0)) (Option.bind (c39 ((zD x0 s1.1.2.1),())) fun y0=>cond (ile 10 y0.1) (cond (ieq s1.1.2.1 0) (some (0,(91,()))) (cond (inS s1.1.2.1 (lenI x0) (List.length x0)) (Option.bind (c41 ((cutL x0 s1.1.2.1 (lenI x0)),())) fun y1=>cond (!y1.1) (some (0,(91,()))) (some ((zR .i64 s1.1.1),(0,())))) (none))) (Option.bind (c40 (s1.1.1,(10,()))) fun y1=>cond (ine y1.1 0) (some (0,(91,()))) (cond (ile 9223372036854775808 y1.2.1) (some (0,(91,()))) (cond (ile 9223372036854775808 (iadd .u64 y1.2.1 y0.1)) (some (0,(91,()))) (rec1 (((iadd .u64 y1.2.1 y0.1),((iadd .i64 s1.1.2.1 1),())),())))))) (none)) (cond (ieq s1.1.2.1 0) (some (0,(91,()))) (cond (inS s1.1.2.1 (lenI x0) (List.length x0)) (Option.bind (c41 ((cutL x0 s1.1.2.1 (lenI x0)),())) fun y0=>cond (!y0.1) (some (0,(91,()))) (some ((zR .i64 s1.1.1),(0,())))) (none)))) ((0,(0,())),()))))) (none)) (cond (ile (lenI [48,88]) (lenI x0)) (cond (inS 0 (lenI [48,88]) (List.length x0)) (cond (seq (cutL x0 0 (lenI [48,88])) [48,88]) (cond (inS 2 (lenI x0) (List.length x0)) (iter fu (fun (rec1:((Int×(Int×Unit))×Unit)->Option (Int×(Int×Unit))) (s1:((Int×(Int×Unit))×Unit))=>cond (ilt s1.1.2.1 (lenI (cutL x0 2 (lenI x0)))) (cond (inB s1.1.2.1 (List.length (cutL x0 2 (lenI x0)))) (Option.bind (c39 ((zD (cutL x0 2 (lenI x0)) s1.1.2.1),())) fun y0=>cond (ile 16 y0.1) (cond (ieq s1.1.2.1 0) (some (0,(91,()))) (cond (inS s1.1.2.1 (lenI (cutL x0 2 (lenI x0))) (List.length (cutL x0 2 (lenI x0)))) (Option.bind (c41 ((cutL (cutL x0 2 (lenI x0)) s1.1.2.1 (lenI (cutL x0 2 (lenI x0)))),())) fun y1=>cond (!y1.1) (some (0,(91,()))) (some ((zR .i64 s1.1.1),(0,())))) (none))) (Option.bind (c40 (s1.1.1,(16,()))) fun y1=>cond (ine y1.1 0) (some (0,(91,()))) (cond (ile 9223372036854775808 y1.2.1) (some (0,(91,()))) (cond (ile 9223372036854775808 (iadd .u64 y1.2.1 y0.1)) (some (0,(91,()))) (rec1 (((iadd .u64 y1.2.1 y0.1),((iadd .i64 s1.1.2.1 1),())),())))))) (none)) (cond (ieq s1.1.2.1 0) (some (0,(91,()))) (cond (inS s1.1.2.1 (lenI (cutL x0 2 (lenI x0))) (List.length (cutL x0 2 (lenI x0)))) (Option.bind (c41 ((cutL (cutL x0 2 (lenI x0)) s1.1.2.1 (lenI (cutL x0 2 (lenI x0)))),())) fun y0=>cond (!y0.1) (some (0,(91,()))) (some ((zR .i64 s1.1.1),(0,())))) (none)))) ((0,(0,())),())) (none)) (cond (ile (lenI [48]) (lenI x0)) (cond (inS 0 (lenI [48]) (List.length x0)) (cond (seq (cutL x0 0 (lenI [48])) [48]) (iter fu (fun (rec1:((Int×(Int×Unit))×Unit)->Option (Int×(Int×Unit))) (s1:((Int×(Int×Unit))×Unit))=>cond (ilt s1.1.2.1 (lenI x0)) (cond (inB s1.1.2.1 (List.length x0)) (Option.bind (c39 ((zD x0 s1.1.2.1),())) fun y0=>cond (ile 8 y0.1) (cond (ieq s1.1.2.1 0) (some (0,(91,()))) (cond (inS s1.1.2.1 (lenI x0) (List.length x0)) (Option.bind (c41 ((cutL x0 s1.1.2.1 (lenI x0)),())) fun y1=>cond (!y1.1) (some (0,(91,()))) (some ((zR .i64 s1.1.1),(0,())))) (none))) (Option.bind (c40 (s1.1.1,(8,()))) fun y1=>cond (ine y1.1 0) (some (0,(91,()))) (cond (ile 9223372036854775808 y1.2.1) (some (0,(91,()))) (cond (ile 9223372036854775808 (iadd .u64 y1.2.1 y0.1)) (some (0,(91,()))) (rec1 (((iadd .u64 y1.2.1 y0.1),((iadd .i64 s1.1.2.1 1),())),())))))) (none)) (cond (ieq s1.1.2.1 0) (some (0,(91,()))) (cond (inS s1.1.2.1 (lenI x0) (List.length x0)) (Option.bind (c41 ((cutL x0 s1.1.2.1 (lenI x0)),())) fun y0=>cond (!y0.1) (some (0,(91,()))) (some ((zR .i64 s1.1.1),(0,())))) (none)))) ((0,(0,())),())) (iter fu (fun (rec1:((Int×(Int×Unit))×Unit)->Option (Int×(Int×Unit))) (s1:((Int×(Int×Unit))×Unit))=>cond (ilt s1.1.2.1 (lenI x0)) (cond (inB s1.1.2.1 (List.length x0)) (Option.bind (c39 ((zD x0 s1.1.2.1),())) fun y0=>cond (ile 10 y0.1) (cond (ieq s1.1.2.1 0) (some (0,(91,()))) (cond (inS s1.1.2.1 (lenI x0) (List.length x0)) (Option.bind (c41 ((cutL x0 s1.1.2.1 (lenI x0)),())) fun y1=>cond (!y1.1) (some (0,(91,()))) (some ((zR .i64 s1.1.1),(0,())))) (none))) (Option.bind (c40 (s1.1.1,(10,()))) fun y1=>cond (ine y1.1 0) (some (0,(91,()))) (cond (ile 9223372036854775808 y1.2.1) (some (0,(91,()))) (cond (ile 9223372036854775808 (iadd .u64 y1.2.1 y0.1)) (some (0,(91,()))) (rec1 (((iadd .u64 y1.2.1 y0.1),((iadd .i64 s1.1.2.1 1),())),())))))) (none)) (cond (ieq s1.1.2.1 0) (some (0,(91,()))) (cond (inS s1.1.2.1 (lenI x0) (List.length x0)) (Option.bind (c41 ((cutL x0 s1.1.2.1 (lenI x0)),())) fun y0=>cond (!y0.1) (some (0,(91,()))) (some ((zR .i64 s1.1.1),(0,())))) (none)))) ((0,(0,())),()))) (none)) (iter fu (fun (rec1:((Int×(Int×Unit))×Unit)->Option (Int×(Int×Unit))) (s1:((Int×(Int×Unit))×Unit))=>cond (ilt s1.1.2.1 (lenI x0)) (cond (inB s1.1.2.1 (List.length x0)) (Option.bind (c39 ((zD x0 s1.1.2.1),())) fun y0=>cond (ile 10 y0.1) (cond (ieq s1.1.2.1 0) (some (0,(91,()))) (cond (inS s1.1.2.1 (lenI x0) (List.length x0)) (Option.bind (c41 ((cutL x0 s1.1.2.1 (lenI x0)),())) fun y1=>cond (!y1.1) (some (0,(91,()))) (some ((zR .i64 s1.1.1),(0,())))) (none))) (Option.bind (c40 (s1.1.1,(10,()))) fun y1=>cond (ine y1.1 0) (some (0,(91,()))) (cond (ile 9223372036854775808 y1.2.1) (some (0,(91,()))) (cond (ile 9223372036854775808 (iadd .u64 y1.2.1 y0.1)) (some (0,(91,()))) (rec1 (((iadd .u64 y1.2.1 y0.1),((iadd .i64 s1.1.2.1 1),())),())))))) (none)) (cond (ieq s1.1.2.1 0) (some (0,(91,()))) (cond (inS s1.1.2.1 (lenI x0) (List.length x0)) (Option.bind (c41 ((cutL x0 s1.1.2.1 (lenI x0)),())) fun y0=>cond (!y0.1) (some (0,(91,()))) (some ((zR .i64 s1.1.1),(0,())))) (none)))) ((0,(0,())),())))) (none)) (cond (ile (lenI [48]) (lenI x0)) (cond (inS 0 (lenI [48]) (List.length x0)) (cond (seq (cutL x0 0 (lenI [48])) [48]) (iter fu (fun (rec1:((Int×(Int×Unit))×Unit)->Option (Int×(Int×Unit))) (s1:((Int×(Int×Unit))×Unit))=>cond (ilt s1.1.2.1 (lenI x0)) (cond (inB s1.1.2.1 (List.length x0)) (Option.bind (c39 ((zD x0 s1.1.2.1),())) fun y0=>cond (ile 8 y0.1) (cond (ieq s1.1.2.1 0) (some (0,(91,()))) (cond (inS s1.1.2.1 (lenI x0) (List.length x0)) (Option.bind (c41 ((cutL x0 s1.1.2.1 (lenI x0)),())) fun y1=>cond (!y1.1) (some (0,(91,()))) (some ((zR .i64 s1.1.1),(0,())))) (none))) (Option.bind (c40 (s1.1.1,(8,()))) fun y1=>cond (ine y1.1 0) (some (0,(91,()))) (cond (ile 9223372036854775808 y1.2.1) (some (0,(91,()))) (cond (ile 9223372036854775808 (iadd .u64 y1.2.1 y0.1)) (some (0,(91,()))) (rec1 (((iadd .u64 y1.2.1 y0.1),((iadd .i64 s1.1.2.1 1),())),())))))) (none)) (cond (ieq s1.1.2.1 0) (some (0,(91,()))) (cond (inS s1.1.2.1 (lenI x0) (List.length x0)) (Option.bind (c41 ((cutL x0 s1.1.2.1 (lenI x0)),())) fun y0=>cond (!y0.1) (some (0,(91,()))) (some ((zR .i64 s1.1.1),(0,())))) (none)))) ((0,(0,())),())) (iter fu (fun (rec1:((Int×(Int×Unit))×Unit)->Option (Int×(Int×Unit))) (s1:((Int×(Int×Unit))×Unit))=>cond (ilt s1.1.2.1 (lenI x0)) (cond (inB s1.1.2.1 (List.length x0)) (Option.bind (c39 ((zD x0 s1.1.2.1),())) fun y0=>cond (ile 10 y0.1) (cond (ieq s1.1.2.1 0) (some (0,(91,()))) (cond (inS s1.1.2.1 (lenI x0) (List.length x0)) (Option.bind (c41 ((cutL x0 s1.1.2.1 (lenI x0)),())) fun y1=>cond (!y1.1) (some (0,(91,()))) (some ((zR .i64 s1.1.1),(0,())))) (none))) (Option.bind (c40 (s1.1.1,(10,()))) fun y1=>cond (ine y1.1 0) (some (0,(91,()))) (cond (ile 9223372036854775808 y1.2.1) (some (0,(91,()))) (cond (ile 9223372036854775808 (iadd .u64 y1.2.1 y0.1)) (some (0,(91,()))) (rec1 (((iadd .u64 y1.2.1 y0.1),((iadd .i64 s1.1.2.1 1),())),())))))) (none)) (cond (ieq s1.1.2.1 0) (some (0,(91,()))) (cond (inS s1.1.2.1 (lenI x0) (List.length x0)) (Option.bind (c41 ((cutL x0 s1.1.2.1 (lenI x0)),())) fun y0=>cond (!y0.1) (some (0,(91,()))) (some ((zR .i64 s1.1.1),(0,())))) (none)))) ((0,(0,())),()))) (none)) (iter fu (fun (rec1:((Int×(Int×Unit))×Unit)->Option (Int×(Int×Unit))) (s1:((Int×(Int×Unit))×Unit))=>cond (ilt s1.1.2.1 (lenI x0)) (cond (inB s1.1.2.1 (List.length x0)) (Option.bind (c39 ((zD x0 s1.1.2.1),())) fun y0=>cond (ile 10 y0.1) (cond (ieq s1.1.2.1 0) (some (0,(91,()))) (cond (inS s1.1.2.1 (lenI x0) (List.length x0)) (Option.bind (c41 ((cutL x0 s1.1.2.1 (lenI x0)),())) fun y1=>cond (!y1.1) (some (0,(91,()))) (some ((zR .i64 s1.1.1),(0,())))) (none))) (Option.bind (c40 (s1.1.1,(10,()))) fun y1=>cond (ine y1.1 0) (some (0,(91,()))) (cond (ile 9223372036854775808 y1.2.1) (some (0,(91,()))) (cond (ile 9223372036854775808 (iadd .u64 y1.2.1 y0.1)) (some (0,(91,()))) (rec1 (((iadd .u64 y1.2.1 y0.1),((iadd .i64 s1.1.2.1 1),())),())))))) (none)) (cond (ieq s1.1.2.1 0) (some (0,(91,()))) (cond (inS s1.1.2.1 (lenI x0) (List.length x0)) (Option.bind (c41 ((cutL x0 s1.1.2.1 (lenI x0)),())) fun y0=>cond (!y0.1) (some (0,(91,()))) (some ((zR .i64 s1.1.1),(0,())))) (none)))) ((0,(0,())),()))))
theorem eq13:@run13 = @sh13:=by kernel_rfl
def sh15 (fu:Nat) (c44:(Str×(Int×Unit))->(Option (Int×Unit))) (nf:Nat->Bool) (x0:Str):(Option (Int×(Int×Unit))):=cond (ilt (lenI x0) 3) (some (0,(91,()))) (cond (inB 0 (List.length x0)) (cond (ine (zD x0 0) 39) (some (0,(91,()))) (cond (inB (isub .i64 (lenI x0) 1) (List.length x0)) (cond (ine (zD x0 (isub .i64 (lenI x0) 1)) 39) (some (0,(91,()))) (cond (inS 1 (isub .i64 (lenI x0) 1) (List.length x0)) (cond (ieq (lenI (cutL x0 1 (isub .i64 (lenI x0) 1))) 1) (cond (inB 0 (List.length (cutL x0 1 (isub .i64 (lenI x0) 1)))) (cond (ine (zD (cutL x0 1 (isub .i64 (lenI x0) 1)) 0) 92) (cond (inB 0 (List.length (cutL x0 1 (isub .i64 (lenI x0) 1)))) (some ((zR .i64 (zD (cutL x0 1 (isub .i64 (lenI x0) 1)) 0)),(0,()))) (none)) (cond (ine (lenI (cutL x0 1 (isub .i64 (lenI x0) 1))) 2) (some (0,(91,()))) (cond (inB 0 (List.length (cutL x0 1 (isub .i64 (lenI x0) 1)))) (cond (ine (zD (cutL x0 1 (isub .i64 (lenI x0) 1)) 0) 92) (some (0,(91,()))) (cond (inB 1 (List.length (cutL x0 1 (isub .i64 (lenI x0) 1)))) (Option.bind (c44 ([110,116,114,48,97,98,102,118],((zD (cutL x0 1 (isub .i64 (lenI x0) 1)) 1),()))) fun y0=>cond (ile 0 y0.1) (cond (inB y0.1 8) (some ((zR .i64 (zD [10,9,13,0,7,8,12,11] y0.1)),(0,()))) (none)) (cond (inB 1 (List.length (cutL x0 1 (isub .i64 (lenI x0) 1)))) (Option.bind (c44 ([92,39,34,63],((zD (cutL x0 1 (isub .i64 (lenI x0) 1)) 1),()))) fun y1=>cond (ilt y1.1 0) (some (0,(91,()))) (cond (inB 1 (List.length (cutL x0 1 (isub .i64 (lenI x0) 1)))) (some ((zR .i64 (zD (cutL x0 1 (isub .i64 (lenI x0) 1)) 1)),(0,()))) (none))) (none))) (none))) (none)))) (none)) (cond (ine (lenI (cutL x0 1 (isub .i64 (lenI x0) 1))) 2) (some (0,(91,()))) (cond (inB 0 (List.length (cutL x0 1 (isub .i64 (lenI x0) 1)))) (cond (ine (zD (cutL x0 1 (isub .i64 (lenI x0) 1)) 0) 92) (some (0,(91,()))) (cond (inB 1 (List.length (cutL x0 1 (isub .i64 (lenI x0) 1)))) (Option.bind (c44 ([110,116,114,48,97,98,102,118],((zD (cutL x0 1 (isub .i64 (lenI x0) 1)) 1),()))) fun y0=>cond (ile 0 y0.1) (cond (inB y0.1 8) (some ((zR .i64 (zD [10,9,13,0,7,8,12,11] y0.1)),(0,()))) (none)) (cond (inB 1 (List.length (cutL x0 1 (isub .i64 (lenI x0) 1)))) (Option.bind (c44 ([92,39,34,63],((zD (cutL x0 1 (isub .i64 (lenI x0) 1)) 1),()))) fun y1=>cond (ilt y1.1 0) (some (0,(91,()))) (cond (inB 1 (List.length (cutL x0 1 (isub .i64 (lenI x0) 1)))) (some ((zR .i64 (zD (cutL x0 1 (isub .i64 (lenI x0) 1)) 1)),(0,()))) (none))) (none))) (none))) (none)))) (none))) (none))) (none))
theorem eq15:@run15 = @sh15:=by kernel_rfl
def sh113 (fu:Nat) (nf:Nat->Bool) (x0:Str) (x1:Int) (x2:Int):(Option (Int×Unit)):=cond (seq x0 [124]) (some ((jor .i64 x1 x2),())) (cond (seq x0 [94]) (some ((jxor .i64 x1 x2),())) (cond (seq x0 [38]) (some ((jand .i64 x1 x2),())) (cond (seq x0 [43]) (some ((iadd .i64 x1 x2),())) (cond (seq x0 [45]) (some ((isub .i64 x1 x2),())) (cond (seq x0 [42]) (some ((imul .i64 x1 x2),())) (cond (seq x0 [61,61]) (cond (ieq x1 x2) (some (1,())) (some (0,()))) (cond (seq x0 [33,61]) (cond (ine x1 x2) (some (1,())) (some (0,()))) (cond (seq x0 [60]) (cond (ilt x1 x2) (some (1,())) (some (0,()))) (cond (seq x0 [62]) (cond (ilt x2 x1) (some (1,())) (some (0,()))) (cond (seq x0 [60,61]) (cond (ile x1 x2) (some (1,())) (some (0,()))) (cond (ile x2 x1) (some (1,())) (some (0,())))))))))))))
theorem eq113:@run113 = @sh113:=by kernel_rfl
def sh111 (fu:Nat) (c113:(Str×(Int×(Int×Unit)))->(Option (Int×Unit))) (nf:Nat->Bool) (x0:Str) (x1:Int) (x2:Int):(Option (Int×(Int×Unit))):=cond (seq x0 [47]) (cond (ieq x2 0) (some (0,(92,()))) (cond (ieq x2 (Neg.neg 1)) (cond (seq x0 [47]) (some ((imul .i64 (isub .i64 0 x1) 1),(0,()))) (some ((imul .i64 (isub .i64 0 x1) 0),(0,())))) (cond (seq x0 [47]) (cond (ine x2 0) (some ((iquo .i64 x1 x2),(0,()))) (none)) (cond (ine x2 0) (some ((irem x1 x2),(0,()))) (none))))) (cond (seq x0 [37]) (cond (ieq x2 0) (some (0,(92,()))) (cond (ieq x2 (Neg.neg 1)) (cond (seq x0 [47]) (some ((imul .i64 (isub .i64 0 x1) 1),(0,()))) (some ((imul .i64 (isub .i64 0 x1) 0),(0,())))) (cond (seq x0 [47]) (cond (ine x2 0) (some ((iquo .i64 x1 x2),(0,()))) (none)) (cond (ine x2 0) (some ((irem x1 x2),(0,()))) (none))))) (cond (seq x0 [60,60]) (cond (ilt x2 0) (some (0,(93,()))) (cond (ilt 63 x2) (some (0,(93,()))) (cond (seq x0 [60,60]) (cond (ile 0 x2) (some ((jshl .i64 x1 x2),(0,()))) (none)) (cond (ile 0 x2) (some ((jshr .i64 x1 x2),(0,()))) (none))))) (cond (seq x0 [62,62]) (cond (ilt x2 0) (some (0,(93,()))) (cond (ilt 63 x2) (some (0,(93,()))) (cond (seq x0 [60,60]) (cond (ile 0 x2) (some ((jshl .i64 x1 x2),(0,()))) (none)) (cond (ile 0 x2) (some ((jshr .i64 x1 x2),(0,()))) (none))))) (cond (seq x0 [124,124]) (cond (ine x2 0) (some (1,(0,()))) (some (0,(0,())))) (cond (seq x0 [38,38]) (cond (ine x2 0) (some (1,(0,()))) (some (0,(0,())))) (Option.bind (c113 (x0,(x1,(x2,())))) fun y0=>some (y0.1,(0,()))))))))
theorem eq111:@run111 = @sh111:=by kernel_rfl
def sh74 (fu:Nat) (c83:(Str×Unit)->(Option ((List Str)×Unit))) (nf:Nat->Bool) (x0:Str):(Option (Int×Unit)):=iter fu (fun (rec1:((Int×Unit)×Unit)->Option (Int×Unit)) (s1:((Int×Unit)×Unit))=>cond (ilt s1.1.1 10) (cond (inB s1.1.1 10) (Option.bind (c83 ((List.getD [[124,124],[38,38],[124],[94],[38],[61,61,32,33,61],[60,32,62,32,60,61,32,62,61],[60,60,32,62,62],[43,32,45],[42,32,47,32,37]] (Int.toNat s1.1.1) []),())) fun y0=>iter fu (fun (rec2:((Int×Unit)×Unit)->Option (Int×Unit)) (s2:((Int×Unit)×Unit))=>cond (ilt s2.1.1 (lenI y0.1)) (cond (inB s2.1.1 (List.length y0.1)) (cond (seq x0 (List.getD y0.1 (Int.toNat s2.1.1) [])) (cond (ile 0 s2.1.1) (some ((iadd .i64 s1.1.1 1),())) (rec1 (((iadd .i64 s1.1.1 1),()),()))) (rec2 (((iadd .i64 s2.1.1 1),()),()))) (none)) (cond (ile 0 (Neg.neg 1)) (some ((iadd .i64 s1.1.1 1),())) (rec1 (((iadd .i64 s1.1.1 1),()),())))) ((0,()),())) (none)) (some (0,()))) ((0,()),())
theorem eq74:@run74 = @sh74:=by kernel_rfl
def sh114 (fu:Nat) (nf:Nat->Bool) (x0:Int):(Option (Int×(Int×Unit))):=some (x0,(0,()))
theorem eq114:@run114 = @sh114:=by kernel_rfl
def sh115 (fu:Nat) (c1000000:(VT×Unit)->(Option (Int×(Int×Unit)))) (nf:Nat->Bool) (x0:UnT):(Option (Int×(Int×Unit))):=Option.bind (c1000000 ((UnT.x x0),())) fun y0=>cond (seq (UnT.sign x0) [45]) (cond (ine y0.2.1 0) (some (0,(y0.2.1,()))) (some ((isub .i64 0 y0.1),(0,())))) (cond (seq (UnT.sign x0) [33]) (cond (ieq y0.1 0) (cond (ine y0.2.1 0) (some (0,(y0.2.1,()))) (some (1,(0,())))) (cond (ine y0.2.1 0) (some (0,(y0.2.1,()))) (some (0,(0,()))))) (cond (seq (UnT.sign x0) [126]) (cond (ine y0.2.1 0) (some (0,(y0.2.1,()))) (some ((jnot .i64 y0.1),(0,())))) (cond (ine y0.2.1 0) (some (0,(y0.2.1,()))) (some (y0.1,(0,()))))))
theorem eq115:@run115 = @sh115:=by kernel_rfl
def sh110 (fu:Nat) (c111:(Str×(Int×(Int×Unit)))->(Option (Int×(Int×Unit)))) (c1000000:(VT×Unit)->(Option (Int×(Int×Unit)))) (nf:Nat->Bool) (x0:BinT):(Option (Int×(Int×Unit))):=Option.bind (c1000000 ((BinT.x x0),())) fun y0=>cond (ine y0.2.1 0) (some (0,(y0.2.1,()))) (cond (seq (BinT.sign x0) [124,124]) (cond (ine y0.1 0) (some (1,(0,()))) (cond (seq (BinT.sign x0) [38,38]) (cond (ieq y0.1 0) (some (0,(0,()))) (Option.bind (c1000000 ((BinT.y x0),())) fun y1=>cond (ine y1.2.1 0) (some (0,(y1.2.1,()))) (Option.bind (c111 ((BinT.sign x0),(y0.1,(y1.1,())))) fun y2=>some (y2.1,(y2.2.1,()))))) (Option.bind (c1000000 ((BinT.y x0),())) fun y1=>cond (ine y1.2.1 0) (some (0,(y1.2.1,()))) (Option.bind (c111 ((BinT.sign x0),(y0.1,(y1.1,())))) fun y2=>some (y2.1,(y2.2.1,())))))) (cond (seq (BinT.sign x0) [38,38]) (cond (ieq y0.1 0) (some (0,(0,()))) (Option.bind (c1000000 ((BinT.y x0),())) fun y1=>cond (ine y1.2.1 0) (some (0,(y1.2.1,()))) (Option.bind (c111 ((BinT.sign x0),(y0.1,(y1.1,())))) fun y2=>some (y2.1,(y2.2.1,()))))) (Option.bind (c1000000 ((BinT.y x0),())) fun y1=>cond (ine y1.2.1 0) (some (0,(y1.2.1,()))) (Option.bind (c111 ((BinT.sign x0),(y0.1,(y1.1,())))) fun y2=>some (y2.1,(y2.2.1,()))))))
theorem eq110:@run110 = @sh110:=by kernel_rfl
def sh109 (fu:Nat) (c1000000:(VT×Unit)->(Option (Int×(Int×Unit)))) (nf:Nat->Bool) (x0:ChoT):(Option (Int×(Int×Unit))):=Option.bind (c1000000 ((ChoT.c x0),())) fun y0=>cond (ine y0.2.1 0) (some (0,(y0.2.1,()))) (cond (ine y0.1 0) (Option.bind (c1000000 ((ChoT.x x0),())) fun y1=>some (y1.1,(y1.2.1,()))) (Option.bind (c1000000 ((ChoT.y x0),())) fun y1=>some (y1.1,(y1.2.1,()))))
theorem eq109:@run109 = @sh109:=by kernel_rfl
def sh19 (fu:Nat) (c45:(Bool×Unit)->(Option (Int×Unit))) (nf:Nat->Bool) (x0:Str) (x1:Int) (x2:Int):(Option (Int×(Int×Unit))):=cond (seq x0 [124,124]) (Option.bind (c45 ((ine x2 0),())) fun y0=>some (y0.1,(0,()))) (cond (seq x0 [38,38]) (Option.bind (c45 ((ine x2 0),())) fun y0=>some (y0.1,(0,()))) (cond (seq x0 [124]) (some ((jor .i64 x1 x2),(0,()))) (cond (seq x0 [94]) (some ((jxor .i64 x1 x2),(0,()))) (cond (seq x0 [38]) (some ((jand .i64 x1 x2),(0,()))) (cond (seq x0 [61,61]) (Option.bind (c45 ((ieq x1 x2),())) fun y0=>some (y0.1,(0,()))) (cond (seq x0 [33,61]) (Option.bind (c45 ((ine x1 x2),())) fun y0=>some (y0.1,(0,()))) (cond (seq x0 [60]) (Option.bind (c45 ((ilt x1 x2),())) fun y0=>some (y0.1,(0,()))) (cond (seq x0 [62]) (Option.bind (c45 ((ilt x2 x1),())) fun y0=>some (y0.1,(0,()))) (cond (seq x0 [60,61]) (Option.bind (c45 ((ile x1 x2),())) fun y0=>some (y0.1,(0,()))) (cond (seq x0 [62,61]) (Option.bind (c45 ((ile x2 x1),())) fun y0=>some (y0.1,(0,()))) (cond (seq x0 [43]) (some ((iadd .i64 x1 x2),(0,()))) (cond (seq x0 [45]) (some ((isub .i64 x1 x2),(0,()))) (cond (seq x0 [42]) (some ((imul .i64 x1 x2),(0,()))) (cond (seq x0 [60,60]) (cond (ilt x2 0) (some (0,(93,()))) (cond (ilt 63 x2) (some (0,(93,()))) (iter fu (fun (rec1:((Int×(Int×Unit))×Unit)->Option (Int×(Int×Unit))) (s1:((Int×(Int×Unit))×Unit))=>cond (ilt s1.1.2.1 x2) (cond (seq x0 [60,60]) (rec1 (((imul .i64 s1.1.1 2),((iadd .i64 s1.1.2.1 1),())),())) (cond (ile 0 1) (rec1 (((jshr .i64 s1.1.1 1),((iadd .i64 s1.1.2.1 1),())),())) (none))) (some (s1.1.1,(0,())))) ((x1,(0,())),())))) (cond (seq x0 [62,62]) (cond (ilt x2 0) (some (0,(93,()))) (cond (ilt 63 x2) (some (0,(93,()))) (iter fu (fun (rec1:((Int×(Int×Unit))×Unit)->Option (Int×(Int×Unit))) (s1:((Int×(Int×Unit))×Unit))=>cond (ilt s1.1.2.1 x2) (cond (seq x0 [60,60]) (rec1 (((imul .i64 s1.1.1 2),((iadd .i64 s1.1.2.1 1),())),())) (cond (ile 0 1) (rec1 (((jshr .i64 s1.1.1 1),((iadd .i64 s1.1.2.1 1),())),())) (none))) (some (s1.1.1,(0,())))) ((x1,(0,())),())))) (cond (ieq x2 0) (some (0,(92,()))) (cond (ine x2 0) (cond (seq x0 [47]) (some ((iquo .i64 x1 x2),(0,()))) (some ((isub .i64 x1 (imul .i64 (iquo .i64 x1 x2) x2)),(0,())))) (none))))))))))))))))))
theorem eq19:@run19 = @sh19:=by kernel_rfl
def sh52 (fu:Nat) (x:(((Bool×LT)×(Bool×(Int×Unit)))×Unit)) (a:Unit):(Option (Option ((((Bool×LT)×(Bool×(Int×Unit)))×Unit)×(Str×Unit)))):=cond (ieq (lenI x.1.1.2) 0) (some (some ((((x.1.1.1,x.1.1.2),(x.1.2.1,(x.1.2.2.1,()))),()),([],())))) (cond (inB 0 (List.length x.1.1.2)) (cond (ine (TokT.kind (List.getD x.1.1.2 0 tokD)) 5) (some (some ((((x.1.1.1,x.1.1.2),(x.1.2.1,(x.1.2.2.1,()))),()),([],())))) (cond (inB 0 (List.length x.1.1.2)) (some (some ((((x.1.1.1,x.1.1.2),(x.1.2.1,(x.1.2.2.1,()))),()),((TokT.text (List.getD x.1.1.2 0 tokD)),())))) (none))) (none))
theorem eq52:@run52 = @sh52:=by kernel_rfl
def sh53 (fu:Nat) (c52:Unit->((Bool×LT)×(Bool×Int))->(Option ((Str×Unit)×((Bool×LT)×(Bool×Int))))) (x:(((Bool×LT)×(Bool×(Int×Unit)))×Unit)) (a:(Str×Unit)):(Option (Option ((((Bool×LT)×(Bool×(Int×Unit)))×Unit)×Unit))):=Option.bind (c52 () ((x.1.1.1,x.1.1.2),(x.1.2.1,x.1.2.2.1))) fun y0=>cond (!(seq y0.1.1 a.1)) (some (some ((((y0.2.1.1,y0.2.1.2),(true,(y0.2.2.2,()))),()),()))) (cond (inS 1 (lenI y0.2.1.2) (List.length y0.2.1.2)) (some (some ((((y0.2.1.1,(cutL y0.2.1.2 1 (lenI y0.2.1.2))),(y0.2.2.1,(y0.2.2.2,()))),()),()))) (none))
theorem eq53:@run53 = @sh53:=by kernel_rfl
def sh54 (fu:Nat) (c26:(Int×Unit)->((Bool×LT)×(Bool×Int))->(Option ((VT×Unit)×((Bool×LT)×(Bool×Int))))) (x:(((Bool×LT)×(Bool×(Int×Unit)))×Unit)) (a:(Int×Unit)):(Option (Option ((((Bool×LT)×(Bool×(Int×Unit)))×Unit)×(VT×Unit)))):=cond (ieq a.1 60) (some (some ((((x.1.1.1,x.1.1.2),(true,(x.1.2.2.1,()))),()),((VT.num 0),())))) (cond x.1.2.1 (some (some ((((x.1.1.1,x.1.1.2),(true,(x.1.2.2.1,()))),()),((VT.num 0),())))) (Option.bind (c26 ((iadd .i64 a.1 1),()) ((x.1.1.1,x.1.1.2),(x.1.2.1,x.1.2.2.1))) fun y0=>some (some ((((y0.2.1.1,y0.2.1.2),(y0.2.2.1,(y0.2.2.2,()))),()),(y0.1.1,())))))
theorem eq54:@run54 = @sh54:=by kernel_rfl
def sh26 (fu:Nat) (c51:(Int×(Int×Unit))->((Bool×LT)×(Bool×Int))->(Option ((VT×Unit)×((Bool×LT)×(Bool×Int))))) (c52:Unit->((Bool×LT)×(Bool×Int))->(Option ((Str×Unit)×((Bool×LT)×(Bool×Int))))) (c53:(Str×Unit)->((Bool×LT)×(Bool×Int))->(Option (Unit×((Bool×LT)×(Bool×Int))))) (c54:(Int×Unit)->((Bool×LT)×(Bool×Int))->(Option ((VT×Unit)×((Bool×LT)×(Bool×Int))))) (x:(((Bool×LT)×(Bool×(Int×Unit)))×Unit)) (a:(Int×Unit)):(Option (Option ((((Bool×LT)×(Bool×(Int×Unit)))×Unit)×(VT×Unit)))):=Option.bind (c51 (1,(a.1,())) ((x.1.1.1,x.1.1.2),(x.1.2.1,x.1.2.2.1))) fun y0=>cond y0.2.2.1 (some (some ((((y0.2.1.1,y0.2.1.2),(y0.2.2.1,(y0.2.2.2,()))),()),(y0.1.1,())))) (Option.bind (c52 () ((y0.2.1.1,y0.2.1.2),(y0.2.2.1,y0.2.2.2))) fun y1=>cond (!(seq y1.1.1 [63])) (some (some ((((y1.2.1.1,y1.2.1.2),(y1.2.2.1,(y1.2.2.2,()))),()),(y0.1.1,())))) (Option.bind (c53 ([63],()) ((y1.2.1.1,y1.2.1.2),(y1.2.2.1,y1.2.2.2))) fun y2=>Option.bind (c54 (a.1,()) ((y2.2.1.1,y2.2.1.2),(y2.2.2.1,y2.2.2.2))) fun y3=>Option.bind (c53 ([58],()) ((y3.2.1.1,y3.2.1.2),(y3.2.2.1,y3.2.2.2))) fun y4=>Option.bind (c54 (a.1,()) ((y4.2.1.1,y4.2.1.2),(y4.2.2.1,y4.2.2.2))) fun y5=>some (some ((((y5.2.1.1,y5.2.1.2),(y5.2.2.1,(y5.2.2.2,()))),()),((VT.cho (ChoT.c (ChoT.mk y0.1.1 y3.1.1 y5.1.1)) (ChoT.x (ChoT.mk y0.1.1 y3.1.1 y5.1.1)) (ChoT.y (ChoT.mk y0.1.1 y3.1.1 y5.1.1))),())))))
theorem eq26:@run26 = @sh26:=by kernel_rfl
def sh51 (fu:Nat) (c74:(Str×Unit)->(Option (Int×Unit))) (c51:(Int×(Int×Unit))->((Bool×LT)×(Bool×Int))->(Option ((VT×Unit)×((Bool×LT)×(Bool×Int))))) (c52:Unit->((Bool×LT)×(Bool×Int))->(Option ((Str×Unit)×((Bool×LT)×(Bool×Int))))) (c53:(Str×Unit)->((Bool×LT)×(Bool×Int))->(Option (Unit×((Bool×LT)×(Bool×Int))))) (c73:(Int×Unit)->((Bool×LT)×(Bool×Int))->(Option ((VT×Unit)×((Bool×LT)×(Bool×Int))))) (x:(((Bool×LT)×(Bool×(Int×Unit)))×Unit)) (a:(Int×(Int×Unit))):(Option (Option ((((Bool×LT)×(Bool×(Int×Unit)))×Unit)×(VT×Unit)))):=Option.bind (c73 (a.2.1,()) ((x.1.1.1,x.1.1.2),(x.1.2.1,x.1.2.2.1))) fun y0=>iter fu (fun (rec1:((VT×Unit)×(((Bool×LT)×(Bool×(Int×Unit)))×Unit))->Option (Option ((((Bool×LT)×(Bool×(Int×Unit)))×Unit)×(VT×Unit)))) (s1:((VT×Unit)×(((Bool×LT)×(Bool×(Int×Unit)))×Unit)))=>cond (!s1.2.1.2.1) (Option.bind (c52 () ((s1.2.1.1.1,s1.2.1.1.2),(s1.2.1.2.1,s1.2.1.2.2.1))) fun y1=>Option.bind (c74 (y1.1.1,())) fun y2=>cond (ilt y2.1 a.1) (some (some ((((y1.2.1.1,y1.2.1.2),(y1.2.2.1,(y1.2.2.2,()))),()),(s1.1.1,())))) (cond (ieq y2.1 0) (some (some ((((y1.2.1.1,y1.2.1.2),(y1.2.2.1,(y1.2.2.2,()))),()),(s1.1.1,())))) (Option.bind (c53 (y1.1.1,()) ((y1.2.1.1,y1.2.1.2),(y1.2.2.1,y1.2.2.2))) fun y3=>Option.bind (c51 ((iadd .i64 y2.1 1),(a.2.1,())) ((y3.2.1.1,y3.2.1.2),(y3.2.2.1,y3.2.2.2))) fun y4=>rec1 (((VT.bin (BinT.sign (BinT.mk y1.1.1 s1.1.1 y4.1.1)) (BinT.x (BinT.mk y1.1.1 s1.1.1 y4.1.1)) (BinT.y (BinT.mk y1.1.1 s1.1.1 y4.1.1))),()),(((y4.2.1.1,y4.2.1.2),(y4.2.2.1,(y4.2.2.2,()))),()))))) (some (some ((((s1.2.1.1.1,s1.2.1.1.2),(s1.2.1.2.1,(s1.2.1.2.2.1,()))),()),(s1.1.1,()))))) ((y0.1.1,()),(((y0.2.1.1,y0.2.1.2),(y0.2.2.1,(y0.2.2.2,()))),()))
theorem eq51:@run51 = @sh51:=by kernel_rfl
def sh73 (fu:Nat) (c52:Unit->((Bool×LT)×(Bool×Int))->(Option ((Str×Unit)×((Bool×LT)×(Bool×Int))))) (c53:(Str×Unit)->((Bool×LT)×(Bool×Int))->(Option (Unit×((Bool×LT)×(Bool×Int))))) (c73:(Int×Unit)->((Bool×LT)×(Bool×Int))->(Option ((VT×Unit)×((Bool×LT)×(Bool×Int))))) (c82:(Int×Unit)->((Bool×LT)×(Bool×Int))->(Option ((VT×Unit)×((Bool×LT)×(Bool×Int))))) (x:(((Bool×LT)×(Bool×(Int×Unit)))×Unit)) (a:(Int×Unit)):(Option (Option ((((Bool×LT)×(Bool×(Int×Unit)))×Unit)×(VT×Unit)))):=Option.bind (c52 () ((x.1.1.1,x.1.1.2),(x.1.2.1,x.1.2.2.1))) fun y0=>cond (!(seq y0.1.1 [43])) (cond (!(seq y0.1.1 [45])) (cond (!(seq y0.1.1 [33])) (cond (!(seq y0.1.1 [126])) (Option.bind (c82 (a.1,()) ((y0.2.1.1,y0.2.1.2),(y0.2.2.1,y0.2.2.2))) fun y1=>some (some ((((y1.2.1.1,y1.2.1.2),(y1.2.2.1,(y1.2.2.2,()))),()),(y1.1.1,())))) (cond (ieq a.1 60) (some (some ((((y0.2.1.1,y0.2.1.2),(true,(y0.2.2.2,()))),()),((VT.num 0),())))) (Option.bind (c53 (y0.1.1,()) ((y0.2.1.1,y0.2.1.2),(y0.2.2.1,y0.2.2.2))) fun y1=>Option.bind (c73 ((iadd .i64 a.1 1),()) ((y1.2.1.1,y1.2.1.2),(y1.2.2.1,y1.2.2.2))) fun y2=>some (some ((((y2.2.1.1,y2.2.1.2),(y2.2.2.1,(y2.2.2.2,()))),()),((VT.un (UnT.sign (UnT.mk y0.1.1 y2.1.1)) (UnT.x (UnT.mk y0.1.1 y2.1.1))),())))))) (cond (ieq a.1 60) (some (some ((((y0.2.1.1,y0.2.1.2),(true,(y0.2.2.2,()))),()),((VT.num 0),())))) (Option.bind (c53 (y0.1.1,()) ((y0.2.1.1,y0.2.1.2),(y0.2.2.1,y0.2.2.2))) fun y1=>Option.bind (c73 ((iadd .i64 a.1 1),()) ((y1.2.1.1,y1.2.1.2),(y1.2.2.1,y1.2.2.2))) fun y2=>some (some ((((y2.2.1.1,y2.2.1.2),(y2.2.2.1,(y2.2.2.2,()))),()),((VT.un (UnT.sign (UnT.mk y0.1.1 y2.1.1)) (UnT.x (UnT.mk y0.1.1 y2.1.1))),())))))) (cond (ieq a.1 60) (some (some ((((y0.2.1.1,y0.2.1.2),(true,(y0.2.2.2,()))),()),((VT.num 0),())))) (Option.bind (c53 (y0.1.1,()) ((y0.2.1.1,y0.2.1.2),(y0.2.2.1,y0.2.2.2))) fun y1=>Option.bind (c73 ((iadd .i64 a.1 1),()) ((y1.2.1.1,y1.2.1.2),(y1.2.2.1,y1.2.2.2))) fun y2=>some (some ((((y2.2.1.1,y2.2.1.2),(y2.2.2.1,(y2.2.2.2,()))),()),((VT.un (UnT.sign (UnT.mk y0.1.1 y2.1.1)) (UnT.x (UnT.mk y0.1.1 y2.1.1))),())))))) (cond (ieq a.1 60) (some (some ((((y0.2.1.1,y0.2.1.2),(true,(y0.2.2.2,()))),()),((VT.num 0),())))) (Option.bind (c53 (y0.1.1,()) ((y0.2.1.1,y0.2.1.2),(y0.2.2.1,y0.2.2.2))) fun y1=>Option.bind (c73 ((iadd .i64 a.1 1),()) ((y1.2.1.1,y1.2.1.2),(y1.2.2.1,y1.2.2.2))) fun y2=>some (some ((((y2.2.1.1,y2.2.1.2),(y2.2.2.1,(y2.2.2.2,()))),()),((VT.un (UnT.sign (UnT.mk y0.1.1 y2.1.1)) (UnT.x (UnT.mk y0.1.1 y2.1.1))),())))))
theorem eq73:@run73 = @sh73:=by kernel_rfl
def sh82 (fu:Nat) (c13:(Str×Unit)->(Option (Int×(Int×Unit)))) (c15:(Str×Unit)->(Option (Int×(Int×Unit)))) (c52:Unit->((Bool×LT)×(Bool×Int))->(Option ((Str×Unit)×((Bool×LT)×(Bool×Int))))) (c53:(Str×Unit)->((Bool×LT)×(Bool×Int))->(Option (Unit×((Bool×LT)×(Bool×Int))))) (c54:(Int×Unit)->((Bool×LT)×(Bool×Int))->(Option ((VT×Unit)×((Bool×LT)×(Bool×Int))))) (x:(((Bool×LT)×(Bool×(Int×Unit)))×Unit)) (a:(Int×Unit)):(Option (Option ((((Bool×LT)×(Bool×(Int×Unit)))×Unit)×(VT×Unit)))):=Option.bind (c52 () ((x.1.1.1,x.1.1.2),(x.1.2.1,x.1.2.2.1))) fun y0=>cond (seq y0.1.1 [40]) (Option.bind (c53 ([40],()) ((y0.2.1.1,y0.2.1.2),(y0.2.2.1,y0.2.2.2))) fun y1=>Option.bind (c54 (a.1,()) ((y1.2.1.1,y1.2.1.2),(y1.2.2.1,y1.2.2.2))) fun y2=>Option.bind (c53 ([41],()) ((y2.2.1.1,y2.2.1.2),(y2.2.2.1,y2.2.2.2))) fun y3=>some (some ((((y3.2.1.1,y3.2.1.2),(y3.2.2.1,(y3.2.2.2,()))),()),(y2.1.1,())))) (cond (ieq (lenI y0.2.1.2) 0) (some (some ((((y0.2.1.1,y0.2.1.2),(true,(y0.2.2.2,()))),()),((VT.num 0),())))) (cond (inB 0 (List.length y0.2.1.2)) (cond (inS 1 (lenI y0.2.1.2) (List.length y0.2.1.2)) (zA7 (fun (join0:((Int×(Int×Unit))×(((Bool×LT)×(Bool×(Int×Unit)))×Unit))->Option (Option ((((Bool×LT)×(Bool×(Int×Unit)))×Unit)×(VT×Unit))))=>cond (ieq (TokT.kind (List.getD y0.2.1.2 0 tokD)) 2) (Option.bind (c13 ((TokT.text (List.getD y0.2.1.2 0 tokD)),())) fun y1=>join0 ((y1.1,(y1.2.1,())),(((y0.2.1.1,(cutL y0.2.1.2 1 (lenI y0.2.1.2))),(y0.2.2.1,(y0.2.2.2,()))),()))) (cond (ieq (TokT.kind (List.getD y0.2.1.2 0 tokD)) 3) (Option.bind (c15 ((TokT.text (List.getD y0.2.1.2 0 tokD)),())) fun y1=>join0 ((y1.1,(y1.2.1,())),(((y0.2.1.1,(cutL y0.2.1.2 1 (lenI y0.2.1.2))),(y0.2.2.1,(y0.2.2.2,()))),()))) (cond (ieq (TokT.kind (List.getD y0.2.1.2 0 tokD)) 1) (join0 ((0,(0,())),(((y0.2.1.1,(cutL y0.2.1.2 1 (lenI y0.2.1.2))),(y0.2.2.1,(y0.2.2.2,()))),()))) (join0 ((0,(0,())),(((y0.2.1.1,(cutL y0.2.1.2 1 (lenI y0.2.1.2))),(true,(y0.2.2.2,()))),())))))) (fun (t0:((Int×(Int×Unit))×(((Bool×LT)×(Bool×(Int×Unit)))×Unit)))=>cond (ieq t0.2.1.2.2.1 0) (some (some ((((t0.2.1.1.1,t0.2.1.1.2),(t0.2.1.2.1,(t0.1.2.1,()))),()),((VT.num t0.1.1),())))) (some (some ((((t0.2.1.1.1,t0.2.1.1.2),(t0.2.1.2.1,(t0.2.1.2.2.1,()))),()),((VT.num t0.1.1),())))))) (none)) (none)))
theorem eq82:@run82 = @sh82:=by kernel_rfl
def sh23 (fu:Nat) (x:Unit) (a:((Option LT)×(Unit×Unit))):(Option (Option (Unit×((Bool×LT)×Unit)))):=zy a.1 (iter fu (fun (rec1:((Int×Unit)×((Option LT)×Unit))->Option (Option (Unit×((Bool×LT)×Unit)))) (s1:((Int×Unit)×((Option LT)×Unit)))=>zy s1.2.1 (cond (ilt s1.1.1 0) (none) (cond (ieq (Neg.neg 1) (Neg.neg 1)) (some (some ((),((true,[]),())))) (iter fu (fun (rec2:((Int×(Int×Unit))×((Option LT)×Unit))->Option (Option (Unit×((Bool×LT)×Unit)))) (s2:((Int×(Int×Unit))×((Option LT)×Unit)))=>zy s2.2.1 (cond (ilt s2.1.2.1 0) (none) (none)) fun y0=>none) (((Neg.neg 1),((iadd .i64 (Neg.neg 1) 1),())),(none,()))))) fun y0=>none) ((0,()),(none,()))) fun y0=>cond (eqN (List.length y0) (List.length (zU (List.length y0) y0))) (iter fu (fun (rec1:((Int×Unit)×((Option LT)×Unit))->Option (Option (Unit×((Bool×LT)×Unit)))) (s1:((Int×Unit)×((Option LT)×Unit)))=>zy s1.2.1 (none) fun y1=>cond (ilt s1.1.1 (Int.ofNat (List.length y0))) (cond (inB s1.1.1 (List.length y0)) (cond (Nat.blt (Int.toNat s1.1.1) (List.length y1)) (cond (ieq (TokT.kind (List.getD y1 (Int.toNat s1.1.1) tokD)) 7) (cond (ieq s1.1.1 (Neg.neg 1)) (cond (Nat.ble (List.length y0) (List.length y1)) (some (some ((),((false,(zU (List.length y0) y1)),())))) (none)) (cond (eqN (List.length y0) (List.length (zU (List.length y0) y1))) (iter fu (fun (rec2:((Int×(Int×Unit))×((Option LT)×Unit))->Option (Option (Unit×((Bool×LT)×Unit)))) (s2:((Int×(Int×Unit))×((Option LT)×Unit)))=>zy s2.2.1 (none) fun y2=>cond (ilt s2.1.2.1 (Int.ofNat (List.length y0))) (cond (inB s2.1.2.1 (List.length y0)) (cond (Nat.blt (Int.toNat s2.1.2.1) (List.length y2)) (cond (!(ieq (TokT.kind (List.getD y2 (Int.toNat s2.1.2.1) tokD)) 7)) (cond (inB s2.1.1 (List.length y0)) (cond (Nat.blt (Int.toNat s2.1.1) (List.length y2)) (cond (eqN (List.length y0) (List.length (zU (List.length y0) (List.set y2 (Int.toNat s2.1.1) (TokT.mk (TokT.kind (List.getD y2 (Int.toNat s2.1.2.1) tokD)) (TokT.text (List.getD y2 (Int.toNat s2.1.2.1) tokD)) (TokT.file (List.getD y2 (Int.toNat s2.1.2.1) tokD)) (TokT.ffrom (List.getD y2 (Int.toNat s2.1.2.1) tokD)) (TokT.fto (List.getD y2 (Int.toNat s2.1.2.1) tokD)) (TokT.blank (List.getD y2 (Int.toNat s2.1.2.1) tokD))))))) (rec2 (((iadd .i64 s2.1.1 1),((iadd .i64 s2.1.2.1 1),())),((some (zU (List.length y0) (List.set y2 (Int.toNat s2.1.1) (TokT.mk (TokT.kind (List.getD y2 (Int.toNat s2.1.2.1) tokD)) (TokT.text (List.getD y2 (Int.toNat s2.1.2.1) tokD)) (TokT.file (List.getD y2 (Int.toNat s2.1.2.1) tokD)) (TokT.ffrom (List.getD y2 (Int.toNat s2.1.2.1) tokD)) (TokT.fto (List.getD y2 (Int.toNat s2.1.2.1) tokD)) (TokT.blank (List.getD y2 (Int.toNat s2.1.2.1) tokD)))))),()))) (none)) (none)) (none)) (cond (eqN (List.length y0) (List.length (zU (List.length y0) y2))) (rec2 ((s2.1.1,((iadd .i64 s2.1.2.1 1),())),((some (zU (List.length y0) y2)),()))) (none))) (none)) (none)) (cond (inS s2.1.1 (Int.ofNat (List.length y0)) (List.length y2)) (cond (Nat.ble ((Int.toNat s2.1.1)+((Int.toNat (Int.ofNat (List.length y0))) - (Int.toNat s2.1.1))) (List.length y2)) (cond (Nat.beq ((Int.toNat (Int.ofNat (List.length y0))) - (Int.toNat s2.1.1)) 0) (cond (inS 0 s2.1.1 (List.length y2)) (cond (Nat.ble (Int.toNat s2.1.1) (List.length y2)) (some (some ((),((false,(zU (Int.toNat s2.1.1) y2)),())))) (none)) (none)) (cond (inS 0 s2.1.1 (List.length (zU (Int.toNat s2.1.1) y2))) (cond (Nat.ble (Int.toNat s2.1.1) (List.length (zU (Int.toNat s2.1.1) y2))) (some (some ((),((false,(zU (Int.toNat s2.1.1) (zU (Int.toNat s2.1.1) y2))),())))) (none)) (none))) (none)) (none))) ((s1.1.1,((iadd .i64 s1.1.1 1),())),((some (zU (List.length y0) y1)),()))) (none))) (cond (eqN (List.length y0) (List.length (zU (List.length y0) y1))) (rec1 (((iadd .i64 s1.1.1 1),()),((some (zU (List.length y0) y1)),()))) (none))) (none)) (none)) (cond (ieq (Neg.neg 1) (Neg.neg 1)) (cond (Nat.ble (List.length y0) (List.length y1)) (some (some ((),((false,(zU (List.length y0) y1)),())))) (none)) (cond (eqN (List.length y0) (List.length (zU (List.length y0) y1))) (iter fu (fun (rec2:((Int×(Int×Unit))×((Option LT)×Unit))->Option (Option (Unit×((Bool×LT)×Unit)))) (s2:((Int×(Int×Unit))×((Option LT)×Unit)))=>zy s2.2.1 (none) fun y2=>cond (ilt s2.1.2.1 (Int.ofNat (List.length y0))) (cond (inB s2.1.2.1 (List.length y0)) (cond (Nat.blt (Int.toNat s2.1.2.1) (List.length y2)) (cond (!(ieq (TokT.kind (List.getD y2 (Int.toNat s2.1.2.1) tokD)) 7)) (cond (inB s2.1.1 (List.length y0)) (cond (Nat.blt (Int.toNat s2.1.1) (List.length y2)) (cond (eqN (List.length y0) (List.length (zU (List.length y0) (List.set y2 (Int.toNat s2.1.1) (TokT.mk (TokT.kind (List.getD y2 (Int.toNat s2.1.2.1) tokD)) (TokT.text (List.getD y2 (Int.toNat s2.1.2.1) tokD)) (TokT.file (List.getD y2 (Int.toNat s2.1.2.1) tokD)) (TokT.ffrom (List.getD y2 (Int.toNat s2.1.2.1) tokD)) (TokT.fto (List.getD y2 (Int.toNat s2.1.2.1) tokD)) (TokT.blank (List.getD y2 (Int.toNat s2.1.2.1) tokD))))))) (rec2 (((iadd .i64 s2.1.1 1),((iadd .i64 s2.1.2.1 1),())),((some (zU (List.length y0) (List.set y2 (Int.toNat s2.1.1) (TokT.mk (TokT.kind (List.getD y2 (Int.toNat s2.1.2.1) tokD)) (TokT.text (List.getD y2 (Int.toNat s2.1.2.1) tokD)) (TokT.file (List.getD y2 (Int.toNat s2.1.2.1) tokD)) (TokT.ffrom (List.getD y2 (Int.toNat s2.1.2.1) tokD)) (TokT.fto (List.getD y2 (Int.toNat s2.1.2.1) tokD)) (TokT.blank (List.getD y2 (Int.toNat s2.1.2.1) tokD)))))),()))) (none)) (none)) (none)) (cond (eqN (List.length y0) (List.length (zU (List.length y0) y2))) (rec2 ((s2.1.1,((iadd .i64 s2.1.2.1 1),())),((some (zU (List.length y0) y2)),()))) (none))) (none)) (none)) (cond (inS s2.1.1 (Int.ofNat (List.length y0)) (List.length y2)) (cond (Nat.ble ((Int.toNat s2.1.1)+((Int.toNat (Int.ofNat (List.length y0))) - (Int.toNat s2.1.1))) (List.length y2)) (cond (Nat.beq ((Int.toNat (Int.ofNat (List.length y0))) - (Int.toNat s2.1.1)) 0) (cond (inS 0 s2.1.1 (List.length y2)) (cond (Nat.ble (Int.toNat s2.1.1) (List.length y2)) (some (some ((),((false,(zU (Int.toNat s2.1.1) y2)),())))) (none)) (none)) (cond (inS 0 s2.1.1 (List.length (zU (Int.toNat s2.1.1) y2))) (cond (Nat.ble (Int.toNat s2.1.1) (List.length (zU (Int.toNat s2.1.1) y2))) (some (some ((),((false,(zU (Int.toNat s2.1.1) (zU (Int.toNat s2.1.1) y2))),())))) (none)) (none))) (none)) (none))) (((Neg.neg 1),((iadd .i64 (Neg.neg 1) 1),())),((some (zU (List.length y0) y1)),()))) (none)))) ((0,()),((some (zU (List.length y0) y0)),()))) (none)
theorem eq23:@run23 = @sh23:=by kernel_rfl
def sh9 (fu:Nat) (c1000000:(VT×Unit)->(Option (Int×(Int×Unit)))) (c23:((Option LT)×(Unit×Unit))->(Option ((Bool×LT)×Unit))) (c26:(Int×Unit)->((Bool×LT)×(Bool×Int))->(Option ((VT×Unit)×((Bool×LT)×(Bool×Int))))) (nf:Nat->Bool) (x0:LT):(Option (Int×(Int×Unit))):=cond (nilT TM.dl x0) (Option.bind (c23 (none,((),()))) fun y0=>Option.bind (c26 (0,()) ((y0.1.1,y0.1.2),(false,0))) fun y1=>cond y1.2.2.1 (some (0,(90,()))) (cond (ilt 0 (lenI y1.2.1.2)) (some (0,(90,()))) (cond (ine y1.2.2.2 0) (some (0,(y1.2.2.2,()))) (Option.bind (c1000000 (y1.1.1,())) fun y2=>some (y2.1,(y2.2.1,())))))) (cond (okN 56 (0+(List.length x0))) (cond (eqN (0+(List.length x0)) (List.length ((List.take 0 [])++x0))) (Option.bind (c23 ((some ((List.take 0 [])++x0)),((),()))) fun y0=>Option.bind (c26 (0,()) ((y0.1.1,y0.1.2),(false,0))) fun y1=>cond y1.2.2.1 (some (0,(90,()))) (cond (ilt 0 (lenI y1.2.1.2)) (some (0,(90,()))) (cond (ine y1.2.2.2 0) (some (0,(y1.2.2.2,()))) (Option.bind (c1000000 (y1.1.1,())) fun y2=>some (y2.1,(y2.2.1,())))))) (none)) (none))
theorem eq9:@run9 = @sh9:=by kernel_rfl
def sh18 (fu:Nat) (c9:(LT×Unit)->(Option (Int×(Int×Unit)))) (c10:(Int×(Str×Unit))->(Option (LT×Unit))) (nf:Nat->Bool) (x0:Str):(Option (Int×Unit)):=Option.bind (c10 (0,(x0,()))) fun y0=>Option.bind (c9 (y0.1,())) fun y1=>cond (ine y1.2.1 0) (some ((isub .i64 (Neg.neg 1000) y1.2.1),())) (some (y1.1,()))
theorem eq18:@run18 = @sh18:=by kernel_rfl
def sh10 (fu:Nat) (c27:(Str×Unit)->(Option ((List CharT)×Unit))) (c28:((List CharT)×Unit)->(Option (Str×Unit))) (c29:Unit->Str->Int->(Option ((Bool×Unit)×Int))) (c30:Unit->Str->Int->(Option ((Int×(Int×Unit))×Int))) (nf:Nat->Bool) (x0:Int) (x1:Str):(Option (LT×Unit)):=Option.bind (c27 (x1,())) fun y0=>Option.bind (c28 (y0.1,())) fun y1=>iter fu (fun (rec1:((LT×Unit)×((Str×(Int×Unit))×Unit))->Option (LT×Unit)) (s1:((LT×Unit)×((Str×(Int×Unit))×Unit)))=>iter fu (fun (rec2:((LT×Unit)×((Str×(Int×Unit))×((Int×(Str×(Int×(Int×(Int×(Bool×Unit))))))×Unit)))->Option (LT×Unit)) (s2:((LT×Unit)×((Str×(Int×Unit))×((Int×(Str×(Int×(Int×(Int×(Bool×Unit))))))×Unit))))=>cond (ilt s2.2.1.2.1 (lenI s2.2.1.1)) (Option.bind (c29 () s2.2.1.1 s2.2.1.2.1) fun y2=>cond y2.1.1 (rec2 ((s2.1.1,()),((s2.2.1.1,(y2.2,())),((s2.2.2.1.1,(s2.2.2.1.2.1,(s2.2.2.1.2.2.1,(s2.2.2.1.2.2.2.1,(s2.2.2.1.2.2.2.2.1,(true,())))))),())))) (cond (ile (lenI s2.2.1.1) y2.2) (some (s2.1.1,())) (Option.bind (c30 () s2.2.1.1 y2.2) fun y3=>cond (inS y3.2 (iadd .i64 y3.2 y3.1.2.1) (List.length s2.2.1.1)) (cond (inB y3.2 (List.length y0.1)) (cond (inB (isub .i64 (iadd .i64 y3.2 y3.1.2.1) 1) (List.length y0.1)) (cond (okN 56 ((List.length s2.1.1)+(List.length [(TokT.mk y3.1.1 (cutL s2.2.1.1 y3.2 (iadd .i64 y3.2 y3.1.2.1)) s2.2.2.1.2.2.1 (CharT.fat (List.getD y0.1 (Int.toNat y3.2) yX)) (iadd .i64 (CharT.fat (List.getD y0.1 (Int.toNat (isub .i64 (iadd .i64 y3.2 y3.1.2.1) 1)) yX)) 1) s2.2.2.1.2.2.2.2.2.1)]))) (rec1 (((s2.1.1++[(TokT.mk y3.1.1 (cutL s2.2.1.1 y3.2 (iadd .i64 y3.2 y3.1.2.1)) s2.2.2.1.2.2.1 (CharT.fat (List.getD y0.1 (Int.toNat y3.2) yX)) (iadd .i64 (CharT.fat (List.getD y0.1 (Int.toNat (isub .i64 (iadd .i64 y3.2 y3.1.2.1) 1)) yX)) 1) s2.2.2.1.2.2.2.2.2.1)]),()),((s2.2.1.1,((iadd .i64 y3.2 y3.1.2.1),())),()))) (none)) (none)) (none)) (none)))) (cond (ile (lenI s2.2.1.1) s2.2.1.2.1) (some (s2.1.1,())) (Option.bind (c30 () s2.2.1.1 s2.2.1.2.1) fun y2=>cond (inS y2.2 (iadd .i64 y2.2 y2.1.2.1) (List.length s2.2.1.1)) (cond (inB y2.2 (List.length y0.1)) (cond (inB (isub .i64 (iadd .i64 y2.2 y2.1.2.1) 1) (List.length y0.1)) (cond (okN 56 ((List.length s2.1.1)+(List.length [(TokT.mk y2.1.1 (cutL s2.2.1.1 y2.2 (iadd .i64 y2.2 y2.1.2.1)) s2.2.2.1.2.2.1 (CharT.fat (List.getD y0.1 (Int.toNat y2.2) yX)) (iadd .i64 (CharT.fat (List.getD y0.1 (Int.toNat (isub .i64 (iadd .i64 y2.2 y2.1.2.1) 1)) yX)) 1) s2.2.2.1.2.2.2.2.2.1)]))) (rec1 (((s2.1.1++[(TokT.mk y2.1.1 (cutL s2.2.1.1 y2.2 (iadd .i64 y2.2 y2.1.2.1)) s2.2.2.1.2.2.1 (CharT.fat (List.getD y0.1 (Int.toNat y2.2) yX)) (iadd .i64 (CharT.fat (List.getD y0.1 (Int.toNat (isub .i64 (iadd .i64 y2.2 y2.1.2.1) 1)) yX)) 1) s2.2.2.1.2.2.2.2.2.1)]),()),((s2.2.1.1,((iadd .i64 y2.2 y2.1.2.1),())),()))) (none)) (none)) (none)) (none)))) ((s1.1.1,()),((s1.2.1.1,(s1.2.1.2.1,())),((0,([],(x0,(0,(0,(false,())))))),())))) (([],()),((y1.1,(0,())),()))
theorem eq10:@run10 = @sh10:=by kernel_rfl
theorem con39 (fu:Nat) :ConOk CC Tryd.prog 39 ⟨as39,rs39,fun x=>sh39 fu (fun _=>false) x.1⟩:=
 zS (c:=⟨as39,rs39,fun x=>sh39 fu (fun _=>false) x.1⟩) (syn:=syn) (fu:=fu) (d:=2) (inl:=zA []) (orc:=zA []) (orr:=zA []) (orp:=zA []) (pf:=hasN []) (rf:=hasN []) zV CCok mixed (fun g=>(zG (α:=Con UU) (l:=[]) g).symm) (fun g=>(zG (α:=CR UU) (l:=[]) g).symm) (zB) (zB) (zB) (zB) fdok39 (by show 1<=35; decide) (zP rfl) (fun nf x=>by show run39 fu nf x.1=_; rw [eq39]; rfl)
theorem con41 (fu:Nat) :ConOk CC Tryd.prog 41 ⟨as41,rs41,fun x=>sh41 fu (fun _=>false) x.1⟩:=
 zS (c:=⟨as41,rs41,fun x=>sh41 fu (fun _=>false) x.1⟩) (syn:=syn) (fu:=fu) (d:=2) (inl:=zA []) (orc:=zA []) (orr:=zA []) (orp:=zA []) (pf:=hasN []) (rf:=hasN []) zV CCok mixed (fun g=>(zG (α:=Con UU) (l:=[]) g).symm) (fun g=>(zG (α:=CR UU) (l:=[]) g).symm) (zB) (zB) (zB) (zB) fdok41 (by show 1<=29; decide) (zP rfl) (fun nf x=>by show run41 fu nf x.1=_; rw [eq41]; rfl)
theorem con13 (fu:Nat) (c39:zI as39->Option (zI rs39)) (h39:ConOk CC Tryd.prog 39 ⟨as39,rs39,c39⟩) (c40:zI as40->Option (zI rs40)) (h40:ConOk CC Tryd.prog 40 ⟨as40,rs40,c40⟩) (c41:zI as41->Option (zI rs41)) (h41:ConOk CC Tryd.prog 41 ⟨as41,rs41,c41⟩):ConOk CC Tryd.prog 13 ⟨as13,rs13,fun x=>sh13 fu c39 c40 c41 (fun _=>false) x.1⟩:=
 zS (c:=⟨as13,rs13,fun x=>sh13 fu c39 c40 c41 (fun _=>false) x.1⟩) (syn:=syn) (fu:=fu) (d:=4) (inl:=zA [(38,fd38),(70,fd70)]) (orc:=zA [(39,(⟨as39,rs39,c39⟩:Con UU)),(40,(⟨as40,rs40,c40⟩:Con UU)),(41,(⟨as41,rs41,c41⟩:Con UU))]) (orr:=zA []) (orp:=zA []) (pf:=hasN [39,40,41]) (rf:=hasN []) zV CCok mixed (fun g=>(zG (α:=Con UU) (l:=[(39,(⟨as39,rs39,c39⟩:Con UU)),(40,(⟨as40,rs40,c40⟩:Con UU)),(41,(⟨as41,rs41,c41⟩:Con UU))]) g).symm) (fun g=>(zG (α:=CR UU) (l:=[]) g).symm) (zH zNz (zH zMU (zB))) (zH (OrcOk.of ⟨code39,h39⟩ rfl) (zH (OrcOk.of ⟨code40,h40⟩ rfl) (zH (OrcOk.of ⟨code41,h41⟩ rfl) (zB)))) (zB) (zB) fdok13 (by show 1<=69; decide) (zP rfl) (fun nf x=>by show run13 fu c39 c40 c41 nf x.1=_; rw [eq13]; rfl)
theorem con15 (fu:Nat) (c44:zI as44->Option (zI rs44)) (h44:ConOk CC Tryd.prog 44 ⟨as44,rs44,c44⟩):ConOk CC Tryd.prog 15 ⟨as15,rs15,fun x=>sh15 fu c44 (fun _=>false) x.1⟩:=
 zS (c:=⟨as15,rs15,fun x=>sh15 fu c44 (fun _=>false) x.1⟩) (syn:=syn) (fu:=fu) (d:=2) (inl:=zA []) (orc:=zA [(44,(⟨as44,rs44,c44⟩:Con UU))]) (orr:=zA []) (orp:=zA []) (pf:=hasN [44]) (rf:=hasN []) zV CCok mixed (fun g=>(zG (α:=Con UU) (l:=[(44,(⟨as44,rs44,c44⟩:Con UU))]) g).symm) (fun g=>(zG (α:=CR UU) (l:=[]) g).symm) (zB) (zH (OrcOk.of ⟨zI0,h44⟩ rfl) (zB)) (zB) (zB) fdok15 (by show 1<=63; decide) (zP rfl) (fun nf x=>by show run15 fu c44 nf x.1=_; rw [eq15]; rfl)
theorem con113 (fu:Nat) :ConOk CC Tryd.prog 113 ⟨j9,jR,fun x=>sh113 fu (fun _=>false) x.1 x.2.1 x.2.2.1⟩:=
 zS (c:=⟨j9,jR,fun x=>sh113 fu (fun _=>false) x.1 x.2.1 x.2.2.1⟩) (syn:=syn) (fu:=fu) (d:=3) (inl:=zA [(112,kr)]) (orc:=zA []) (orr:=zA []) (orp:=zA []) (pf:=hasN []) (rf:=hasN []) zV CCok mixed (fun g=>(zG (α:=Con UU) (l:=[]) g).symm) (fun g=>(zG (α:=CR UU) (l:=[]) g).symm) (zH zKV (zB)) (zB) (zB) (zB) zP4 (by show 3<=72; decide) (zP rfl) (fun nf x=>by show run113 fu nf x.1 x.2.1 x.2.2.1=_; rw [eq113]; rfl)
theorem con111 (fu:Nat) (c113:zI j9->Option (zI jR)) (h113:ConOk CC Tryd.prog 113 ⟨j9,jR,c113⟩):ConOk CC Tryd.prog 111 ⟨kA,jX,fun x=>sh111 fu c113 (fun _=>false) x.1 x.2.1 x.2.2.1⟩:=
 zS (c:=⟨kA,jX,fun x=>sh111 fu c113 (fun _=>false) x.1 x.2.1 x.2.2.1⟩) (syn:=syn) (fu:=fu) (d:=3) (inl:=zA [(112,kr)]) (orc:=zA [(113,(⟨j9,jR,c113⟩:Con UU))]) (orr:=zA []) (orp:=zA []) (pf:=hasN [113]) (rf:=hasN []) zV CCok mixed (fun g=>(zG (α:=Con UU) (l:=[(113,(⟨j9,jR,c113⟩:Con UU))]) g).symm) (fun g=>(zG (α:=CR UU) (l:=[]) g).symm) (zH zKH (zB)) (zH (OrcOk.of ⟨zPq,h113⟩ rfl) (zB)) (zB) (zB) zPj (by show 3<=57; decide) (zP rfl) (fun nf x=>by show run111 fu c113 nf x.1 x.2.1 x.2.2.1=_; rw [eq111]; rfl)
theorem con74 (fu:Nat) (c83:zI as83->Option (zI rs83)) (h83:ConOk CC Tryd.prog 83 ⟨as83,rs83,c83⟩):ConOk CC Tryd.prog 74 ⟨as74,rs74,fun x=>sh74 fu c83 (fun _=>false) x.1⟩:=
 zS (c:=⟨as74,rs74,fun x=>sh74 fu c83 (fun _=>false) x.1⟩) (syn:=syn) (fu:=fu) (d:=4) (inl:=zA [(48,fd48),(72,fd72)]) (orc:=zA [(83,(⟨as83,rs83,c83⟩:Con UU))]) (orr:=zA []) (orp:=zA []) (pf:=hasN [83]) (rf:=hasN []) zV CCok mixed (fun g=>(zG (α:=Con UU) (l:=[(83,(⟨as83,rs83,c83⟩:Con UU))]) g).symm) (fun g=>(zG (α:=CR UU) (l:=[]) g).symm) (zH zNZ (zH zMx (zB))) (zH (OrcOk.of ⟨code83,h83⟩ rfl) (zB)) (zB) (zB) fdok74 (by show 1<=17; decide) (zP rfl) (fun nf x=>by show run74 fu c83 nf x.1=_; rw [eq74]; rfl)
theorem con114 (fu:Nat) :ConOk CC Tryd.prog 114 ⟨zMA,zH1,fun x=>sh114 fu (fun _=>false) x.1⟩:=
 zS (c:=⟨zMA,zH1,fun x=>sh114 fu (fun _=>false) x.1⟩) (syn:=syn) (fu:=fu) (d:=2) (inl:=zA []) (orc:=zA []) (orr:=zA []) (orp:=zA []) (pf:=hasN []) (rf:=hasN []) zV CCok mixed (fun g=>(zG (α:=Con UU) (l:=[]) g).symm) (fun g=>(zG (α:=CR UU) (l:=[]) g).symm) (zB) (zB) (zB) (zB) zPh (by show 1<=5; decide) (zP rfl) (fun nf x=>by show run114 fu nf x.1=_; rw [eq114]; rfl)
theorem con115 (fu:Nat) (c1000000:zI zg->Option (zI zf)) (h1000000:OrcOk CC Tryd.prog 1000000 ⟨zg,zf,c1000000⟩):ConOk CC Tryd.prog 115 ⟨zMJ,zH5,fun x=>sh115 fu c1000000 (fun _=>false) x.1⟩:=
 zS (c:=⟨zMJ,zH5,fun x=>sh115 fu c1000000 (fun _=>false) x.1⟩) (syn:=syn) (fu:=fu) (d:=3) (inl:=zA [(112,kr)]) (orc:=zA [(1000000,(⟨zg,zf,c1000000⟩:Con UU))]) (orr:=zA []) (orp:=zA []) (pf:=hasN [1000000]) (rf:=hasN []) zV CCok mixed (fun g=>(zG (α:=Con UU) (l:=[(1000000,(⟨zg,zf,c1000000⟩:Con UU))]) g).symm) (fun g=>(zG (α:=CR UU) (l:=[]) g).symm) (zH zKX (zB)) (zH h1000000 (zB)) (zB) (zB) zPK (by show 1<=31; decide) (zP rfl) (fun nf x=>by show run115 fu c1000000 nf x.1=_; rw [eq115]; rfl)
theorem con110 (fu:Nat) (c111:zI kA->Option (zI jX)) (h111:ConOk CC Tryd.prog 111 ⟨kA,jX,c111⟩) (c1000000:zI zg->Option (zI zf)) (h1000000:OrcOk CC Tryd.prog 1000000 ⟨zg,zf,c1000000⟩):ConOk CC Tryd.prog 110 ⟨zLW,zH2,fun x=>sh110 fu c111 c1000000 (fun _=>false) x.1⟩:=
 zS (c:=⟨zLW,zH2,fun x=>sh110 fu c111 c1000000 (fun _=>false) x.1⟩) (syn:=syn) (fu:=fu) (d:=2) (inl:=zA []) (orc:=zA [(111,(⟨kA,jX,c111⟩:Con UU)),(1000000,(⟨zg,zf,c1000000⟩:Con UU))]) (orr:=zA []) (orp:=zA []) (pf:=hasN [111,1000000]) (rf:=hasN []) zV CCok mixed (fun g=>(zG (α:=Con UU) (l:=[(111,(⟨kA,jX,c111⟩:Con UU)),(1000000,(⟨zg,zf,c1000000⟩:Con UU))]) g).symm) (fun g=>(zG (α:=CR UU) (l:=[]) g).symm) (zB) (zH (OrcOk.of ⟨zPF,h111⟩ rfl) (zH h1000000 (zB))) (zB) (zB) zPL (by show 1<=49; decide) (zP rfl) (fun nf x=>by show run110 fu c111 c1000000 nf x.1=_; rw [eq110]; rfl)
theorem con109 (fu:Nat) (c1000000:zI zg->Option (zI zf)) (h1000000:OrcOk CC Tryd.prog 1000000 ⟨zg,zf,c1000000⟩):ConOk CC Tryd.prog 109 ⟨zLm,zHy,fun x=>sh109 fu c1000000 (fun _=>false) x.1⟩:=
 zS (c:=⟨zLm,zHy,fun x=>sh109 fu c1000000 (fun _=>false) x.1⟩) (syn:=syn) (fu:=fu) (d:=2) (inl:=zA []) (orc:=zA [(1000000,(⟨zg,zf,c1000000⟩:Con UU))]) (orr:=zA []) (orp:=zA []) (pf:=hasN [1000000]) (rf:=hasN []) zV CCok mixed (fun g=>(zG (α:=Con UU) (l:=[(1000000,(⟨zg,zf,c1000000⟩:Con UU))]) g).symm) (fun g=>(zG (α:=CR UU) (l:=[]) g).symm) (zB) (zH h1000000 (zB)) (zB) (zB) zP6 (by show 1<=29; decide) (zP rfl) (fun nf x=>by show run109 fu c1000000 nf x.1=_; rw [eq109]; rfl)
theorem con19 (fu:Nat) (c45:zI as45->Option (zI rs45)) (h45:ConOk CC Tryd.prog 45 ⟨as45,rs45,c45⟩):ConOk CC Tryd.prog 19 ⟨as19,rs19,fun x=>sh19 fu c45 (fun _=>false) x.1 x.2.1 x.2.2.1⟩:=
 zS (c:=⟨as19,rs19,fun x=>sh19 fu c45 (fun _=>false) x.1 x.2.1 x.2.2.1⟩) (syn:=syn) (fu:=fu) (d:=2) (inl:=zA []) (orc:=zA [(45,(⟨as45,rs45,c45⟩:Con UU))]) (orr:=zA []) (orp:=zA []) (pf:=hasN [45]) (rf:=hasN []) zV CCok mixed (fun g=>(zG (α:=Con UU) (l:=[(45,(⟨as45,rs45,c45⟩:Con UU))]) g).symm) (fun g=>(zG (α:=CR UU) (l:=[]) g).symm) (zB) (zH (OrcOk.of ⟨zNf,h45⟩ rfl) (zB)) (zB) (zB) fdok19 (by show 3<=120; decide) (zP rfl) (fun nf x=>by show run19 fu c45 nf x.1 x.2.1 x.2.2.1=_; rw [eq19]; rfl)
theorem con52 (fu:Nat) :CQ 52 (cE k0 kS (mE (sh52 fu))):=
 zCE (xC (syn:=syn) (fu:=fu) (d:=2) (inl:=zA []) (orc:=zA []) (orr:=zA []) (orp:=zA []) (pf:=hasN []) (rf:=hasN []) zV CCok mixed (fun g=>(zG (α:=Con UU) (l:=[]) g).symm) (fun g=>(zG (α:=CR UU) (l:=[]) g).symm) (zB) (zB) (zB) (zB) fdok52 (by show ([exK]:LK).length+(k0:LK).length<=26; decide) (fun x a=>by show run52 fu x a=sh52 fu x a; rw [eq52]))
theorem con53 (fu:Nat) (c52:zC k0->EE (zC kS)) (h52:CQ 52 (cE k0 kS c52)):CQ 53 (cE kS k0 (mE (sh53 fu c52))):=
 zCE (xC (syn:=syn) (fu:=fu) (d:=2) (inl:=zA []) (orc:=zA []) (orr:=zA []) (orp:=zA [(52,cE k0 kS c52)]) (pf:=hasN []) (rf:=hasN []) zV CCok mixed (fun g=>(zG (α:=Con UU) (l:=[]) g).symm) (fun g=>(zG (α:=CR UU) (l:=[]) g).symm) (zB) (zB) (zB) (zH ⟨zDN,h52⟩ (zB)) fdok53 (by show ([exK]:LK).length+(kS:LK).length<=19; decide) (fun x a=>by show run53 fu c52 x a=sh53 fu c52 x a; rw [eq53]))
theorem con54 (fu:Nat) (c26:zC kI->EE (zC kN)) (h26:CQ 26 (cE kI kN c26)):CQ 54 (cE kI kN (mE (sh54 fu c26))):=
 zCE (xC (syn:=syn) (fu:=fu) (d:=2) (inl:=zA []) (orc:=zA []) (orr:=zA []) (orp:=zA [(26,cE kI kN c26)]) (pf:=hasN []) (rf:=hasN []) zV CCok mixed (fun g=>(zG (α:=Con UU) (l:=[]) g).symm) (fun g=>(zG (α:=CR UU) (l:=[]) g).symm) (zB) (zB) (zB) (zH ⟨zMi,h26⟩ (zB)) fdok54 (by show ([exK]:LK).length+(kI:LK).length<=21; decide) (fun x a=>by show run54 fu c26 x a=sh54 fu c26 x a; rw [eq54]))
theorem con26 (fu:Nat) (c51:zC ([.int .i64,.int .i64]:LK)->EE (zC kN)) (h51:CQ 51 (cE ([.int .i64,.int .i64]:LK) kN c51)) (c52:zC k0->EE (zC kS)) (h52:CQ 52 (cE k0 kS c52)) (c53:zC kS->EE (zC k0)) (h53:CQ 53 (cE kS k0 c53)) (c54:zC kI->EE (zC kN)) (h54:CQ 54 (cE kI kN c54)):CQ 26 (cE kI kN (mE (sh26 fu c51 c52 c53 c54))):=
 zCE (xC (syn:=syn) (fu:=fu) (d:=2) (inl:=zA []) (orc:=zA []) (orr:=zA []) (orp:=zA [(51,cE ([.int .i64,.int .i64]:LK) kN c51),(52,cE k0 kS c52),(53,cE kS k0 c53),(54,cE kI kN c54)]) (pf:=hasN []) (rf:=hasN []) zV CCok mixed (fun g=>(zG (α:=Con UU) (l:=[]) g).symm) (fun g=>(zG (α:=CR UU) (l:=[]) g).symm) (zB) (zB) (zB) (zH ⟨zNY,h51⟩ (zH ⟨zDN,h52⟩ (zH ⟨zF0,h53⟩ (zH ⟨zNa,h54⟩ (zB))))) fdok26 (by show ([exK]:LK).length+(kI:LK).length<=34; decide) (fun x a=>by show run26 fu c51 c52 c53 c54 x a=sh26 fu c51 c52 c53 c54 x a; rw [eq26]))
theorem con51 (fu:Nat) (c74:zI as74->Option (zI rs74)) (h74:ConOk CC Tryd.prog 74 ⟨as74,rs74,c74⟩) (c51:zC ([.int .i64,.int .i64]:LK)->EE (zC kN)) (h51:CQ 51 (cE ([.int .i64,.int .i64]:LK) kN c51)) (c52:zC k0->EE (zC kS)) (h52:CQ 52 (cE k0 kS c52)) (c53:zC kS->EE (zC k0)) (h53:CQ 53 (cE kS k0 c53)) (c73:zC kI->EE (zC kN)) (h73:CQ 73 (cE kI kN c73)):CQ 51 (cE ([.int .i64,.int .i64]:LK) kN (mE (sh51 fu c74 c51 c52 c53 c73))):=
 zCE (xC (syn:=syn) (fu:=fu) (d:=2) (inl:=zA []) (orc:=zA [(74,(⟨as74,rs74,c74⟩:Con UU))]) (orr:=zA []) (orp:=zA [(51,cE ([.int .i64,.int .i64]:LK) kN c51),(52,cE k0 kS c52),(53,cE kS k0 c53),(73,cE kI kN c73)]) (pf:=hasN [74]) (rf:=hasN []) zV CCok mixed (fun g=>(zG (α:=Con UU) (l:=[(74,(⟨as74,rs74,c74⟩:Con UU))]) g).symm) (fun g=>(zG (α:=CR UU) (l:=[]) g).symm) (zB) (zH (OrcOk.of ⟨code74,h74⟩ rfl) (zB)) (zB) (zH ⟨zNY,h51⟩ (zH ⟨zDN,h52⟩ (zH ⟨zF0,h53⟩ (zH ⟨zNi,h73⟩ (zB))))) fdok51 (by show ([exK]:LK).length+(([.int .i64,.int .i64]:LK):LK).length<=43; decide) (fun x a=>by show run51 fu c74 c51 c52 c53 c73 x a=sh51 fu c74 c51 c52 c53 c73 x a; rw [eq51]))
theorem con73 (fu:Nat) (c52:zC k0->EE (zC kS)) (h52:CQ 52 (cE k0 kS c52)) (c53:zC kS->EE (zC k0)) (h53:CQ 53 (cE kS k0 c53)) (c73:zC kI->EE (zC kN)) (h73:CQ 73 (cE kI kN c73)) (c82:zC kI->EE (zC kN)) (h82:CQ 82 (cE kI kN c82)):CQ 73 (cE kI kN (mE (sh73 fu c52 c53 c73 c82))):=
 zCE (xC (syn:=syn) (fu:=fu) (d:=2) (inl:=zA []) (orc:=zA []) (orr:=zA []) (orp:=zA [(52,cE k0 kS c52),(53,cE kS k0 c53),(73,cE kI kN c73),(82,cE kI kN c82)]) (pf:=hasN []) (rf:=hasN []) zV CCok mixed (fun g=>(zG (α:=Con UU) (l:=[]) g).symm) (fun g=>(zG (α:=CR UU) (l:=[]) g).symm) (zB) (zB) (zB) (zH ⟨zDN,h52⟩ (zH ⟨zF0,h53⟩ (zH ⟨zNi,h73⟩ (zH ⟨code82,h82⟩ (zB))))) fdok73 (by show ([exK]:LK).length+(kI:LK).length<=41; decide) (fun x a=>by show run73 fu c52 c53 c73 c82 x a=sh73 fu c52 c53 c73 c82 x a; rw [eq73]))
theorem con82 (fu:Nat) (c13:zI as13->Option (zI rs13)) (h13:ConOk CC Tryd.prog 13 ⟨as13,rs13,c13⟩) (c15:zI as15->Option (zI rs15)) (h15:ConOk CC Tryd.prog 15 ⟨as15,rs15,c15⟩) (c52:zC k0->EE (zC kS)) (h52:CQ 52 (cE k0 kS c52)) (c53:zC kS->EE (zC k0)) (h53:CQ 53 (cE kS k0 c53)) (c54:zC kI->EE (zC kN)) (h54:CQ 54 (cE kI kN c54)):CQ 82 (cE kI kN (mE (sh82 fu c13 c15 c52 c53 c54))):=
 zCE (xC (syn:=syn) (fu:=fu) (d:=2) (inl:=zA []) (orc:=zA [(13,(⟨as13,rs13,c13⟩:Con UU)),(15,(⟨as15,rs15,c15⟩:Con UU))]) (orr:=zA []) (orp:=zA [(52,cE k0 kS c52),(53,cE kS k0 c53),(54,cE kI kN c54)]) (pf:=hasN [13,15]) (rf:=hasN []) zV CCok mixed (fun g=>(zG (α:=Con UU) (l:=[(13,(⟨as13,rs13,c13⟩:Con UU)),(15,(⟨as15,rs15,c15⟩:Con UU))]) g).symm) (fun g=>(zG (α:=CR UU) (l:=[]) g).symm) (zB) (zH (OrcOk.of ⟨code13,h13⟩ rfl) (zH (OrcOk.of ⟨code15,h15⟩ rfl) (zB))) (zB) (zH ⟨zDN,h52⟩ (zH ⟨zF0,h53⟩ (zH ⟨zNa,h54⟩ (zB)))) fdok82 (by show ([exK]:LK).length+(kI:LK).length<=78; decide) (fun x a=>by show run82 fu c13 c15 c52 c53 c54 x a=sh82 fu c13 c15 c52 c53 c54 x a; rw [eq82]))
theorem con23 (fu:Nat) :CQ 23 (cF ([.arr TI.tok,.fn 25]:LK) ([.bl TI.tok]:LK) (mF (sh23 fu))):=
 cF_of (zOw (syn:=syn) (fu:=fu) (d:=4) (inl:=zA [(25,fd25),(50,fd50)]) (orc:=zA []) (orr:=zA []) (orp:=zA []) (pf:=hasN []) (rf:=hasN []) zV CCok mixed (fun g=>(zG (α:=Con UU) (l:=[]) g).symm) (fun g=>(zG (α:=CR UU) (l:=[]) g).symm) (zH zNW (zH zNx (zB))) (zB) (zB) (zB) fdok23 (by show (k0:LK).length+(([.arr TI.tok,.fn 25]:LK):LK).length<=42; decide) (fun x a=>by show run23 fu x a=sh23 fu x a; rw [eq23]))
theorem con9 (fu:Nat) (c1000000:zI zg->Option (zI zf)) (h1000000:OrcOk CC Tryd.prog 1000000 ⟨zg,zf,c1000000⟩) (c23:zC ([.arr TI.tok,.fn 25]:LK)->Option (zC ([.bl TI.tok]:LK))) (h23:CQ 23 (cF ([.arr TI.tok,.fn 25]:LK) ([.bl TI.tok]:LK) c23)) (c26:zC kI->EE (zC kN)) (h26:CQ 26 (cE kI kN c26)):ConOk CC Tryd.prog 9 ⟨as9,rs9,fun x=>sh9 fu c1000000 c23 c26 (fun _=>false) x.1⟩:=
 zS (c:=⟨as9,rs9,fun x=>sh9 fu c1000000 c23 c26 (fun _=>false) x.1⟩) (syn:=syn) (fu:=fu) (d:=3) (inl:=zA [(24,fd24)]) (orc:=zA [(1000000,(⟨zg,zf,c1000000⟩:Con UU))]) (orr:=zA []) (orp:=zA [(23,cF ([.arr TI.tok,.fn 25]:LK) ([.bl TI.tok]:LK) c23),(26,cE kI kN c26)]) (pf:=hasN [1000000]) (rf:=hasN []) zV CCok mixed (fun g=>(zG (α:=Con UU) (l:=[(1000000,(⟨zg,zf,c1000000⟩:Con UU))]) g).symm) (fun g=>(zG (α:=CR UU) (l:=[]) g).symm) (zH zOH (zB)) (zH h1000000 (zB)) (zB) (zH ⟨code23,h23⟩ (zH ⟨zMi,h26⟩ (zB))) fdok9 (by show 1<=40; decide) (zP rfl) (fun nf x=>by show run9 fu c1000000 c23 c26 nf x.1=_; rw [eq9]; rfl)
theorem con18 (fu:Nat) (c9:zI as9->Option (zI rs9)) (h9:ConOk CC Tryd.prog 9 ⟨as9,rs9,c9⟩) (c10:zI as10->Option (zI rs10)) (h10:ConOk CC Tryd.prog 10 ⟨as10,rs10,c10⟩):ConOk CC Tryd.prog 18 ⟨as18,rs18,fun x=>sh18 fu c9 c10 (fun _=>false) x.1⟩:=
 zS (c:=⟨as18,rs18,fun x=>sh18 fu c9 c10 (fun _=>false) x.1⟩) (syn:=syn) (fu:=fu) (d:=2) (inl:=zA []) (orc:=zA [(9,(⟨as9,rs9,c9⟩:Con UU)),(10,(⟨as10,rs10,c10⟩:Con UU))]) (orr:=zA []) (orp:=zA []) (pf:=hasN [9,10]) (rf:=hasN []) zV CCok mixed (fun g=>(zG (α:=Con UU) (l:=[(9,(⟨as9,rs9,c9⟩:Con UU)),(10,(⟨as10,rs10,c10⟩:Con UU))]) g).symm) (fun g=>(zG (α:=CR UU) (l:=[]) g).symm) (zB) (zH (OrcOk.of ⟨code9,h9⟩ rfl) (zH (OrcOk.of ⟨zM0,h10⟩ rfl) (zB))) (zB) (zB) fdok18 (by show 1<=16; decide) (zP rfl) (fun nf x=>by show run18 fu c9 c10 nf x.1=_; rw [eq18]; rfl)
theorem con10 (fu:Nat) (c27:zI as27->Option (zI rs27)) (h27:ConOk CC Tryd.prog 27 ⟨as27,rs27,c27⟩) (c28:zI as28->Option (zI rs28)) (h28:ConOk CC Tryd.prog 28 ⟨as28,rs28,c28⟩) (c29:zC k0->DD (zC kB)) (h29:CQ 29 (cD k0 kB c29)) (c30:zC k0->DD (zC ([.int .i64,.int .i64]:LK))) (h30:CQ 30 (cD k0 ([.int .i64,.int .i64]:LK) c30)):ConOk CC Tryd.prog 10 ⟨as10,rs10,fun x=>sh10 fu c27 c28 c29 c30 (fun _=>false) x.1 x.2.1⟩:=
 zS (c:=⟨as10,rs10,fun x=>sh10 fu c27 c28 c29 c30 (fun _=>false) x.1 x.2.1⟩) (syn:=syn) (fu:=fu) (d:=2) (inl:=zA []) (orc:=zA [(27,(⟨as27,rs27,c27⟩:Con UU)),(28,(⟨as28,rs28,c28⟩:Con UU))]) (orr:=zA []) (orp:=zA [(29,cD k0 kB c29),(30,cD k0 ([.int .i64,.int .i64]:LK) c30)]) (pf:=hasN [27,28]) (rf:=hasN []) zV CCok mixed (fun g=>(zG (α:=Con UU) (l:=[(27,(⟨as27,rs27,c27⟩:Con UU)),(28,(⟨as28,rs28,c28⟩:Con UU))]) g).symm) (fun g=>(zG (α:=CR UU) (l:=[]) g).symm) (zB) (zH (OrcOk.of ⟨code27,h27⟩ rfl) (zH (OrcOk.of ⟨code28,h28⟩ rfl) (zB))) (zB) (zH ⟨code29,h29⟩ (zH ⟨code30,h30⟩ (zB))) fdok10 (by show 2<=102; decide) (zP rfl) (fun nf x=>by show run10 fu c27 c28 c29 c30 nf x.1 x.2.1=_; rw [eq10]; rfl)
end
section
open Go.Al Go.Den
def c40 (x:Int×Int×Unit):Option (Int×Int×Unit):=
 if 0<=x.1/\x.1 < 18446744073709551616/\0<=x.2.1/\x.2.1 < 18446744073709551616 then some (((x.1.toNat * x.2.1.toNat / 18446744073709551616:Nat):Int),((x.1.toNat * x.2.1.toNat % 18446744073709551616:Nat):Int),()) else none
theorem ok40:ConOk CC Tryd.prog 40 ⟨as40,rs40,c40⟩:=fun x y hx vs hvs=>by
 obtain ⟨a,b,u⟩:=x
 change Int at a b
 obtain ⟨v,vs',rfl,hv,v2,vs2,rfl,hv2,hvs⟩:=hvs
 replace hvs:vs2=[]:=hvs
 subst hvs
 replace hv:v = .at (.int .u64 a):=hv
 replace hv2:v2 = .at (.int .u64 b):=hv2
 subst hv hv2
 by_cases h:0<=a/\a < 18446744073709551616/\0<=b/\b < 18446744073709551616
 · have hx2:c40 (a,b,u)=some (((a.toNat * b.toNat / 18446744073709551616:Nat):Int),((a.toNat * b.toNat % 18446744073709551616:Nat):Int),()):=if_pos h
   replace hx:c40 (a,b,u)=some y:=hx
   rw [hx2] at hx
   injection hx with hx
   subst hx
   obtain ⟨h1,h2,h3,h4⟩:=h
   have e1:((Int.toNat a:Nat):Int)=a:=Int.toNat_of_nonneg h1
   have e2:((Int.toNat b:Nat):Int)=b:=Int.toNat_of_nonneg h3
   have:=pure40 (Int.toNat a) (Int.toNat b) (by omega) (by omega)
   rw [e1,e2] at this
   exact this
 · have hx2:c40 (a,b,u)=none:=if_neg h
   replace hx:c40 (a,b,u)=some y:=hx
   rw [hx2] at hx
   cases hx
def c83 (x:Str×Unit):Option (List Str×Unit):=
 if x.1.length < 4294967281/\(x.1.all fun b=>decide (b.toNat < 128))=true/\(Lib.fields x.1).isEmpty=false then some (Lib.fields x.1,()) else none
theorem ok83:ConOk CC Tryd.prog 83 ⟨as83,rs83,c83⟩:=fun x y hx vs hvs=>by
 obtain ⟨s,u⟩:=x
 change Str at s
 obtain ⟨v,vs',rfl,hv,hvs⟩:=hvs
 replace hvs:vs' = []:=hvs
 subst hvs
 replace hv:v = .at (.string ⟨List.toArray s⟩):=hv
 subst hv
 by_cases h:s.length < 4294967281/\(s.all fun b=>decide (b.toNat < 128))=true/\(Lib.fields s).isEmpty=false
 · have hx2:c83 (s,u)=some (Lib.fields s,()):=if_pos h
   replace hx:c83 (s,u)=some y:=hx
   rw [hx2] at hx
   injection hx with hx
   subst hx
   have h1:=pure83 s h.1 (fun b hb=>by simpa using List.all_eq_true.1 h.2.1 b hb)
   have h2:yC ((Lib.fields s).map fun s=>V.at (.string ⟨s.toArray⟩)) = .no:=by
    have h3:=h.2.2
    cases hf:Lib.fields s with
    | nil=>rw [hf] at h3; cases h3
    | cons a r=>rfl
   show xy _ 83 _ (.lst (yC ((Lib.fields s).map fun s=>V.at (.string ⟨s.toArray⟩))) ((Lib.fields s).map fun s=>V.at (.string ⟨s.toArray⟩)))
   rw [h2]
   exact h1
 · have hx2:c83 (s,u)=none:=if_neg h
   replace hx:c83 (s,u)=some y:=hx
   rw [hx2] at hx
   cases hx
noncomputable def c39:zI as39->Option (zI rs39):=fun x=>sh39 0 (fun _=>false) x.1
theorem ok39:ConOk CC Tryd.prog 39 ⟨as39,rs39,c39⟩:=con39 0
noncomputable def c41:zI as41->Option (zI rs41):=fun x=>sh41 20 (fun _=>false) x.1
theorem ok41:ConOk CC Tryd.prog 41 ⟨as41,rs41,c41⟩:=con41 20
noncomputable def c13 (fu:Nat):zI as13->Option (zI rs13):=fun x=>sh13 fu c39 c40 c41 (fun _=>false) x.1
theorem ok13 (fu:Nat):ConOk CC Tryd.prog 13 ⟨as13,rs13,c13 fu⟩:=con13 fu c39 ok39 c40 ok40 c41 ok41
noncomputable def c15:zI as15->Option (zI rs15):=fun x=>sh15 0 c44 (fun _=>false) x.1
theorem ok15:ConOk CC Tryd.prog 15 ⟨as15,rs15,c15⟩:=con15 0 c44 ok44
noncomputable def c113:zI j9->Option (zI jR):=fun x=>sh113 0 (fun _=>false) x.1 x.2.1 x.2.2.1
theorem ok113:ConOk CC Tryd.prog 113 ⟨j9,jR,c113⟩:=con113 0
noncomputable def c111:zI kA->Option (zI jX):=fun x=>sh111 0 c113 (fun _=>false) x.1 x.2.1 x.2.2.1
theorem ok111:ConOk CC Tryd.prog 111 ⟨kA,jX,c111⟩:=con111 0 c113 ok113
noncomputable def c74:zI as74->Option (zI rs74):=fun x=>sh74 20 c83 (fun _=>false) x.1
theorem ok74:ConOk CC Tryd.prog 74 ⟨as74,rs74,c74⟩:=con74 20 c83 ok83
noncomputable def cm:Nat->zI zg->Option (zI zf)
 | 0=>fun _=>none
 | n+1=>fun x=>match (show VT from x.1) with
  | .num k=>sh114 0 (fun _=>false) k
  | .un s y=>sh115 0 (cm n) (fun _=>false) ⟨s,y⟩
  | .bin s y z=>sh110 0 c111 (cm n) (fun _=>false) ⟨s,y,z⟩
  | .cho c y z=>sh109 0 (cm n) (fun _=>false) ⟨c,y,z⟩
theorem zMn {m:String} (h:mIx m=1000000):m = "emend/ifexpr.comes":=by
 unfold mIx at h
 cases hd:decide (m = "emend/ifexpr.comes") with
 | true=>exact of_decide_eq_true hd
 | false=>rw [hd] at h; simp at h
theorem zO7:resM Tryd.prog 105 "emend/ifexpr.comes" = some 114:=by kernel_rfl
theorem zP8:resM Tryd.prog 110 "emend/ifexpr.comes" = some 115:=by kernel_rfl
theorem zPZ:resM Tryd.prog 104 "emend/ifexpr.comes" = some 110:=by kernel_rfl
theorem resM88:resM Tryd.prog 88 "emend/ifexpr.comes" = some 109:=by kernel_rfl
theorem cmok:∀ n,OrcOk CC Tryd.prog 1000000 ⟨zg,zf,cm n⟩
 | 0=>⟨fun h=>absurd h (by decide),fun m _ x y hx=>by cases hx⟩
 | n+1=>⟨fun h=>absurd h (by decide),fun m hm x y hx v vs hvs=>by
  have ih:=cmok n
  rw [zMn hm]
  obtain ⟨t,u⟩:=x
  obtain ⟨v',vs',hv0,hv,hvs⟩:=hvs
  injection hv0 with e1 e2
  subst e1 e2
  replace hvs:vs=[]:=hvs
  subst hvs
  replace hv:v = .at (VT.enc t):=hv
  subst hv
  replace hx:(match (show VT from t) with
   | .num k=>sh114 0 (fun _=>false) k
   | .un s y=>sh115 0 (cm n) (fun _=>false) ⟨s,y⟩
   | .bin s y z=>sh110 0 c111 (cm n) (fun _=>false) ⟨s,y,z⟩
   | .cho c y z=>sh109 0 (cm n) (fun _=>false) ⟨c,y,z⟩)=some y:=hx
  revert hx
  cases (show VT from t) with
  | num k=>exact fun hx=>⟨105,.int .i64 k,114,rfl,zO7,zO5,rfl,con114 0 (k,()) y hx _ ⟨_,_,rfl,rfl,rfl⟩⟩
  | un s z=>exact fun hx=>⟨110,_,115,rfl,zP8,zPH,(by cases z <;> rfl),con115 0 (cm n) ih ((⟨s,z⟩:UnT),()) y hx _ ⟨_,_,rfl,(by cases z <;> rfl),rfl⟩⟩
  | bin s z1 z2=>exact fun hx=>⟨104,_,110,rfl,zPZ,zPt,(by cases z1 <;> cases z2 <;> rfl),con110 0 c111 ok111 (cm n) ih ((⟨s,z1,z2⟩:BinT),()) y hx _ ⟨_,_,rfl,(by cases z1 <;> cases z2 <;> rfl),rfl⟩⟩
  | cho c z1 z2=>exact fun hx=>⟨88,_,109,rfl,resM88,zQK,(by cases c <;> cases z1 <;> cases z2 <;> rfl),con109 0 (cm n) ih ((⟨c,z1,z2⟩:ChoT),()) y hx _ ⟨_,_,rfl,(by cases c <;> cases z1 <;> cases z2 <;> rfl),rfl⟩⟩⟩
end
section
open Go.Al Go.Den
def sh29 (fu:Nat) (c44:(Str×(Int×Unit))->(Option (Int×Unit))) (c58:(Str×(Str×Unit))->(Option (Int×Unit))) (c56:(Int×Unit)->Str->Int->(Option (Int×Unit))) (c57:(Str×Unit)->Str->Int->(Option ((Bool×Unit)×Int))) (x:((Str×(Int×Unit))×Unit)) (a:Unit):(Option (Option (((Str×(Int×Unit))×Unit)×(Bool×Unit)))):=zA7 (fun (join0:(Unit×((Str×(Int×Unit))×Unit))->Option (Option (((Str×(Int×Unit))×Unit)×(Bool×Unit))))=>Option.bind (c56 (0,()) x.1.1 x.1.2.1) fun y0=>zA7 (fun (join1:((Bool×Unit)×((Str×(Int×Unit))×Unit))->Option (Option (((Str×(Int×Unit))×Unit)×(Bool×Unit))))=>cond (ieq y0.1 32) (join1 ((true,()),((x.1.1,(x.1.2.1,())),()))) (cond (ieq y0.1 9) (join1 ((true,()),((x.1.1,(x.1.2.1,())),()))) (cond (ieq y0.1 11) (join1 ((true,()),((x.1.1,(x.1.2.1,())),()))) (cond (ieq y0.1 12) (join1 ((true,()),((x.1.1,(x.1.2.1,())),()))) (join1 (((ieq y0.1 13),()),((x.1.1,(x.1.2.1,())),()))))))) (fun (t0:((Bool×Unit)×((Str×(Int×Unit))×Unit)))=>cond t0.1.1 (some (some (((t0.2.1.1,((iadd .i64 t0.2.1.2.1 1),())),()),(true,())))) (join0 ((),((t0.2.1.1,(t0.2.1.2.1,())),()))))) (fun (t0:(Unit×((Str×(Int×Unit))×Unit)))=>Option.bind (c57 ([47,47],()) t0.2.1.1 t0.2.1.2.1) fun y0=>cond y0.1.1 (cond (inS y0.2 (lenI t0.2.1.1) (List.length t0.2.1.1)) (Option.bind (c44 ((cutL t0.2.1.1 y0.2 (lenI t0.2.1.1)),(10,()))) fun y1=>zA7 (fun (join0:((Int×Unit)×((Str×(Int×Unit))×Unit))->Option (Option (((Str×(Int×Unit))×Unit)×(Bool×Unit))))=>cond (ilt y1.1 0) (join0 (((isub .i64 (lenI t0.2.1.1) y0.2),()),((t0.2.1.1,(y0.2,())),()))) (join0 ((y1.1,()),((t0.2.1.1,(y0.2,())),())))) (fun (t1:((Int×Unit)×((Str×(Int×Unit))×Unit)))=>some (some (((t1.2.1.1,((iadd .i64 t1.2.1.2.1 t1.1.1),())),()),(true,()))))) (none)) (Option.bind (c57 ([47,42],()) t0.2.1.1 y0.2) fun y1=>cond (!y1.1.1) (some (some (((t0.2.1.1,(y1.2,())),()),(false,())))) (cond (inS (iadd .i64 y1.2 2) (lenI t0.2.1.1) (List.length t0.2.1.1)) (Option.bind (c58 ((cutL t0.2.1.1 (iadd .i64 y1.2 2) (lenI t0.2.1.1)),([42,47],()))) fun y2=>cond (ilt y2.1 0) (some (some (((t0.2.1.1,(y1.2,())),()),(false,())))) (some (some (((t0.2.1.1,((iadd .i64 y1.2 (iadd .i64 y2.1 4)),())),()),(true,()))))) (none))))
theorem eq29:@run29 = @sh29:=by kernel_rfl
def sh57 (fu:Nat) (x:((Str×(Int×Unit))×Unit)) (a:(Str×Unit)):(Option (Option (((Str×(Int×Unit))×Unit)×(Bool×Unit)))):=cond (inS x.1.2.1 (lenI x.1.1) (List.length x.1.1)) (cond (ile (lenI a.1) (lenI (cutL x.1.1 x.1.2.1 (lenI x.1.1)))) (cond (inS 0 (lenI a.1) (List.length (cutL x.1.1 x.1.2.1 (lenI x.1.1)))) (some (some (((x.1.1,(x.1.2.1,())),()),((seq (cutL (cutL x.1.1 x.1.2.1 (lenI x.1.1)) 0 (lenI a.1)) a.1),())))) (none)) (some (some (((x.1.1,(x.1.2.1,())),()),(false,()))))) (none)
theorem eq57:@run57 = @sh57:=by kernel_rfl
def sh30 (fu:Nat) (c57:(Str×Unit)->Str->Int->(Option ((Bool×Unit)×Int))) (c59:Unit->Str->Int->(Option ((Int×Unit)×Int))) (c60:Unit->Str->Int->(Option ((Int×Unit)×Int))) (c61:(Int×Unit)->Str->Int->(Option ((Int×Unit)×Int))) (c62:Unit->Str->Int->(Option ((Int×Unit)×Int))) (x:((Str×(Int×Unit))×Unit)) (a:Unit):(Option (Option (((Str×(Int×Unit))×Unit)×(Int×(Int×Unit))))):=Option.bind (c57 ([10],()) x.1.1 x.1.2.1) fun y0=>cond y0.1.1 (some (some (((x.1.1,(y0.2,())),()),(7,(1,()))))) (Option.bind (c59 () x.1.1 y0.2) fun y1=>cond (ilt 0 y1.1.1) (some (some (((x.1.1,(y1.2,())),()),(1,(y1.1.1,()))))) (Option.bind (c60 () x.1.1 y1.2) fun y2=>cond (ilt 0 y2.1.1) (some (some (((x.1.1,(y2.2,())),()),(2,(y2.1.1,()))))) (Option.bind (c61 (34,()) x.1.1 y2.2) fun y3=>cond (ilt 0 y3.1.1) (some (some (((x.1.1,(y3.2,())),()),(4,(y3.1.1,()))))) (Option.bind (c61 (39,()) x.1.1 y3.2) fun y4=>cond (ilt 0 y4.1.1) (some (some (((x.1.1,(y4.2,())),()),(3,(y4.1.1,()))))) (Option.bind (c62 () x.1.1 y4.2) fun y5=>cond (ilt 0 y5.1.1) (some (some (((x.1.1,(y5.2,())),()),(5,(y5.1.1,()))))) (some (some (((x.1.1,(y5.2,())),()),(6,(1,()))))))))))
theorem eq30:@run30 = @sh30:=by kernel_rfl
def sh59 (fu:Nat) (c56:(Int×Unit)->Str->Int->(Option (Int×Unit))) (x:((Str×(Int×Unit))×Unit)) (a:Unit):(Option (Option (((Str×(Int×Unit))×Unit)×(Int×Unit)))):=iter fu (fun (rec1:((Int×Unit)×((Str×(Int×Unit))×Unit))->Option (Option (((Str×(Int×Unit))×Unit)×(Int×Unit)))) (s1:((Int×Unit)×((Str×(Int×Unit))×Unit)))=>Option.bind (c56 (s1.1.1,()) s1.2.1.1 s1.2.1.2.1) fun y0=>cond (ieq y0.1 95) (rec1 (((iadd .i64 s1.1.1 1),()),((s1.2.1.1,(s1.2.1.2.1,())),()))) (cond (ile 97 y0.1) (cond (ile y0.1 122) (rec1 (((iadd .i64 s1.1.1 1),()),((s1.2.1.1,(s1.2.1.2.1,())),()))) (cond (ile 65 y0.1) (cond (ile y0.1 90) (rec1 (((iadd .i64 s1.1.1 1),()),((s1.2.1.1,(s1.2.1.2.1,())),()))) (cond (ilt 0 s1.1.1) (Option.bind (c56 (s1.1.1,()) s1.2.1.1 s1.2.1.2.1) fun y1=>cond (ile 48 y1.1) (cond (ile y1.1 57) (rec1 (((iadd .i64 s1.1.1 1),()),((s1.2.1.1,(s1.2.1.2.1,())),()))) (some (some (((s1.2.1.1,(s1.2.1.2.1,())),()),(s1.1.1,()))))) (some (some (((s1.2.1.1,(s1.2.1.2.1,())),()),(s1.1.1,()))))) (some (some (((s1.2.1.1,(s1.2.1.2.1,())),()),(s1.1.1,())))))) (cond (ilt 0 s1.1.1) (Option.bind (c56 (s1.1.1,()) s1.2.1.1 s1.2.1.2.1) fun y1=>cond (ile 48 y1.1) (cond (ile y1.1 57) (rec1 (((iadd .i64 s1.1.1 1),()),((s1.2.1.1,(s1.2.1.2.1,())),()))) (some (some (((s1.2.1.1,(s1.2.1.2.1,())),()),(s1.1.1,()))))) (some (some (((s1.2.1.1,(s1.2.1.2.1,())),()),(s1.1.1,()))))) (some (some (((s1.2.1.1,(s1.2.1.2.1,())),()),(s1.1.1,()))))))) (cond (ile 65 y0.1) (cond (ile y0.1 90) (rec1 (((iadd .i64 s1.1.1 1),()),((s1.2.1.1,(s1.2.1.2.1,())),()))) (cond (ilt 0 s1.1.1) (Option.bind (c56 (s1.1.1,()) s1.2.1.1 s1.2.1.2.1) fun y1=>cond (ile 48 y1.1) (cond (ile y1.1 57) (rec1 (((iadd .i64 s1.1.1 1),()),((s1.2.1.1,(s1.2.1.2.1,())),()))) (some (some (((s1.2.1.1,(s1.2.1.2.1,())),()),(s1.1.1,()))))) (some (some (((s1.2.1.1,(s1.2.1.2.1,())),()),(s1.1.1,()))))) (some (some (((s1.2.1.1,(s1.2.1.2.1,())),()),(s1.1.1,())))))) (cond (ilt 0 s1.1.1) (Option.bind (c56 (s1.1.1,()) s1.2.1.1 s1.2.1.2.1) fun y1=>cond (ile 48 y1.1) (cond (ile y1.1 57) (rec1 (((iadd .i64 s1.1.1 1),()),((s1.2.1.1,(s1.2.1.2.1,())),()))) (some (some (((s1.2.1.1,(s1.2.1.2.1,())),()),(s1.1.1,()))))) (some (some (((s1.2.1.1,(s1.2.1.2.1,())),()),(s1.1.1,()))))) (some (some (((s1.2.1.1,(s1.2.1.2.1,())),()),(s1.1.1,())))))))) ((0,()),((x.1.1,(x.1.2.1,())),()))
theorem eq59:@run59 = @sh59:=by kernel_rfl
def sh60 (fu:Nat) (c44:(Str×(Int×Unit))->(Option (Int×Unit))) (c56:(Int×Unit)->Str->Int->(Option (Int×Unit))) (x:((Str×(Int×Unit))×Unit)) (a:Unit):(Option (Option (((Str×(Int×Unit))×Unit)×(Int×Unit)))):=Option.bind (c56 (0,()) x.1.1 x.1.2.1) fun y0=>cond (ile 48 y0.1) (cond (!(ile y0.1 57)) (Option.bind (c56 (0,()) x.1.1 x.1.2.1) fun y1=>cond (ine y1.1 46) (some (some (((x.1.1,(x.1.2.1,())),()),(0,())))) (Option.bind (c56 (1,()) x.1.1 x.1.2.1) fun y2=>cond (ile 48 y2.1) (cond (!(ile y2.1 57)) (some (some (((x.1.1,(x.1.2.1,())),()),(0,())))) (iter fu (fun (rec1:((Int×Unit)×((Str×(Int×Unit))×Unit))->Option (Option (((Str×(Int×Unit))×Unit)×(Int×Unit)))) (s1:((Int×Unit)×((Str×(Int×Unit))×Unit)))=>Option.bind (c56 (s1.1.1,()) s1.2.1.1 s1.2.1.2.1) fun y3=>Option.bind (c56 ((iadd .i64 s1.1.1 1),()) s1.2.1.1 s1.2.1.2.1) fun y4=>Option.bind (c44 ([101,69,112,80],(y3.1,()))) fun y5=>cond (ile 0 y5.1) (cond (ieq y4.1 43) (rec1 (((iadd .i64 s1.1.1 2),()),((s1.2.1.1,(s1.2.1.2.1,())),()))) (cond (ieq y4.1 45) (rec1 (((iadd .i64 s1.1.1 2),()),((s1.2.1.1,(s1.2.1.2.1,())),()))) (cond (ieq y3.1 95) (rec1 (((iadd .i64 s1.1.1 1),()),((s1.2.1.1,(s1.2.1.2.1,())),()))) (cond (ile 97 y3.1) (cond (ile y3.1 122) (rec1 (((iadd .i64 s1.1.1 1),()),((s1.2.1.1,(s1.2.1.2.1,())),()))) (cond (ile 65 y3.1) (cond (ile y3.1 90) (rec1 (((iadd .i64 s1.1.1 1),()),((s1.2.1.1,(s1.2.1.2.1,())),()))) (cond (ile 48 y3.1) (cond (ile y3.1 57) (rec1 (((iadd .i64 s1.1.1 1),()),((s1.2.1.1,(s1.2.1.2.1,())),()))) (cond (ieq y3.1 46) (rec1 (((iadd .i64 s1.1.1 1),()),((s1.2.1.1,(s1.2.1.2.1,())),()))) (some (some (((s1.2.1.1,(s1.2.1.2.1,())),()),(s1.1.1,())))))) (cond (ieq y3.1 46) (rec1 (((iadd .i64 s1.1.1 1),()),((s1.2.1.1,(s1.2.1.2.1,())),()))) (some (some (((s1.2.1.1,(s1.2.1.2.1,())),()),(s1.1.1,()))))))) (cond (ile 48 y3.1) (cond (ile y3.1 57) (rec1 (((iadd .i64 s1.1.1 1),()),((s1.2.1.1,(s1.2.1.2.1,())),()))) (cond (ieq y3.1 46) (rec1 (((iadd .i64 s1.1.1 1),()),((s1.2.1.1,(s1.2.1.2.1,())),()))) (some (some (((s1.2.1.1,(s1.2.1.2.1,())),()),(s1.1.1,())))))) (cond (ieq y3.1 46) (rec1 (((iadd .i64 s1.1.1 1),()),((s1.2.1.1,(s1.2.1.2.1,())),()))) (some (some (((s1.2.1.1,(s1.2.1.2.1,())),()),(s1.1.1,())))))))) (cond (ile 65 y3.1) (cond (ile y3.1 90) (rec1 (((iadd .i64 s1.1.1 1),()),((s1.2.1.1,(s1.2.1.2.1,())),()))) (cond (ile 48 y3.1) (cond (ile y3.1 57) (rec1 (((iadd .i64 s1.1.1 1),()),((s1.2.1.1,(s1.2.1.2.1,())),()))) (cond (ieq y3.1 46) (rec1 (((iadd .i64 s1.1.1 1),()),((s1.2.1.1,(s1.2.1.2.1,())),()))) (some (some (((s1.2.1.1,(s1.2.1.2.1,())),()),(s1.1.1,())))))) (cond (ieq y3.1 46) (rec1 (((iadd .i64 s1.1.1 1),()),((s1.2.1.1,(s1.2.1.2.1,())),()))) (some (some (((s1.2.1.1,(s1.2.1.2.1,())),()),(s1.1.1,()))))))) (cond (ile 48 y3.1) (cond (ile y3.1 57) (rec1 (((iadd .i64 s1.1.1 1),()),((s1.2.1.1,(s1.2.1.2.1,())),()))) (cond (ieq y3.1 46) (rec1 (((iadd .i64 s1.1.1 1),()),((s1.2.1.1,(s1.2.1.2.1,())),()))) (some (some (((s1.2.1.1,(s1.2.1.2.1,())),()),(s1.1.1,())))))) (cond (ieq y3.1 46) (rec1 (((iadd .i64 s1.1.1 1),()),((s1.2.1.1,(s1.2.1.2.1,())),()))) (some (some (((s1.2.1.1,(s1.2.1.2.1,())),()),(s1.1.1,()))))))))))) (cond (ieq y3.1 95) (rec1 (((iadd .i64 s1.1.1 1),()),((s1.2.1.1,(s1.2.1.2.1,())),()))) (cond (ile 97 y3.1) (cond (ile y3.1 122) (rec1 (((iadd .i64 s1.1.1 1),()),((s1.2.1.1,(s1.2.1.2.1,())),()))) (cond (ile 65 y3.1) (cond (ile y3.1 90) (rec1 (((iadd .i64 s1.1.1 1),()),((s1.2.1.1,(s1.2.1.2.1,())),()))) (cond (ile 48 y3.1) (cond (ile y3.1 57) (rec1 (((iadd .i64 s1.1.1 1),()),((s1.2.1.1,(s1.2.1.2.1,())),()))) (cond (ieq y3.1 46) (rec1 (((iadd .i64 s1.1.1 1),()),((s1.2.1.1,(s1.2.1.2.1,())),()))) (some (some (((s1.2.1.1,(s1.2.1.2.1,())),()),(s1.1.1,())))))) (cond (ieq y3.1 46) (rec1 (((iadd .i64 s1.1.1 1),()),((s1.2.1.1,(s1.2.1.2.1,())),()))) (some (some (((s1.2.1.1,(s1.2.1.2.1,())),()),(s1.1.1,()))))))) (cond (ile 48 y3.1) (cond (ile y3.1 57) (rec1 (((iadd .i64 s1.1.1 1),()),((s1.2.1.1,(s1.2.1.2.1,())),()))) (cond (ieq y3.1 46) (rec1 (((iadd .i64 s1.1.1 1),()),((s1.2.1.1,(s1.2.1.2.1,())),()))) (some (some (((s1.2.1.1,(s1.2.1.2.1,())),()),(s1.1.1,())))))) (cond (ieq y3.1 46) (rec1 (((iadd .i64 s1.1.1 1),()),((s1.2.1.1,(s1.2.1.2.1,())),()))) (some (some (((s1.2.1.1,(s1.2.1.2.1,())),()),(s1.1.1,())))))))) (cond (ile 65 y3.1) (cond (ile y3.1 90) (rec1 (((iadd .i64 s1.1.1 1),()),((s1.2.1.1,(s1.2.1.2.1,())),()))) (cond (ile 48 y3.1) (cond (ile y3.1 57) (rec1 (((iadd .i64 s1.1.1 1),()),((s1.2.1.1,(s1.2.1.2.1,())),()))) (cond (ieq y3.1 46) (rec1 (((iadd .i64 s1.1.1 1),()),((s1.2.1.1,(s1.2.1.2.1,())),()))) (some (some (((s1.2.1.1,(s1.2.1.2.1,())),()),(s1.1.1,())))))) (cond (ieq y3.1 46) (rec1 (((iadd .i64 s1.1.1 1),()),((s1.2.1.1,(s1.2.1.2.1,())),()))) (some (some (((s1.2.1.1,(s1.2.1.2.1,())),()),(s1.1.1,()))))))) (cond (ile 48 y3.1) (cond (ile y3.1 57) (rec1 (((iadd .i64 s1.1.1 1),()),((s1.2.1.1,(s1.2.1.2.1,())),()))) (cond (ieq y3.1 46) (rec1 (((iadd .i64 s1.1.1 1),()),((s1.2.1.1,(s1.2.1.2.1,())),()))) (some (some (((s1.2.1.1,(s1.2.1.2.1,())),()),(s1.1.1,())))))) (cond (ieq y3.1 46) (rec1 (((iadd .i64 s1.1.1 1),()),((s1.2.1.1,(s1.2.1.2.1,())),()))) (some (some (((s1.2.1.1,(s1.2.1.2.1,())),()),(s1.1.1,())))))))))) ((1,()),((x.1.1,(x.1.2.1,())),())))) (some (some (((x.1.1,(x.1.2.1,())),()),(0,())))))) (iter fu (fun (rec1:((Int×Unit)×((Str×(Int×Unit))×Unit))->Option (Option (((Str×(Int×Unit))×Unit)×(Int×Unit)))) (s1:((Int×Unit)×((Str×(Int×Unit))×Unit)))=>Option.bind (c56 (s1.1.1,()) s1.2.1.1 s1.2.1.2.1) fun y1=>Option.bind (c56 ((iadd .i64 s1.1.1 1),()) s1.2.1.1 s1.2.1.2.1) fun y2=>Option.bind (c44 ([101,69,112,80],(y1.1,()))) fun y3=>cond (ile 0 y3.1) (cond (ieq y2.1 43) (rec1 (((iadd .i64 s1.1.1 2),()),((s1.2.1.1,(s1.2.1.2.1,())),()))) (cond (ieq y2.1 45) (rec1 (((iadd .i64 s1.1.1 2),()),((s1.2.1.1,(s1.2.1.2.1,())),()))) (cond (ieq y1.1 95) (rec1 (((iadd .i64 s1.1.1 1),()),((s1.2.1.1,(s1.2.1.2.1,())),()))) (cond (ile 97 y1.1) (cond (ile y1.1 122) (rec1 (((iadd .i64 s1.1.1 1),()),((s1.2.1.1,(s1.2.1.2.1,())),()))) (cond (ile 65 y1.1) (cond (ile y1.1 90) (rec1 (((iadd .i64 s1.1.1 1),()),((s1.2.1.1,(s1.2.1.2.1,())),()))) (cond (ile 48 y1.1) (cond (ile y1.1 57) (rec1 (((iadd .i64 s1.1.1 1),()),((s1.2.1.1,(s1.2.1.2.1,())),()))) (cond (ieq y1.1 46) (rec1 (((iadd .i64 s1.1.1 1),()),((s1.2.1.1,(s1.2.1.2.1,())),()))) (some (some (((s1.2.1.1,(s1.2.1.2.1,())),()),(s1.1.1,())))))) (cond (ieq y1.1 46) (rec1 (((iadd .i64 s1.1.1 1),()),((s1.2.1.1,(s1.2.1.2.1,())),()))) (some (some (((s1.2.1.1,(s1.2.1.2.1,())),()),(s1.1.1,()))))))) (cond (ile 48 y1.1) (cond (ile y1.1 57) (rec1 (((iadd .i64 s1.1.1 1),()),((s1.2.1.1,(s1.2.1.2.1,())),()))) (cond (ieq y1.1 46) (rec1 (((iadd .i64 s1.1.1 1),()),((s1.2.1.1,(s1.2.1.2.1,())),()))) (some (some (((s1.2.1.1,(s1.2.1.2.1,())),()),(s1.1.1,())))))) (cond (ieq y1.1 46) (rec1 (((iadd .i64 s1.1.1 1),()),((s1.2.1.1,(s1.2.1.2.1,())),()))) (some (some (((s1.2.1.1,(s1.2.1.2.1,())),()),(s1.1.1,())))))))) (cond (ile 65 y1.1) (cond (ile y1.1 90) (rec1 (((iadd .i64 s1.1.1 1),()),((s1.2.1.1,(s1.2.1.2.1,())),()))) (cond (ile 48 y1.1) (cond (ile y1.1 57) (rec1 (((iadd .i64 s1.1.1 1),()),((s1.2.1.1,(s1.2.1.2.1,())),()))) (cond (ieq y1.1 46) (rec1 (((iadd .i64 s1.1.1 1),()),((s1.2.1.1,(s1.2.1.2.1,())),()))) (some (some (((s1.2.1.1,(s1.2.1.2.1,())),()),(s1.1.1,())))))) (cond (ieq y1.1 46) (rec1 (((iadd .i64 s1.1.1 1),()),((s1.2.1.1,(s1.2.1.2.1,())),()))) (some (some (((s1.2.1.1,(s1.2.1.2.1,())),()),(s1.1.1,()))))))) (cond (ile 48 y1.1) (cond (ile y1.1 57) (rec1 (((iadd .i64 s1.1.1 1),()),((s1.2.1.1,(s1.2.1.2.1,())),()))) (cond (ieq y1.1 46) (rec1 (((iadd .i64 s1.1.1 1),()),((s1.2.1.1,(s1.2.1.2.1,())),()))) (some (some (((s1.2.1.1,(s1.2.1.2.1,())),()),(s1.1.1,())))))) (cond (ieq y1.1 46) (rec1 (((iadd .i64 s1.1.1 1),()),((s1.2.1.1,(s1.2.1.2.1,())),()))) (some (some (((s1.2.1.1,(s1.2.1.2.1,())),()),(s1.1.1,()))))))))))) (cond (ieq y1.1 95) (rec1 (((iadd .i64 s1.1.1 1),()),((s1.2.1.1,(s1.2.1.2.1,())),()))) (cond (ile 97 y1.1) (cond (ile y1.1 122) (rec1 (((iadd .i64 s1.1.1 1),()),((s1.2.1.1,(s1.2.1.2.1,())),()))) (cond (ile 65 y1.1) (cond (ile y1.1 90) (rec1 (((iadd .i64 s1.1.1 1),()),((s1.2.1.1,(s1.2.1.2.1,())),()))) (cond (ile 48 y1.1) (cond (ile y1.1 57) (rec1 (((iadd .i64 s1.1.1 1),()),((s1.2.1.1,(s1.2.1.2.1,())),()))) (cond (ieq y1.1 46) (rec1 (((iadd .i64 s1.1.1 1),()),((s1.2.1.1,(s1.2.1.2.1,())),()))) (some (some (((s1.2.1.1,(s1.2.1.2.1,())),()),(s1.1.1,())))))) (cond (ieq y1.1 46) (rec1 (((iadd .i64 s1.1.1 1),()),((s1.2.1.1,(s1.2.1.2.1,())),()))) (some (some (((s1.2.1.1,(s1.2.1.2.1,())),()),(s1.1.1,()))))))) (cond (ile 48 y1.1) (cond (ile y1.1 57) (rec1 (((iadd .i64 s1.1.1 1),()),((s1.2.1.1,(s1.2.1.2.1,())),()))) (cond (ieq y1.1 46) (rec1 (((iadd .i64 s1.1.1 1),()),((s1.2.1.1,(s1.2.1.2.1,())),()))) (some (some (((s1.2.1.1,(s1.2.1.2.1,())),()),(s1.1.1,())))))) (cond (ieq y1.1 46) (rec1 (((iadd .i64 s1.1.1 1),()),((s1.2.1.1,(s1.2.1.2.1,())),()))) (some (some (((s1.2.1.1,(s1.2.1.2.1,())),()),(s1.1.1,())))))))) (cond (ile 65 y1.1) (cond (ile y1.1 90) (rec1 (((iadd .i64 s1.1.1 1),()),((s1.2.1.1,(s1.2.1.2.1,())),()))) (cond (ile 48 y1.1) (cond (ile y1.1 57) (rec1 (((iadd .i64 s1.1.1 1),()),((s1.2.1.1,(s1.2.1.2.1,())),()))) (cond (ieq y1.1 46) (rec1 (((iadd .i64 s1.1.1 1),()),((s1.2.1.1,(s1.2.1.2.1,())),()))) (some (some (((s1.2.1.1,(s1.2.1.2.1,())),()),(s1.1.1,())))))) (cond (ieq y1.1 46) (rec1 (((iadd .i64 s1.1.1 1),()),((s1.2.1.1,(s1.2.1.2.1,())),()))) (some (some (((s1.2.1.1,(s1.2.1.2.1,())),()),(s1.1.1,()))))))) (cond (ile 48 y1.1) (cond (ile y1.1 57) (rec1 (((iadd .i64 s1.1.1 1),()),((s1.2.1.1,(s1.2.1.2.1,())),()))) (cond (ieq y1.1 46) (rec1 (((iadd .i64 s1.1.1 1),()),((s1.2.1.1,(s1.2.1.2.1,())),()))) (some (some (((s1.2.1.1,(s1.2.1.2.1,())),()),(s1.1.1,())))))) (cond (ieq y1.1 46) (rec1 (((iadd .i64 s1.1.1 1),()),((s1.2.1.1,(s1.2.1.2.1,())),()))) (some (some (((s1.2.1.1,(s1.2.1.2.1,())),()),(s1.1.1,())))))))))) ((1,()),((x.1.1,(x.1.2.1,())),())))) (Option.bind (c56 (0,()) x.1.1 x.1.2.1) fun y1=>cond (ine y1.1 46) (some (some (((x.1.1,(x.1.2.1,())),()),(0,())))) (Option.bind (c56 (1,()) x.1.1 x.1.2.1) fun y2=>cond (ile 48 y2.1) (cond (!(ile y2.1 57)) (some (some (((x.1.1,(x.1.2.1,())),()),(0,())))) (iter fu (fun (rec1:((Int×Unit)×((Str×(Int×Unit))×Unit))->Option (Option (((Str×(Int×Unit))×Unit)×(Int×Unit)))) (s1:((Int×Unit)×((Str×(Int×Unit))×Unit)))=>Option.bind (c56 (s1.1.1,()) s1.2.1.1 s1.2.1.2.1) fun y3=>Option.bind (c56 ((iadd .i64 s1.1.1 1),()) s1.2.1.1 s1.2.1.2.1) fun y4=>Option.bind (c44 ([101,69,112,80],(y3.1,()))) fun y5=>cond (ile 0 y5.1) (cond (ieq y4.1 43) (rec1 (((iadd .i64 s1.1.1 2),()),((s1.2.1.1,(s1.2.1.2.1,())),()))) (cond (ieq y4.1 45) (rec1 (((iadd .i64 s1.1.1 2),()),((s1.2.1.1,(s1.2.1.2.1,())),()))) (cond (ieq y3.1 95) (rec1 (((iadd .i64 s1.1.1 1),()),((s1.2.1.1,(s1.2.1.2.1,())),()))) (cond (ile 97 y3.1) (cond (ile y3.1 122) (rec1 (((iadd .i64 s1.1.1 1),()),((s1.2.1.1,(s1.2.1.2.1,())),()))) (cond (ile 65 y3.1) (cond (ile y3.1 90) (rec1 (((iadd .i64 s1.1.1 1),()),((s1.2.1.1,(s1.2.1.2.1,())),()))) (cond (ile 48 y3.1) (cond (ile y3.1 57) (rec1 (((iadd .i64 s1.1.1 1),()),((s1.2.1.1,(s1.2.1.2.1,())),()))) (cond (ieq y3.1 46) (rec1 (((iadd .i64 s1.1.1 1),()),((s1.2.1.1,(s1.2.1.2.1,())),()))) (some (some (((s1.2.1.1,(s1.2.1.2.1,())),()),(s1.1.1,())))))) (cond (ieq y3.1 46) (rec1 (((iadd .i64 s1.1.1 1),()),((s1.2.1.1,(s1.2.1.2.1,())),()))) (some (some (((s1.2.1.1,(s1.2.1.2.1,())),()),(s1.1.1,()))))))) (cond (ile 48 y3.1) (cond (ile y3.1 57) (rec1 (((iadd .i64 s1.1.1 1),()),((s1.2.1.1,(s1.2.1.2.1,())),()))) (cond (ieq y3.1 46) (rec1 (((iadd .i64 s1.1.1 1),()),((s1.2.1.1,(s1.2.1.2.1,())),()))) (some (some (((s1.2.1.1,(s1.2.1.2.1,())),()),(s1.1.1,())))))) (cond (ieq y3.1 46) (rec1 (((iadd .i64 s1.1.1 1),()),((s1.2.1.1,(s1.2.1.2.1,())),()))) (some (some (((s1.2.1.1,(s1.2.1.2.1,())),()),(s1.1.1,())))))))) (cond (ile 65 y3.1) (cond (ile y3.1 90) (rec1 (((iadd .i64 s1.1.1 1),()),((s1.2.1.1,(s1.2.1.2.1,())),()))) (cond (ile 48 y3.1) (cond (ile y3.1 57) (rec1 (((iadd .i64 s1.1.1 1),()),((s1.2.1.1,(s1.2.1.2.1,())),()))) (cond (ieq y3.1 46) (rec1 (((iadd .i64 s1.1.1 1),()),((s1.2.1.1,(s1.2.1.2.1,())),()))) (some (some (((s1.2.1.1,(s1.2.1.2.1,())),()),(s1.1.1,())))))) (cond (ieq y3.1 46) (rec1 (((iadd .i64 s1.1.1 1),()),((s1.2.1.1,(s1.2.1.2.1,())),()))) (some (some (((s1.2.1.1,(s1.2.1.2.1,())),()),(s1.1.1,()))))))) (cond (ile 48 y3.1) (cond (ile y3.1 57) (rec1 (((iadd .i64 s1.1.1 1),()),((s1.2.1.1,(s1.2.1.2.1,())),()))) (cond (ieq y3.1 46) (rec1 (((iadd .i64 s1.1.1 1),()),((s1.2.1.1,(s1.2.1.2.1,())),()))) (some (some (((s1.2.1.1,(s1.2.1.2.1,())),()),(s1.1.1,())))))) (cond (ieq y3.1 46) (rec1 (((iadd .i64 s1.1.1 1),()),((s1.2.1.1,(s1.2.1.2.1,())),()))) (some (some (((s1.2.1.1,(s1.2.1.2.1,())),()),(s1.1.1,()))))))))))) (cond (ieq y3.1 95) (rec1 (((iadd .i64 s1.1.1 1),()),((s1.2.1.1,(s1.2.1.2.1,())),()))) (cond (ile 97 y3.1) (cond (ile y3.1 122) (rec1 (((iadd .i64 s1.1.1 1),()),((s1.2.1.1,(s1.2.1.2.1,())),()))) (cond (ile 65 y3.1) (cond (ile y3.1 90) (rec1 (((iadd .i64 s1.1.1 1),()),((s1.2.1.1,(s1.2.1.2.1,())),()))) (cond (ile 48 y3.1) (cond (ile y3.1 57) (rec1 (((iadd .i64 s1.1.1 1),()),((s1.2.1.1,(s1.2.1.2.1,())),()))) (cond (ieq y3.1 46) (rec1 (((iadd .i64 s1.1.1 1),()),((s1.2.1.1,(s1.2.1.2.1,())),()))) (some (some (((s1.2.1.1,(s1.2.1.2.1,())),()),(s1.1.1,())))))) (cond (ieq y3.1 46) (rec1 (((iadd .i64 s1.1.1 1),()),((s1.2.1.1,(s1.2.1.2.1,())),()))) (some (some (((s1.2.1.1,(s1.2.1.2.1,())),()),(s1.1.1,()))))))) (cond (ile 48 y3.1) (cond (ile y3.1 57) (rec1 (((iadd .i64 s1.1.1 1),()),((s1.2.1.1,(s1.2.1.2.1,())),()))) (cond (ieq y3.1 46) (rec1 (((iadd .i64 s1.1.1 1),()),((s1.2.1.1,(s1.2.1.2.1,())),()))) (some (some (((s1.2.1.1,(s1.2.1.2.1,())),()),(s1.1.1,())))))) (cond (ieq y3.1 46) (rec1 (((iadd .i64 s1.1.1 1),()),((s1.2.1.1,(s1.2.1.2.1,())),()))) (some (some (((s1.2.1.1,(s1.2.1.2.1,())),()),(s1.1.1,())))))))) (cond (ile 65 y3.1) (cond (ile y3.1 90) (rec1 (((iadd .i64 s1.1.1 1),()),((s1.2.1.1,(s1.2.1.2.1,())),()))) (cond (ile 48 y3.1) (cond (ile y3.1 57) (rec1 (((iadd .i64 s1.1.1 1),()),((s1.2.1.1,(s1.2.1.2.1,())),()))) (cond (ieq y3.1 46) (rec1 (((iadd .i64 s1.1.1 1),()),((s1.2.1.1,(s1.2.1.2.1,())),()))) (some (some (((s1.2.1.1,(s1.2.1.2.1,())),()),(s1.1.1,())))))) (cond (ieq y3.1 46) (rec1 (((iadd .i64 s1.1.1 1),()),((s1.2.1.1,(s1.2.1.2.1,())),()))) (some (some (((s1.2.1.1,(s1.2.1.2.1,())),()),(s1.1.1,()))))))) (cond (ile 48 y3.1) (cond (ile y3.1 57) (rec1 (((iadd .i64 s1.1.1 1),()),((s1.2.1.1,(s1.2.1.2.1,())),()))) (cond (ieq y3.1 46) (rec1 (((iadd .i64 s1.1.1 1),()),((s1.2.1.1,(s1.2.1.2.1,())),()))) (some (some (((s1.2.1.1,(s1.2.1.2.1,())),()),(s1.1.1,())))))) (cond (ieq y3.1 46) (rec1 (((iadd .i64 s1.1.1 1),()),((s1.2.1.1,(s1.2.1.2.1,())),()))) (some (some (((s1.2.1.1,(s1.2.1.2.1,())),()),(s1.1.1,())))))))))) ((1,()),((x.1.1,(x.1.2.1,())),())))) (some (some (((x.1.1,(x.1.2.1,())),()),(0,()))))))
theorem eq60:@run60 = @sh60:=by kernel_rfl
def sh61 (fu:Nat) (c56:(Int×Unit)->Str->Int->(Option (Int×Unit))) (x:((Str×(Int×Unit))×Unit)) (a:(Int×Unit)):(Option (Option (((Str×(Int×Unit))×Unit)×(Int×Unit)))):=cond (ieq x.1.2.1 (lenI x.1.1)) (some (some (((x.1.1,(x.1.2.1,())),()),(0,())))) (Option.bind (c56 (0,()) x.1.1 x.1.2.1) fun y0=>cond (ine y0.1 a.1) (some (some (((x.1.1,(x.1.2.1,())),()),(0,())))) (iter fu (fun (rec1:((Int×Unit)×((Str×(Int×Unit))×Unit))->Option (Option (((Str×(Int×Unit))×Unit)×(Int×Unit)))) (s1:((Int×Unit)×((Str×(Int×Unit))×Unit)))=>cond (ilt (iadd .i64 s1.2.1.2.1 s1.1.1) (lenI s1.2.1.1)) (Option.bind (c56 (s1.1.1,()) s1.2.1.1 s1.2.1.2.1) fun y1=>cond (ieq y1.1 a.1) (cond (ieq a.1 39) (cond (ieq s1.1.1 1) (some (some (((s1.2.1.1,(s1.2.1.2.1,())),()),(0,())))) (some (some (((s1.2.1.1,(s1.2.1.2.1,())),()),((iadd .i64 s1.1.1 1),()))))) (some (some (((s1.2.1.1,(s1.2.1.2.1,())),()),((iadd .i64 s1.1.1 1),()))))) (cond (ieq y1.1 10) (some (some (((s1.2.1.1,(s1.2.1.2.1,())),()),(0,())))) (cond (ieq y1.1 92) (Option.bind (c56 ((iadd .i64 s1.1.1 1),()) s1.2.1.1 s1.2.1.2.1) fun y2=>cond (ieq y2.1 10) (cond (ilt (iadd .i64 s1.2.1.2.1 (iadd .i64 s1.1.1 1)) (lenI s1.2.1.1)) (some (some (((s1.2.1.1,(s1.2.1.2.1,())),()),(0,())))) (rec1 (((iadd .i64 (iadd .i64 s1.1.1 1) 1),()),((s1.2.1.1,(s1.2.1.2.1,())),())))) (rec1 (((iadd .i64 (iadd .i64 s1.1.1 1) 1),()),((s1.2.1.1,(s1.2.1.2.1,())),())))) (rec1 (((iadd .i64 s1.1.1 1),()),((s1.2.1.1,(s1.2.1.2.1,())),())))))) (some (some (((s1.2.1.1,(s1.2.1.2.1,())),()),(0,()))))) ((1,()),((x.1.1,(x.1.2.1,())),()))))
theorem eq61:@run61 = @sh61:=by kernel_rfl
def sh62 (fu:Nat) (c57:(Str×Unit)->Str->Int->(Option ((Bool×Unit)×Int))) (x:((Str×(Int×Unit))×Unit)) (a:Unit):(Option (Option (((Str×(Int×Unit))×Unit)×(Int×Unit)))):=iter fu (fun (rec1:((Int×(Int×Unit))×((Str×(Int×Unit))×Unit))->Option (Option (((Str×(Int×Unit))×Unit)×(Int×Unit)))) (s1:((Int×(Int×Unit))×((Str×(Int×Unit))×Unit)))=>cond (ilt s1.1.2.1 48) (cond (inB s1.1.2.1 48) (cond (ile (lenI (α:=UInt8) (List.getD [[46,46,46],[60,60,61],[62,62,61],[45,62],[43,43],[45,45],[60,60],[62,62],[60,61],[62,61],[61,61],[33,61],[38,38],[124,124],[42,61],[47,61],[37,61],[43,61],[45,61],[38,61],[94,61],[124,61],[35,35],[91],[93],[40],[41],[123],[125],[46],[38],[42],[43],[45],[126],[33],[47],[37],[60],[62],[94],[124],[63],[58],[59],[61],[44],[35]] (Int.toNat s1.1.2.1) [])) s1.1.1) (rec1 ((s1.1.1,((iadd .i64 s1.1.2.1 1),())),((s1.2.1.1,(s1.2.1.2.1,())),()))) (Option.bind (c57 ((List.getD [[46,46,46],[60,60,61],[62,62,61],[45,62],[43,43],[45,45],[60,60],[62,62],[60,61],[62,61],[61,61],[33,61],[38,38],[124,124],[42,61],[47,61],[37,61],[43,61],[45,61],[38,61],[94,61],[124,61],[35,35],[91],[93],[40],[41],[123],[125],[46],[38],[42],[43],[45],[126],[33],[47],[37],[60],[62],[94],[124],[63],[58],[59],[61],[44],[35]] (Int.toNat s1.1.2.1) []),()) s1.2.1.1 s1.2.1.2.1) fun y0=>cond (!y0.1.1) (rec1 ((s1.1.1,((iadd .i64 s1.1.2.1 1),())),((s1.2.1.1,(y0.2,())),()))) (rec1 (((lenI (α:=UInt8) (List.getD [[46,46,46],[60,60,61],[62,62,61],[45,62],[43,43],[45,45],[60,60],[62,62],[60,61],[62,61],[61,61],[33,61],[38,38],[124,124],[42,61],[47,61],[37,61],[43,61],[45,61],[38,61],[94,61],[124,61],[35,35],[91],[93],[40],[41],[123],[125],[46],[38],[42],[43],[45],[126],[33],[47],[37],[60],[62],[94],[124],[63],[58],[59],[61],[44],[35]] (Int.toNat s1.1.2.1) [])),((iadd .i64 s1.1.2.1 1),())),((s1.2.1.1,(y0.2,())),()))))) (none)) (some (some (((s1.2.1.1,(s1.2.1.2.1,())),()),(s1.1.1,()))))) ((0,(0,())),((x.1.1,(x.1.2.1,())),()))
theorem eq62:@run62 = @sh62:=by kernel_rfl
theorem con29 (fu:Nat) (c44:zI as44->Option (zI rs44)) (h44:ConOk CC Tryd.prog 44 ⟨as44,rs44,c44⟩) (c58:zI as58->Option (zI rs58)) (h58:ConOk CC Tryd.prog 58 ⟨as58,rs58,c58⟩) (c56:zC kI->Str->Int->Option (zC ([.int .u8]:LK))) (h56:CROk CC Tryd.prog 56 (cRD kI ([.int .u8]:LK) c56)) (c57:zC kS->DD (zC kB)) (h57:CQ 57 (cD kS kB c57)):CQ 29 (cD k0 kB (mD (sh29 fu c44 c58 c56 c57))):=
 zCW (xC (syn:=syn) (fu:=fu) (d:=2) (inl:=zA []) (orc:=zA [(44,(⟨as44,rs44,c44⟩:Con UU)),(58,(⟨as58,rs58,c58⟩:Con UU))]) (orr:=zA [(56,cRD kI ([.int .u8]:LK) c56)]) (orp:=zA [(57,cD kS kB c57)]) (pf:=hasN [44,58]) (rf:=hasN [56]) zV CCok mixed (fun g=>(zG (α:=Con UU) (l:=[(44,(⟨as44,rs44,c44⟩:Con UU)),(58,(⟨as58,rs58,c58⟩:Con UU))]) g).symm) (fun g=>(zG (α:=CR UU) (l:=[(56,cRD kI ([.int .u8]:LK) c56)]) g).symm) (zB) (zH (OrcOk.of ⟨zI0,h44⟩ rfl) (zH (OrcOk.of ⟨code58,h58⟩ rfl) (zB))) (zH ⟨zGC,h56⟩ (zB)) (zH ⟨zJn,h57⟩ (zB)) fdok29 (by show ([rdK]:LK).length+(k0:LK).length<=77; decide) (fun x a=>by show run29 fu c44 c58 c56 c57 x a=sh29 fu c44 c58 c56 c57 x a; rw [eq29]))
theorem con30 (fu:Nat) (c57:zC kS->DD (zC kB)) (h57:CQ 57 (cD kS kB c57)) (c59:zC k0->DD (zC kI)) (h59:CQ 59 (cD k0 kI c59)) (c60:zC k0->DD (zC kI)) (h60:CQ 60 (cD k0 kI c60)) (c61:zC ([.int .u8]:LK)->DD (zC kI)) (h61:CQ 61 (cD ([.int .u8]:LK) kI c61)) (c62:zC k0->DD (zC kI)) (h62:CQ 62 (cD k0 kI c62)):CQ 30 (cD k0 ([.int .i64,.int .i64]:LK) (mD (sh30 fu c57 c59 c60 c61 c62))):=
 zCW (xC (syn:=syn) (fu:=fu) (d:=2) (inl:=zA []) (orc:=zA []) (orr:=zA []) (orp:=zA [(57,cD kS kB c57),(59,cD k0 kI c59),(60,cD k0 kI c60),(61,cD ([.int .u8]:LK) kI c61),(62,cD k0 kI c62)]) (pf:=hasN []) (rf:=hasN []) zV CCok mixed (fun g=>(zG (α:=Con UU) (l:=[]) g).symm) (fun g=>(zG (α:=CR UU) (l:=[]) g).symm) (zB) (zB) (zB) (zH ⟨zJn,h57⟩ (zH ⟨code59,h59⟩ (zH ⟨code60,h60⟩ (zH ⟨code61,h61⟩ (zH ⟨code62,h62⟩ (zB)))))) fdok30 (by show ([rdK]:LK).length+(k0:LK).length<=36; decide) (fun x a=>by show run30 fu c57 c59 c60 c61 c62 x a=sh30 fu c57 c59 c60 c61 c62 x a; rw [eq30]))
theorem con57 (fu:Nat) :CQ 57 (cD kS kB (mD (sh57 fu))):=
 zCW (xC (syn:=syn) (fu:=fu) (d:=4) (inl:=zA [(38,fd38),(70,fd70)]) (orc:=zA []) (orr:=zA []) (orp:=zA []) (pf:=hasN []) (rf:=hasN []) zV CCok mixed (fun g=>(zG (α:=Con UU) (l:=[]) g).symm) (fun g=>(zG (α:=CR UU) (l:=[]) g).symm) (zH zNT (zH zMm (zB))) (zB) (zB) (zB) fdok57 (by show ([rdK]:LK).length+(kS:LK).length<=16; decide) (fun x a=>by show run57 fu x a=sh57 fu x a; rw [eq57]))
theorem con59 (fu:Nat) (c56:zC kI->Str->Int->Option (zC ([.int .u8]:LK))) (h56:CROk CC Tryd.prog 56 (cRD kI ([.int .u8]:LK) c56)):CQ 59 (cD k0 kI (mD (sh59 fu c56))):=
 zCW (xC (syn:=syn) (fu:=fu) (d:=4) (inl:=zA [(77,fd77),(78,fd78)]) (orc:=zA []) (orr:=zA [(56,cRD kI ([.int .u8]:LK) c56)]) (orp:=zA []) (pf:=hasN []) (rf:=hasN [56]) zV CCok mixed (fun g=>(zG (α:=Con UU) (l:=[]) g).symm) (fun g=>(zG (α:=CR UU) (l:=[(56,cRD kI ([.int .u8]:LK) c56)]) g).symm) (zH zNs (zH zNO (zB))) (zB) (zH ⟨zGC,h56⟩ (zB)) (zB) fdok59 (by show ([rdK]:LK).length+(k0:LK).length<=21; decide) (fun x a=>by show run59 fu c56 x a=sh59 fu c56 x a; rw [eq59]))
theorem con60 (fu:Nat) (c44:zI as44->Option (zI rs44)) (h44:ConOk CC Tryd.prog 44 ⟨as44,rs44,c44⟩) (c56:zC kI->Str->Int->Option (zC ([.int .u8]:LK))) (h56:CROk CC Tryd.prog 56 (cRD kI ([.int .u8]:LK) c56)):CQ 60 (cD k0 kI (mD (sh60 fu c44 c56))):=
 zCW (xC (syn:=syn) (fu:=fu) (d:=4) (inl:=zA [(77,fd77),(78,fd78)]) (orc:=zA [(44,(⟨as44,rs44,c44⟩:Con UU))]) (orr:=zA [(56,cRD kI ([.int .u8]:LK) c56)]) (orp:=zA []) (pf:=hasN [44]) (rf:=hasN [56]) zV CCok mixed (fun g=>(zG (α:=Con UU) (l:=[(44,(⟨as44,rs44,c44⟩:Con UU))]) g).symm) (fun g=>(zG (α:=CR UU) (l:=[(56,cRD kI ([.int .u8]:LK) c56)]) g).symm) (zH zMq (zH zNC (zB))) (zH (OrcOk.of ⟨zI0,h44⟩ rfl) (zB)) (zH ⟨zGC,h56⟩ (zB)) (zB) fdok60 (by show ([rdK]:LK).length+(k0:LK).length<=56; decide) (fun x a=>by show run60 fu c44 c56 x a=sh60 fu c44 c56 x a; rw [eq60]))
theorem con61 (fu:Nat) (c56:zC kI->Str->Int->Option (zC ([.int .u8]:LK))) (h56:CROk CC Tryd.prog 56 (cRD kI ([.int .u8]:LK) c56)):CQ 61 (cD ([.int .u8]:LK) kI (mD (sh61 fu c56))):=
 zCW (xC (syn:=syn) (fu:=fu) (d:=2) (inl:=zA []) (orc:=zA []) (orr:=zA [(56,cRD kI ([.int .u8]:LK) c56)]) (orp:=zA []) (pf:=hasN []) (rf:=hasN [56]) zV CCok mixed (fun g=>(zG (α:=Con UU) (l:=[]) g).symm) (fun g=>(zG (α:=CR UU) (l:=[(56,cRD kI ([.int .u8]:LK) c56)]) g).symm) (zB) (zB) (zH ⟨zGC,h56⟩ (zB)) (zB) fdok61 (by show ([rdK]:LK).length+(([.int .u8]:LK):LK).length<=74; decide) (fun x a=>by show run61 fu c56 x a=sh61 fu c56 x a; rw [eq61]))
theorem con62 (fu:Nat) (c57:zC kS->DD (zC kB)) (h57:CQ 57 (cD kS kB c57)):CQ 62 (cD k0 kI (mD (sh62 fu c57))):=
 zCW (xC (syn:=syn) (fu:=fu) (d:=2) (inl:=zA []) (orc:=zA []) (orr:=zA []) (orp:=zA [(57,cD kS kB c57)]) (pf:=hasN []) (rf:=hasN []) zV CCok mixed (fun g=>(zG (α:=Con UU) (l:=[]) g).symm) (fun g=>(zG (α:=CR UU) (l:=[]) g).symm) (zB) (zB) (zB) (zH ⟨zJn,h57⟩ (zB)) fdok62 (by show ([rdK]:LK).length+(k0:LK).length<=24; decide) (fun x a=>by show run62 fu c57 x a=sh62 fu c57 x a; rw [eq62]))
end
section
open Go.Al Go.Den
def sh42 (fu:Nat) (nf:Nat->Bool) (x0:Int):(Option (Int×Unit)):=cond (ile 48 x0) (cond (ile x0 57) (some ((zR .i64 (isub .u8 x0 48)),())) (cond (ile 97 x0) (cond (ile x0 102) (some ((zR .i64 (iadd .u8 (isub .u8 x0 97) 10)),())) (cond (ile 65 x0) (cond (ile x0 70) (some ((zR .i64 (iadd .u8 (isub .u8 x0 65) 10)),())) (some (99,()))) (some (99,())))) (cond (ile 65 x0) (cond (ile x0 70) (some ((zR .i64 (iadd .u8 (isub .u8 x0 65) 10)),())) (some (99,()))) (some (99,()))))) (cond (ile 97 x0) (cond (ile x0 102) (some ((zR .i64 (iadd .u8 (isub .u8 x0 97) 10)),())) (cond (ile 65 x0) (cond (ile x0 70) (some ((zR .i64 (iadd .u8 (isub .u8 x0 65) 10)),())) (some (99,()))) (some (99,())))) (cond (ile 65 x0) (cond (ile x0 70) (some ((zR .i64 (iadd .u8 (isub .u8 x0 65) 10)),())) (some (99,()))) (some (99,()))))
theorem eq42:@run42 = @sh42:=by kernel_rfl
def sh43 (fu:Nat) (nf:Nat->Bool) (x0:Str):(Option (Bool×Unit)):=cond (seq x0 []) (some (true,())) (cond (seq x0 [117]) (some (true,())) (cond (seq x0 [85]) (some (true,())) (cond (seq x0 [108]) (some (true,())) (cond (seq x0 [76]) (some (true,())) (cond (seq x0 [108,108]) (some (true,())) (cond (seq x0 [76,76]) (some (true,())) (cond (seq x0 [117,108]) (some (true,())) (cond (seq x0 [117,76]) (some (true,())) (cond (seq x0 [117,108,108]) (some (true,())) (cond (seq x0 [117,76,76]) (some (true,())) (cond (seq x0 [85,108]) (some (true,())) (cond (seq x0 [85,76]) (some (true,())) (cond (seq x0 [85,108,108]) (some (true,())) (cond (seq x0 [85,76,76]) (some (true,())) (cond (seq x0 [108,117]) (some (true,())) (cond (seq x0 [108,85]) (some (true,())) (cond (seq x0 [76,117]) (some (true,())) (cond (seq x0 [76,85]) (some (true,())) (cond (seq x0 [108,108,117]) (some (true,())) (cond (seq x0 [108,108,85]) (some (true,())) (cond (seq x0 [76,76,117]) (some (true,())) (cond (seq x0 [76,76,85]) (some (true,())) (some (false,()))))))))))))))))))))))))
theorem eq43:@run43 = @sh43:=by kernel_rfl
def sh14 (fu:Nat) (c42:(Int×Unit)->(Option (Int×Unit))) (c43:(Str×Unit)->(Option (Bool×Unit))) (nf:Nat->Bool) (x0:Str):(Option (Int×(Int×Unit))):=cond (ile 2 (lenI x0)) (cond (inB 0 (List.length x0)) (cond (ieq (zD x0 0) 48) (cond (inB 1 (List.length x0)) (cond (ieq (zD x0 1) 120) (iter fu (fun (rec1:((Int×(Int×Unit))×Unit)->Option (Int×(Int×Unit))) (s1:((Int×(Int×Unit))×Unit))=>cond (ilt s1.1.1 (lenI x0)) (cond (inB s1.1.1 (List.length x0)) (Option.bind (c42 ((zD x0 s1.1.1),())) fun y0=>cond (ile 16 y0.1) (cond (ieq s1.1.1 2) (some (0,(91,()))) (cond (inS s1.1.1 (lenI x0) (List.length x0)) (Option.bind (c43 ((cutL x0 s1.1.1 (lenI x0)),())) fun y1=>cond (!y1.1) (some (0,(91,()))) (some (s1.1.2.1,(0,())))) (none))) (cond (ine 16 0) (cond (ilt (iquo .i64 (isub .i64 9223372036854775807 y0.1) 16) s1.1.2.1) (some (0,(91,()))) (rec1 (((iadd .i64 s1.1.1 1),((iadd .i64 (imul .i64 s1.1.2.1 16) y0.1),())),()))) (none))) (none)) (cond (ieq s1.1.1 2) (some (0,(91,()))) (cond (inS s1.1.1 (lenI x0) (List.length x0)) (Option.bind (c43 ((cutL x0 s1.1.1 (lenI x0)),())) fun y0=>cond (!y0.1) (some (0,(91,()))) (some (s1.1.2.1,(0,())))) (none)))) ((2,(0,())),())) (cond (inB 1 (List.length x0)) (cond (ieq (zD x0 1) 88) (iter fu (fun (rec1:((Int×(Int×Unit))×Unit)->Option (Int×(Int×Unit))) (s1:((Int×(Int×Unit))×Unit))=>cond (ilt s1.1.1 (lenI x0)) (cond (inB s1.1.1 (List.length x0)) (Option.bind (c42 ((zD x0 s1.1.1),())) fun y0=>cond (ile 16 y0.1) (cond (ieq s1.1.1 2) (some (0,(91,()))) (cond (inS s1.1.1 (lenI x0) (List.length x0)) (Option.bind (c43 ((cutL x0 s1.1.1 (lenI x0)),())) fun y1=>cond (!y1.1) (some (0,(91,()))) (some (s1.1.2.1,(0,())))) (none))) (cond (ine 16 0) (cond (ilt (iquo .i64 (isub .i64 9223372036854775807 y0.1) 16) s1.1.2.1) (some (0,(91,()))) (rec1 (((iadd .i64 s1.1.1 1),((iadd .i64 (imul .i64 s1.1.2.1 16) y0.1),())),()))) (none))) (none)) (cond (ieq s1.1.1 2) (some (0,(91,()))) (cond (inS s1.1.1 (lenI x0) (List.length x0)) (Option.bind (c43 ((cutL x0 s1.1.1 (lenI x0)),())) fun y0=>cond (!y0.1) (some (0,(91,()))) (some (s1.1.2.1,(0,())))) (none)))) ((2,(0,())),())) (cond (ile 1 (lenI x0)) (cond (inB 0 (List.length x0)) (cond (ieq (zD x0 0) 48) (iter fu (fun (rec1:((Int×(Int×Unit))×Unit)->Option (Int×(Int×Unit))) (s1:((Int×(Int×Unit))×Unit))=>cond (ilt s1.1.1 (lenI x0)) (cond (inB s1.1.1 (List.length x0)) (Option.bind (c42 ((zD x0 s1.1.1),())) fun y0=>cond (ile 8 y0.1) (cond (ieq s1.1.1 0) (some (0,(91,()))) (cond (inS s1.1.1 (lenI x0) (List.length x0)) (Option.bind (c43 ((cutL x0 s1.1.1 (lenI x0)),())) fun y1=>cond (!y1.1) (some (0,(91,()))) (some (s1.1.2.1,(0,())))) (none))) (cond (ine 8 0) (cond (ilt (iquo .i64 (isub .i64 9223372036854775807 y0.1) 8) s1.1.2.1) (some (0,(91,()))) (rec1 (((iadd .i64 s1.1.1 1),((iadd .i64 (imul .i64 s1.1.2.1 8) y0.1),())),()))) (none))) (none)) (cond (ieq s1.1.1 0) (some (0,(91,()))) (cond (inS s1.1.1 (lenI x0) (List.length x0)) (Option.bind (c43 ((cutL x0 s1.1.1 (lenI x0)),())) fun y0=>cond (!y0.1) (some (0,(91,()))) (some (s1.1.2.1,(0,())))) (none)))) ((0,(0,())),())) (iter fu (fun (rec1:((Int×(Int×Unit))×Unit)->Option (Int×(Int×Unit))) (s1:((Int×(Int×Unit))×Unit))=>cond (ilt s1.1.1 (lenI x0)) (cond (inB s1.1.1 (List.length x0)) (Option.bind (c42 ((zD x0 s1.1.1),())) fun y0=>cond (ile 10 y0.1) (cond (ieq s1.1.1 0) (some (0,(91,()))) (cond (inS s1.1.1 (lenI x0) (List.length x0)) (Option.bind (c43 ((cutL x0 s1.1.1 (lenI x0)),())) fun y1=>cond (!y1.1) (some (0,(91,()))) (some (s1.1.2.1,(0,())))) (none))) (cond (ine 10 0) (cond (ilt (iquo .i64 (isub .i64 9223372036854775807 y0.1) 10) s1.1.2.1) (some (0,(91,()))) (rec1 (((iadd .i64 s1.1.1 1),((iadd .i64 (imul .i64 s1.1.2.1 10) y0.1),())),()))) (none))) (none)) (cond (ieq s1.1.1 0) (some (0,(91,()))) (cond (inS s1.1.1 (lenI x0) (List.length x0)) (Option.bind (c43 ((cutL x0 s1.1.1 (lenI x0)),())) fun y0=>cond (!y0.1) (some (0,(91,()))) (some (s1.1.2.1,(0,())))) (none)))) ((0,(0,())),()))) (none)) (iter fu (fun (rec1:((Int×(Int×Unit))×Unit)->Option (Int×(Int×Unit))) (s1:((Int×(Int×Unit))×Unit))=>cond (ilt s1.1.1 (lenI x0)) (cond (inB s1.1.1 (List.length x0)) (Option.bind (c42 ((zD x0 s1.1.1),())) fun y0=>cond (ile 10 y0.1) (cond (ieq s1.1.1 0) (some (0,(91,()))) (cond (inS s1.1.1 (lenI x0) (List.length x0)) (Option.bind (c43 ((cutL x0 s1.1.1 (lenI x0)),())) fun y1=>cond (!y1.1) (some (0,(91,()))) (some (s1.1.2.1,(0,())))) (none))) (cond (ine 10 0) (cond (ilt (iquo .i64 (isub .i64 9223372036854775807 y0.1) 10) s1.1.2.1) (some (0,(91,()))) (rec1 (((iadd .i64 s1.1.1 1),((iadd .i64 (imul .i64 s1.1.2.1 10) y0.1),())),()))) (none))) (none)) (cond (ieq s1.1.1 0) (some (0,(91,()))) (cond (inS s1.1.1 (lenI x0) (List.length x0)) (Option.bind (c43 ((cutL x0 s1.1.1 (lenI x0)),())) fun y0=>cond (!y0.1) (some (0,(91,()))) (some (s1.1.2.1,(0,())))) (none)))) ((0,(0,())),())))) (none))) (none)) (cond (ile 1 (lenI x0)) (cond (inB 0 (List.length x0)) (cond (ieq (zD x0 0) 48) (iter fu (fun (rec1:((Int×(Int×Unit))×Unit)->Option (Int×(Int×Unit))) (s1:((Int×(Int×Unit))×Unit))=>cond (ilt s1.1.1 (lenI x0)) (cond (inB s1.1.1 (List.length x0)) (Option.bind (c42 ((zD x0 s1.1.1),())) fun y0=>cond (ile 8 y0.1) (cond (ieq s1.1.1 0) (some (0,(91,()))) (cond (inS s1.1.1 (lenI x0) (List.length x0)) (Option.bind (c43 ((cutL x0 s1.1.1 (lenI x0)),())) fun y1=>cond (!y1.1) (some (0,(91,()))) (some (s1.1.2.1,(0,())))) (none))) (cond (ine 8 0) (cond (ilt (iquo .i64 (isub .i64 9223372036854775807 y0.1) 8) s1.1.2.1) (some (0,(91,()))) (rec1 (((iadd .i64 s1.1.1 1),((iadd .i64 (imul .i64 s1.1.2.1 8) y0.1),())),()))) (none))) (none)) (cond (ieq s1.1.1 0) (some (0,(91,()))) (cond (inS s1.1.1 (lenI x0) (List.length x0)) (Option.bind (c43 ((cutL x0 s1.1.1 (lenI x0)),())) fun y0=>cond (!y0.1) (some (0,(91,()))) (some (s1.1.2.1,(0,())))) (none)))) ((0,(0,())),())) (iter fu (fun (rec1:((Int×(Int×Unit))×Unit)->Option (Int×(Int×Unit))) (s1:((Int×(Int×Unit))×Unit))=>cond (ilt s1.1.1 (lenI x0)) (cond (inB s1.1.1 (List.length x0)) (Option.bind (c42 ((zD x0 s1.1.1),())) fun y0=>cond (ile 10 y0.1) (cond (ieq s1.1.1 0) (some (0,(91,()))) (cond (inS s1.1.1 (lenI x0) (List.length x0)) (Option.bind (c43 ((cutL x0 s1.1.1 (lenI x0)),())) fun y1=>cond (!y1.1) (some (0,(91,()))) (some (s1.1.2.1,(0,())))) (none))) (cond (ine 10 0) (cond (ilt (iquo .i64 (isub .i64 9223372036854775807 y0.1) 10) s1.1.2.1) (some (0,(91,()))) (rec1 (((iadd .i64 s1.1.1 1),((iadd .i64 (imul .i64 s1.1.2.1 10) y0.1),())),()))) (none))) (none)) (cond (ieq s1.1.1 0) (some (0,(91,()))) (cond (inS s1.1.1 (lenI x0) (List.length x0)) (Option.bind (c43 ((cutL x0 s1.1.1 (lenI x0)),())) fun y0=>cond (!y0.1) (some (0,(91,()))) (some (s1.1.2.1,(0,())))) (none)))) ((0,(0,())),()))) (none)) (iter fu (fun (rec1:((Int×(Int×Unit))×Unit)->Option (Int×(Int×Unit))) (s1:((Int×(Int×Unit))×Unit))=>cond (ilt s1.1.1 (lenI x0)) (cond (inB s1.1.1 (List.length x0)) (Option.bind (c42 ((zD x0 s1.1.1),())) fun y0=>cond (ile 10 y0.1) (cond (ieq s1.1.1 0) (some (0,(91,()))) (cond (inS s1.1.1 (lenI x0) (List.length x0)) (Option.bind (c43 ((cutL x0 s1.1.1 (lenI x0)),())) fun y1=>cond (!y1.1) (some (0,(91,()))) (some (s1.1.2.1,(0,())))) (none))) (cond (ine 10 0) (cond (ilt (iquo .i64 (isub .i64 9223372036854775807 y0.1) 10) s1.1.2.1) (some (0,(91,()))) (rec1 (((iadd .i64 s1.1.1 1),((iadd .i64 (imul .i64 s1.1.2.1 10) y0.1),())),()))) (none))) (none)) (cond (ieq s1.1.1 0) (some (0,(91,()))) (cond (inS s1.1.1 (lenI x0) (List.length x0)) (Option.bind (c43 ((cutL x0 s1.1.1 (lenI x0)),())) fun y0=>cond (!y0.1) (some (0,(91,()))) (some (s1.1.2.1,(0,())))) (none)))) ((0,(0,())),())))) (none)) (cond (ile 1 (lenI x0)) (cond (inB 0 (List.length x0)) (cond (ieq (zD x0 0) 48) (iter fu (fun (rec1:((Int×(Int×Unit))×Unit)->Option (Int×(Int×Unit))) (s1:((Int×(Int×Unit))×Unit))=>cond (ilt s1.1.1 (lenI x0)) (cond (inB s1.1.1 (List.length x0)) (Option.bind (c42 ((zD x0 s1.1.1),())) fun y0=>cond (ile 8 y0.1) (cond (ieq s1.1.1 0) (some (0,(91,()))) (cond (inS s1.1.1 (lenI x0) (List.length x0)) (Option.bind (c43 ((cutL x0 s1.1.1 (lenI x0)),())) fun y1=>cond (!y1.1) (some (0,(91,()))) (some (s1.1.2.1,(0,())))) (none))) (cond (ine 8 0) (cond (ilt (iquo .i64 (isub .i64 9223372036854775807 y0.1) 8) s1.1.2.1) (some (0,(91,()))) (rec1 (((iadd .i64 s1.1.1 1),((iadd .i64 (imul .i64 s1.1.2.1 8) y0.1),())),()))) (none))) (none)) (cond (ieq s1.1.1 0) (some (0,(91,()))) (cond (inS s1.1.1 (lenI x0) (List.length x0)) (Option.bind (c43 ((cutL x0 s1.1.1 (lenI x0)),())) fun y0=>cond (!y0.1) (some (0,(91,()))) (some (s1.1.2.1,(0,())))) (none)))) ((0,(0,())),())) (iter fu (fun (rec1:((Int×(Int×Unit))×Unit)->Option (Int×(Int×Unit))) (s1:((Int×(Int×Unit))×Unit))=>cond (ilt s1.1.1 (lenI x0)) (cond (inB s1.1.1 (List.length x0)) (Option.bind (c42 ((zD x0 s1.1.1),())) fun y0=>cond (ile 10 y0.1) (cond (ieq s1.1.1 0) (some (0,(91,()))) (cond (inS s1.1.1 (lenI x0) (List.length x0)) (Option.bind (c43 ((cutL x0 s1.1.1 (lenI x0)),())) fun y1=>cond (!y1.1) (some (0,(91,()))) (some (s1.1.2.1,(0,())))) (none))) (cond (ine 10 0) (cond (ilt (iquo .i64 (isub .i64 9223372036854775807 y0.1) 10) s1.1.2.1) (some (0,(91,()))) (rec1 (((iadd .i64 s1.1.1 1),((iadd .i64 (imul .i64 s1.1.2.1 10) y0.1),())),()))) (none))) (none)) (cond (ieq s1.1.1 0) (some (0,(91,()))) (cond (inS s1.1.1 (lenI x0) (List.length x0)) (Option.bind (c43 ((cutL x0 s1.1.1 (lenI x0)),())) fun y0=>cond (!y0.1) (some (0,(91,()))) (some (s1.1.2.1,(0,())))) (none)))) ((0,(0,())),()))) (none)) (iter fu (fun (rec1:((Int×(Int×Unit))×Unit)->Option (Int×(Int×Unit))) (s1:((Int×(Int×Unit))×Unit))=>cond (ilt s1.1.1 (lenI x0)) (cond (inB s1.1.1 (List.length x0)) (Option.bind (c42 ((zD x0 s1.1.1),())) fun y0=>cond (ile 10 y0.1) (cond (ieq s1.1.1 0) (some (0,(91,()))) (cond (inS s1.1.1 (lenI x0) (List.length x0)) (Option.bind (c43 ((cutL x0 s1.1.1 (lenI x0)),())) fun y1=>cond (!y1.1) (some (0,(91,()))) (some (s1.1.2.1,(0,())))) (none))) (cond (ine 10 0) (cond (ilt (iquo .i64 (isub .i64 9223372036854775807 y0.1) 10) s1.1.2.1) (some (0,(91,()))) (rec1 (((iadd .i64 s1.1.1 1),((iadd .i64 (imul .i64 s1.1.2.1 10) y0.1),())),()))) (none))) (none)) (cond (ieq s1.1.1 0) (some (0,(91,()))) (cond (inS s1.1.1 (lenI x0) (List.length x0)) (Option.bind (c43 ((cutL x0 s1.1.1 (lenI x0)),())) fun y0=>cond (!y0.1) (some (0,(91,()))) (some (s1.1.2.1,(0,())))) (none)))) ((0,(0,())),())))
theorem eq14:@run14 = @sh14:=by kernel_rfl
def sh16 (fu:Nat) (nf:Nat->Bool) (x0:Str):(Option (Int×(Int×Unit))):=cond (ilt (lenI x0) 3) (some (0,(91,()))) (cond (ilt 4 (lenI x0)) (some (0,(91,()))) (cond (inB 0 (List.length x0)) (cond (ine (zD x0 0) 39) (some (0,(91,()))) (cond (inB (isub .i64 (lenI x0) 1) (List.length x0)) (cond (ine (zD x0 (isub .i64 (lenI x0) 1)) 39) (some (0,(91,()))) (cond (ieq (lenI x0) 3) (cond (inB 1 (List.length x0)) (cond (ine (zD x0 1) 92) (cond (inB 1 (List.length x0)) (some ((zR .i64 (zD x0 1)),(0,()))) (none)) (cond (ieq (lenI x0) 3) (some (0,(91,()))) (cond (inB 1 (List.length x0)) (cond (ine (zD x0 1) 92) (some (0,(91,()))) (cond (inB 2 (List.length x0)) (cond (ieq (zD x0 2) 110) (some (10,(0,()))) (cond (ieq (zD x0 2) 116) (some (9,(0,()))) (cond (ieq (zD x0 2) 114) (some (13,(0,()))) (cond (ieq (zD x0 2) 48) (some (0,(0,()))) (cond (ieq (zD x0 2) 97) (some (7,(0,()))) (cond (ieq (zD x0 2) 98) (some (8,(0,()))) (cond (ieq (zD x0 2) 102) (some (12,(0,()))) (cond (ieq (zD x0 2) 118) (some (11,(0,()))) (cond (ieq (zD x0 2) 92) (cond (inB 2 (List.length x0)) (some ((zR .i64 (zD x0 2)),(0,()))) (none)) (cond (ieq (zD x0 2) 39) (cond (inB 2 (List.length x0)) (some ((zR .i64 (zD x0 2)),(0,()))) (none)) (cond (ieq (zD x0 2) 34) (cond (inB 2 (List.length x0)) (some ((zR .i64 (zD x0 2)),(0,()))) (none)) (cond (ieq (zD x0 2) 63) (cond (inB 2 (List.length x0)) (some ((zR .i64 (zD x0 2)),(0,()))) (none)) (some (0,(91,()))))))))))))))) (none))) (none)))) (none)) (cond (ieq (lenI x0) 3) (some (0,(91,()))) (cond (inB 1 (List.length x0)) (cond (ine (zD x0 1) 92) (some (0,(91,()))) (cond (inB 2 (List.length x0)) (cond (ieq (zD x0 2) 110) (some (10,(0,()))) (cond (ieq (zD x0 2) 116) (some (9,(0,()))) (cond (ieq (zD x0 2) 114) (some (13,(0,()))) (cond (ieq (zD x0 2) 48) (some (0,(0,()))) (cond (ieq (zD x0 2) 97) (some (7,(0,()))) (cond (ieq (zD x0 2) 98) (some (8,(0,()))) (cond (ieq (zD x0 2) 102) (some (12,(0,()))) (cond (ieq (zD x0 2) 118) (some (11,(0,()))) (cond (ieq (zD x0 2) 92) (cond (inB 2 (List.length x0)) (some ((zR .i64 (zD x0 2)),(0,()))) (none)) (cond (ieq (zD x0 2) 39) (cond (inB 2 (List.length x0)) (some ((zR .i64 (zD x0 2)),(0,()))) (none)) (cond (ieq (zD x0 2) 34) (cond (inB 2 (List.length x0)) (some ((zR .i64 (zD x0 2)),(0,()))) (none)) (cond (ieq (zD x0 2) 63) (cond (inB 2 (List.length x0)) (some ((zR .i64 (zD x0 2)),(0,()))) (none)) (some (0,(91,()))))))))))))))) (none))) (none))))) (none))) (none)))
theorem eq16:@run16 = @sh16:=by kernel_rfl
def sh45 (fu:Nat) (nf:Nat->Bool) (x0:Bool):(Option (Int×Unit)):=cond x0 (some (1,())) (some (0,()))
theorem eq45:@run45 = @sh45:=by kernel_rfl
def sh8 (fu:Nat) (c18:(Str×Unit)->(Option (Int×Unit))) (nf:Nat->Bool):(Option (Bool×Unit)):=Option.bind (c18 ([49,32,43,32,50,32,42,32,51],())) fun y0=>cond (ieq y0.1 7) (Option.bind (c18 ([40,49,32,43,32,50,41,32,42,32,51],())) fun y1=>cond (ieq y1.1 9) (Option.bind (c18 ([45,55,32,47,32,50],())) fun y2=>cond (ieq y2.1 (Neg.neg 3)) (Option.bind (c18 ([45,55,32,37,32,50],())) fun y3=>Option.bind (c18 ([49,32,124,124,32,49,32,47,32,48],())) fun y4=>cond (ieq y4.1 1) (Option.bind (c18 ([49,32,47,32,48],())) fun y5=>cond (ieq y5.1 (Neg.neg 1092)) (Option.bind (c18 ([48,32,63,32,49,47,48,32,58,32,53],())) fun y6=>cond (ieq y6.1 5) (Option.bind (c18 ([88,32,61,61,32,48,32,38,38,32,39,97,39,32,61,61,32,57,55],())) fun y7=>Option.bind (c18 ([48,120,49,48,117],())) fun y8=>cond (ieq y8.1 16) (Option.bind (c18 ([48,56],())) fun y9=>cond (ieq y9.1 (Neg.neg 1091)) (Option.bind (c18 ([49,32,60,60,32,54,52],())) fun y10=>cond (ieq y10.1 (Neg.neg 1093)) (Option.bind (c18 ([49,32,43],())) fun y11=>cond (ieq y11.1 (Neg.neg 1090)) (Option.bind (c18 ([],())) fun y12=>cond (ieq y12.1 (Neg.neg 1090)) (Option.bind (c18 ([49,32,63,32,50,32,58,32,48,32,63,32,51,32,58,32,52],())) fun y13=>cond (ieq y3.1 (Neg.neg 1)) (cond (ieq y7.1 1) (some ((ieq y13.1 2),())) (some (false,()))) (some (false,()))) (cond (ieq y3.1 (Neg.neg 1)) (cond (ieq y7.1 1) (some (false,())) (some (false,()))) (some (false,())))) (cond (ieq y3.1 (Neg.neg 1)) (cond (ieq y7.1 1) (some (false,())) (some (false,()))) (some (false,())))) (cond (ieq y3.1 (Neg.neg 1)) (cond (ieq y7.1 1) (some (false,())) (some (false,()))) (some (false,())))) (cond (ieq y3.1 (Neg.neg 1)) (cond (ieq y7.1 1) (some (false,())) (some (false,()))) (some (false,())))) (cond (ieq y3.1 (Neg.neg 1)) (cond (ieq y7.1 1) (some (false,())) (some (false,()))) (some (false,())))) (Option.bind (c18 ([48,120,49,48,117],())) fun y7=>cond (ieq y7.1 16) (Option.bind (c18 ([48,56],())) fun y8=>cond (ieq y8.1 (Neg.neg 1091)) (Option.bind (c18 ([49,32,60,60,32,54,52],())) fun y9=>cond (ieq y9.1 (Neg.neg 1093)) (Option.bind (c18 ([49,32,43],())) fun y10=>cond (ieq y10.1 (Neg.neg 1090)) (Option.bind (c18 ([],())) fun y11=>cond (ieq y11.1 (Neg.neg 1090)) (Option.bind (c18 ([49,32,63,32,50,32,58,32,48,32,63,32,51,32,58,32,52],())) fun y12=>cond (ieq y3.1 (Neg.neg 1)) (some (false,())) (some (false,()))) (cond (ieq y3.1 (Neg.neg 1)) (some (false,())) (some (false,())))) (cond (ieq y3.1 (Neg.neg 1)) (some (false,())) (some (false,())))) (cond (ieq y3.1 (Neg.neg 1)) (some (false,())) (some (false,())))) (cond (ieq y3.1 (Neg.neg 1)) (some (false,())) (some (false,())))) (cond (ieq y3.1 (Neg.neg 1)) (some (false,())) (some (false,()))))) (Option.bind (c18 ([48,120,49,48,117],())) fun y6=>cond (ieq y6.1 16) (Option.bind (c18 ([48,56],())) fun y7=>cond (ieq y7.1 (Neg.neg 1091)) (Option.bind (c18 ([49,32,60,60,32,54,52],())) fun y8=>cond (ieq y8.1 (Neg.neg 1093)) (Option.bind (c18 ([49,32,43],())) fun y9=>cond (ieq y9.1 (Neg.neg 1090)) (Option.bind (c18 ([],())) fun y10=>cond (ieq y10.1 (Neg.neg 1090)) (Option.bind (c18 ([49,32,63,32,50,32,58,32,48,32,63,32,51,32,58,32,52],())) fun y11=>cond (ieq y3.1 (Neg.neg 1)) (some (false,())) (some (false,()))) (cond (ieq y3.1 (Neg.neg 1)) (some (false,())) (some (false,())))) (cond (ieq y3.1 (Neg.neg 1)) (some (false,())) (some (false,())))) (cond (ieq y3.1 (Neg.neg 1)) (some (false,())) (some (false,())))) (cond (ieq y3.1 (Neg.neg 1)) (some (false,())) (some (false,())))) (cond (ieq y3.1 (Neg.neg 1)) (some (false,())) (some (false,()))))) (Option.bind (c18 ([48,120,49,48,117],())) fun y5=>cond (ieq y5.1 16) (Option.bind (c18 ([48,56],())) fun y6=>cond (ieq y6.1 (Neg.neg 1091)) (Option.bind (c18 ([49,32,60,60,32,54,52],())) fun y7=>cond (ieq y7.1 (Neg.neg 1093)) (Option.bind (c18 ([49,32,43],())) fun y8=>cond (ieq y8.1 (Neg.neg 1090)) (Option.bind (c18 ([],())) fun y9=>cond (ieq y9.1 (Neg.neg 1090)) (Option.bind (c18 ([49,32,63,32,50,32,58,32,48,32,63,32,51,32,58,32,52],())) fun y10=>cond (ieq y3.1 (Neg.neg 1)) (some (false,())) (some (false,()))) (cond (ieq y3.1 (Neg.neg 1)) (some (false,())) (some (false,())))) (cond (ieq y3.1 (Neg.neg 1)) (some (false,())) (some (false,())))) (cond (ieq y3.1 (Neg.neg 1)) (some (false,())) (some (false,())))) (cond (ieq y3.1 (Neg.neg 1)) (some (false,())) (some (false,())))) (cond (ieq y3.1 (Neg.neg 1)) (some (false,())) (some (false,()))))) (Option.bind (c18 ([49,32,124,124,32,49,32,47,32,48],())) fun y3=>cond (ieq y3.1 1) (Option.bind (c18 ([49,32,47,32,48],())) fun y4=>cond (ieq y4.1 (Neg.neg 1092)) (Option.bind (c18 ([48,32,63,32,49,47,48,32,58,32,53],())) fun y5=>cond (ieq y5.1 5) (Option.bind (c18 ([88,32,61,61,32,48,32,38,38,32,39,97,39,32,61,61,32,57,55],())) fun y6=>Option.bind (c18 ([48,120,49,48,117],())) fun y7=>cond (ieq y7.1 16) (Option.bind (c18 ([48,56],())) fun y8=>cond (ieq y8.1 (Neg.neg 1091)) (Option.bind (c18 ([49,32,60,60,32,54,52],())) fun y9=>cond (ieq y9.1 (Neg.neg 1093)) (Option.bind (c18 ([49,32,43],())) fun y10=>cond (ieq y10.1 (Neg.neg 1090)) (Option.bind (c18 ([],())) fun y11=>cond (ieq y11.1 (Neg.neg 1090)) (Option.bind (c18 ([49,32,63,32,50,32,58,32,48,32,63,32,51,32,58,32,52],())) fun y12=>some (false,())) (some (false,()))) (some (false,()))) (some (false,()))) (some (false,()))) (some (false,()))) (Option.bind (c18 ([48,120,49,48,117],())) fun y6=>cond (ieq y6.1 16) (Option.bind (c18 ([48,56],())) fun y7=>cond (ieq y7.1 (Neg.neg 1091)) (Option.bind (c18 ([49,32,60,60,32,54,52],())) fun y8=>cond (ieq y8.1 (Neg.neg 1093)) (Option.bind (c18 ([49,32,43],())) fun y9=>cond (ieq y9.1 (Neg.neg 1090)) (Option.bind (c18 ([],())) fun y10=>cond (ieq y10.1 (Neg.neg 1090)) (Option.bind (c18 ([49,32,63,32,50,32,58,32,48,32,63,32,51,32,58,32,52],())) fun y11=>some (false,())) (some (false,()))) (some (false,()))) (some (false,()))) (some (false,()))) (some (false,())))) (Option.bind (c18 ([48,120,49,48,117],())) fun y5=>cond (ieq y5.1 16) (Option.bind (c18 ([48,56],())) fun y6=>cond (ieq y6.1 (Neg.neg 1091)) (Option.bind (c18 ([49,32,60,60,32,54,52],())) fun y7=>cond (ieq y7.1 (Neg.neg 1093)) (Option.bind (c18 ([49,32,43],())) fun y8=>cond (ieq y8.1 (Neg.neg 1090)) (Option.bind (c18 ([],())) fun y9=>cond (ieq y9.1 (Neg.neg 1090)) (Option.bind (c18 ([49,32,63,32,50,32,58,32,48,32,63,32,51,32,58,32,52],())) fun y10=>some (false,())) (some (false,()))) (some (false,()))) (some (false,()))) (some (false,()))) (some (false,())))) (Option.bind (c18 ([48,120,49,48,117],())) fun y4=>cond (ieq y4.1 16) (Option.bind (c18 ([48,56],())) fun y5=>cond (ieq y5.1 (Neg.neg 1091)) (Option.bind (c18 ([49,32,60,60,32,54,52],())) fun y6=>cond (ieq y6.1 (Neg.neg 1093)) (Option.bind (c18 ([49,32,43],())) fun y7=>cond (ieq y7.1 (Neg.neg 1090)) (Option.bind (c18 ([],())) fun y8=>cond (ieq y8.1 (Neg.neg 1090)) (Option.bind (c18 ([49,32,63,32,50,32,58,32,48,32,63,32,51,32,58,32,52],())) fun y9=>some (false,())) (some (false,()))) (some (false,()))) (some (false,()))) (some (false,()))) (some (false,()))))) (Option.bind (c18 ([49,32,124,124,32,49,32,47,32,48],())) fun y2=>cond (ieq y2.1 1) (Option.bind (c18 ([49,32,47,32,48],())) fun y3=>cond (ieq y3.1 (Neg.neg 1092)) (Option.bind (c18 ([48,32,63,32,49,47,48,32,58,32,53],())) fun y4=>cond (ieq y4.1 5) (Option.bind (c18 ([88,32,61,61,32,48,32,38,38,32,39,97,39,32,61,61,32,57,55],())) fun y5=>Option.bind (c18 ([48,120,49,48,117],())) fun y6=>cond (ieq y6.1 16) (Option.bind (c18 ([48,56],())) fun y7=>cond (ieq y7.1 (Neg.neg 1091)) (Option.bind (c18 ([49,32,60,60,32,54,52],())) fun y8=>cond (ieq y8.1 (Neg.neg 1093)) (Option.bind (c18 ([49,32,43],())) fun y9=>cond (ieq y9.1 (Neg.neg 1090)) (Option.bind (c18 ([],())) fun y10=>cond (ieq y10.1 (Neg.neg 1090)) (Option.bind (c18 ([49,32,63,32,50,32,58,32,48,32,63,32,51,32,58,32,52],())) fun y11=>some (false,())) (some (false,()))) (some (false,()))) (some (false,()))) (some (false,()))) (some (false,()))) (Option.bind (c18 ([48,120,49,48,117],())) fun y5=>cond (ieq y5.1 16) (Option.bind (c18 ([48,56],())) fun y6=>cond (ieq y6.1 (Neg.neg 1091)) (Option.bind (c18 ([49,32,60,60,32,54,52],())) fun y7=>cond (ieq y7.1 (Neg.neg 1093)) (Option.bind (c18 ([49,32,43],())) fun y8=>cond (ieq y8.1 (Neg.neg 1090)) (Option.bind (c18 ([],())) fun y9=>cond (ieq y9.1 (Neg.neg 1090)) (Option.bind (c18 ([49,32,63,32,50,32,58,32,48,32,63,32,51,32,58,32,52],())) fun y10=>some (false,())) (some (false,()))) (some (false,()))) (some (false,()))) (some (false,()))) (some (false,())))) (Option.bind (c18 ([48,120,49,48,117],())) fun y4=>cond (ieq y4.1 16) (Option.bind (c18 ([48,56],())) fun y5=>cond (ieq y5.1 (Neg.neg 1091)) (Option.bind (c18 ([49,32,60,60,32,54,52],())) fun y6=>cond (ieq y6.1 (Neg.neg 1093)) (Option.bind (c18 ([49,32,43],())) fun y7=>cond (ieq y7.1 (Neg.neg 1090)) (Option.bind (c18 ([],())) fun y8=>cond (ieq y8.1 (Neg.neg 1090)) (Option.bind (c18 ([49,32,63,32,50,32,58,32,48,32,63,32,51,32,58,32,52],())) fun y9=>some (false,())) (some (false,()))) (some (false,()))) (some (false,()))) (some (false,()))) (some (false,())))) (Option.bind (c18 ([48,120,49,48,117],())) fun y3=>cond (ieq y3.1 16) (Option.bind (c18 ([48,56],())) fun y4=>cond (ieq y4.1 (Neg.neg 1091)) (Option.bind (c18 ([49,32,60,60,32,54,52],())) fun y5=>cond (ieq y5.1 (Neg.neg 1093)) (Option.bind (c18 ([49,32,43],())) fun y6=>cond (ieq y6.1 (Neg.neg 1090)) (Option.bind (c18 ([],())) fun y7=>cond (ieq y7.1 (Neg.neg 1090)) (Option.bind (c18 ([49,32,63,32,50,32,58,32,48,32,63,32,51,32,58,32,52],())) fun y8=>some (false,())) (some (false,()))) (some (false,()))) (some (false,()))) (some (false,()))) (some (false,()))))) (Option.bind (c18 ([49,32,124,124,32,49,32,47,32,48],())) fun y1=>cond (ieq y1.1 1) (Option.bind (c18 ([49,32,47,32,48],())) fun y2=>cond (ieq y2.1 (Neg.neg 1092)) (Option.bind (c18 ([48,32,63,32,49,47,48,32,58,32,53],())) fun y3=>cond (ieq y3.1 5) (Option.bind (c18 ([88,32,61,61,32,48,32,38,38,32,39,97,39,32,61,61,32,57,55],())) fun y4=>Option.bind (c18 ([48,120,49,48,117],())) fun y5=>cond (ieq y5.1 16) (Option.bind (c18 ([48,56],())) fun y6=>cond (ieq y6.1 (Neg.neg 1091)) (Option.bind (c18 ([49,32,60,60,32,54,52],())) fun y7=>cond (ieq y7.1 (Neg.neg 1093)) (Option.bind (c18 ([49,32,43],())) fun y8=>cond (ieq y8.1 (Neg.neg 1090)) (Option.bind (c18 ([],())) fun y9=>cond (ieq y9.1 (Neg.neg 1090)) (Option.bind (c18 ([49,32,63,32,50,32,58,32,48,32,63,32,51,32,58,32,52],())) fun y10=>some (false,())) (some (false,()))) (some (false,()))) (some (false,()))) (some (false,()))) (some (false,()))) (Option.bind (c18 ([48,120,49,48,117],())) fun y4=>cond (ieq y4.1 16) (Option.bind (c18 ([48,56],())) fun y5=>cond (ieq y5.1 (Neg.neg 1091)) (Option.bind (c18 ([49,32,60,60,32,54,52],())) fun y6=>cond (ieq y6.1 (Neg.neg 1093)) (Option.bind (c18 ([49,32,43],())) fun y7=>cond (ieq y7.1 (Neg.neg 1090)) (Option.bind (c18 ([],())) fun y8=>cond (ieq y8.1 (Neg.neg 1090)) (Option.bind (c18 ([49,32,63,32,50,32,58,32,48,32,63,32,51,32,58,32,52],())) fun y9=>some (false,())) (some (false,()))) (some (false,()))) (some (false,()))) (some (false,()))) (some (false,())))) (Option.bind (c18 ([48,120,49,48,117],())) fun y3=>cond (ieq y3.1 16) (Option.bind (c18 ([48,56],())) fun y4=>cond (ieq y4.1 (Neg.neg 1091)) (Option.bind (c18 ([49,32,60,60,32,54,52],())) fun y5=>cond (ieq y5.1 (Neg.neg 1093)) (Option.bind (c18 ([49,32,43],())) fun y6=>cond (ieq y6.1 (Neg.neg 1090)) (Option.bind (c18 ([],())) fun y7=>cond (ieq y7.1 (Neg.neg 1090)) (Option.bind (c18 ([49,32,63,32,50,32,58,32,48,32,63,32,51,32,58,32,52],())) fun y8=>some (false,())) (some (false,()))) (some (false,()))) (some (false,()))) (some (false,()))) (some (false,())))) (Option.bind (c18 ([48,120,49,48,117],())) fun y2=>cond (ieq y2.1 16) (Option.bind (c18 ([48,56],())) fun y3=>cond (ieq y3.1 (Neg.neg 1091)) (Option.bind (c18 ([49,32,60,60,32,54,52],())) fun y4=>cond (ieq y4.1 (Neg.neg 1093)) (Option.bind (c18 ([49,32,43],())) fun y5=>cond (ieq y5.1 (Neg.neg 1090)) (Option.bind (c18 ([],())) fun y6=>cond (ieq y6.1 (Neg.neg 1090)) (Option.bind (c18 ([49,32,63,32,50,32,58,32,48,32,63,32,51,32,58,32,52],())) fun y7=>some (false,())) (some (false,()))) (some (false,()))) (some (false,()))) (some (false,()))) (some (false,()))))
theorem eq8:@run8 = @sh8:=by kernel_rfl
theorem con42 (fu:Nat) :ConOk CC Tryd.prog 42 ⟨as42,rs42,fun x=>sh42 fu (fun _=>false) x.1⟩:=
 zS (c:=⟨as42,rs42,fun x=>sh42 fu (fun _=>false) x.1⟩) (syn:=syn) (fu:=fu) (d:=2) (inl:=zA []) (orc:=zA []) (orr:=zA []) (orp:=zA []) (pf:=hasN []) (rf:=hasN []) zV CCok mixed (fun g=>(zG (α:=Con UU) (l:=[]) g).symm) (fun g=>(zG (α:=CR UU) (l:=[]) g).symm) (zB) (zB) (zB) (zB) fdok42 (by show 1<=32; decide) (zP rfl) (fun nf x=>by show run42 fu nf x.1=_; rw [eq42]; rfl)
theorem con43 (fu:Nat) :ConOk CC Tryd.prog 43 ⟨as43,rs43,fun x=>sh43 fu (fun _=>false) x.1⟩:=
 zS (c:=⟨as43,rs43,fun x=>sh43 fu (fun _=>false) x.1⟩) (syn:=syn) (fu:=fu) (d:=2) (inl:=zA []) (orc:=zA []) (orr:=zA []) (orp:=zA []) (pf:=hasN []) (rf:=hasN []) zV CCok mixed (fun g=>(zG (α:=Con UU) (l:=[]) g).symm) (fun g=>(zG (α:=CR UU) (l:=[]) g).symm) (zB) (zB) (zB) (zB) fdok43 (by show 1<=28; decide) (zP rfl) (fun nf x=>by show run43 fu nf x.1=_; rw [eq43]; rfl)
theorem con14 (fu:Nat) (c42:zI as42->Option (zI rs42)) (h42:ConOk CC Tryd.prog 42 ⟨as42,rs42,c42⟩) (c43:zI as43->Option (zI rs43)) (h43:ConOk CC Tryd.prog 43 ⟨as43,rs43,c43⟩):ConOk CC Tryd.prog 14 ⟨as14,rs14,fun x=>sh14 fu c42 c43 (fun _=>false) x.1⟩:=
 zS (c:=⟨as14,rs14,fun x=>sh14 fu c42 c43 (fun _=>false) x.1⟩) (syn:=syn) (fu:=fu) (d:=2) (inl:=zA []) (orc:=zA [(42,(⟨as42,rs42,c42⟩:Con UU)),(43,(⟨as43,rs43,c43⟩:Con UU))]) (orr:=zA []) (orp:=zA []) (pf:=hasN [42,43]) (rf:=hasN []) zV CCok mixed (fun g=>(zG (α:=Con UU) (l:=[(42,(⟨as42,rs42,c42⟩:Con UU)),(43,(⟨as43,rs43,c43⟩:Con UU))]) g).symm) (fun g=>(zG (α:=CR UU) (l:=[]) g).symm) (zB) (zH (OrcOk.of ⟨code42,h42⟩ rfl) (zH (OrcOk.of ⟨code43,h43⟩ rfl) (zB))) (zB) (zB) fdok14 (by show 1<=73; decide) (zP rfl) (fun nf x=>by show run14 fu c42 c43 nf x.1=_; rw [eq14]; rfl)
theorem con16 (fu:Nat) :ConOk CC Tryd.prog 16 ⟨as16,rs16,fun x=>sh16 fu (fun _=>false) x.1⟩:=
 zS (c:=⟨as16,rs16,fun x=>sh16 fu (fun _=>false) x.1⟩) (syn:=syn) (fu:=fu) (d:=2) (inl:=zA []) (orc:=zA []) (orr:=zA []) (orp:=zA []) (pf:=hasN []) (rf:=hasN []) zV CCok mixed (fun g=>(zG (α:=Con UU) (l:=[]) g).symm) (fun g=>(zG (α:=CR UU) (l:=[]) g).symm) (zB) (zB) (zB) (zB) fdok16 (by show 1<=68; decide) (zP rfl) (fun nf x=>by show run16 fu nf x.1=_; rw [eq16]; rfl)
theorem con45 (fu:Nat) :ConOk CC Tryd.prog 45 ⟨as45,rs45,fun x=>sh45 fu (fun _=>false) x.1⟩:=
 zS (c:=⟨as45,rs45,fun x=>sh45 fu (fun _=>false) x.1⟩) (syn:=syn) (fu:=fu) (d:=2) (inl:=zA []) (orc:=zA []) (orr:=zA []) (orp:=zA []) (pf:=hasN []) (rf:=hasN []) zV CCok mixed (fun g=>(zG (α:=Con UU) (l:=[]) g).symm) (fun g=>(zG (α:=CR UU) (l:=[]) g).symm) (zB) (zB) (zB) (zB) fdok45 (by show 1<=4; decide) (zP rfl) (fun nf x=>by show run45 fu nf x.1=_; rw [eq45]; rfl)
theorem con8 (fu:Nat) (c18:zI as18->Option (zI rs18)) (h18:ConOk CC Tryd.prog 18 ⟨as18,rs18,c18⟩):ConOk CC Tryd.prog 8 ⟨as8,rs8,fun x=>sh8 fu c18 (fun _=>false)⟩:=
 zS (c:=⟨as8,rs8,fun x=>sh8 fu c18 (fun _=>false)⟩) (syn:=syn) (fu:=fu) (d:=2) (inl:=zA []) (orc:=zA [(18,(⟨as18,rs18,c18⟩:Con UU))]) (orr:=zA []) (orp:=zA []) (pf:=hasN [18]) (rf:=hasN []) zV CCok mixed (fun g=>(zG (α:=Con UU) (l:=[(18,(⟨as18,rs18,c18⟩:Con UU))]) g).symm) (fun g=>(zG (α:=CR UU) (l:=[]) g).symm) (zB) (zH (OrcOk.of ⟨code18,h18⟩ rfl) (zB)) (zB) (zB) fdok8 (by show 0<=61; decide) (zP rfl) (fun nf x=>by show run8 fu c18 nf=_; rw [eq8]; rfl)
end
section
open Go.Al Go.Den
noncomputable def c57:zC ([.str]:LK)->DD (zC ([.bool]:LK)):=mD (sh57 0)
theorem ok57:CPOk CC Tryd.prog syn 57 (cD ([.str]:LK) ([.bool]:LK) c57):=con57 0
noncomputable def c59 (fu:Nat):zC ([]:LK)->DD (zC ([.int .i64]:LK)):=mD (sh59 fu c56)
theorem ok59 (fu:Nat):CPOk CC Tryd.prog syn 59 (cD ([]:LK) ([.int .i64]:LK) (c59 fu)):=con59 fu c56 ok56
noncomputable def c60 (fu:Nat):zC ([]:LK)->DD (zC ([.int .i64]:LK)):=mD (sh60 fu c44 c56)
theorem ok60 (fu:Nat):CPOk CC Tryd.prog syn 60 (cD ([]:LK) ([.int .i64]:LK) (c60 fu)):=con60 fu c44 ok44 c56 ok56
noncomputable def c61 (fu:Nat):zC ([.int .u8]:LK)->DD (zC ([.int .i64]:LK)):=mD (sh61 fu c56)
theorem ok61 (fu:Nat):CPOk CC Tryd.prog syn 61 (cD ([.int .u8]:LK) ([.int .i64]:LK) (c61 fu)):=con61 fu c56 ok56
noncomputable def c62 (fu:Nat):zC ([]:LK)->DD (zC ([.int .i64]:LK)):=mD (sh62 fu c57)
theorem ok62 (fu:Nat):CPOk CC Tryd.prog syn 62 (cD ([]:LK) ([.int .i64]:LK) (c62 fu)):=con62 fu c57 ok57
noncomputable def c30 (fu:Nat):zC ([]:LK)->DD (zC ([.int .i64,.int .i64]:LK)):=mD (sh30 fu c57 (c59 fu) (c60 fu) (c61 fu) (c62 fu))
theorem ok30 (fu:Nat):CPOk CC Tryd.prog syn 30 (cD ([]:LK) ([.int .i64,.int .i64]:LK) (c30 fu)):=con30 fu c57 ok57 (c59 fu) (ok59 fu) (c60 fu) (ok60 fu) (c61 fu) (ok61 fu) (c62 fu) (ok62 fu)
noncomputable def c29 (fu:Nat):zC ([]:LK)->DD (zC ([.bool]:LK)):=mD (sh29 fu c44 c58 c56 c57)
theorem ok29 (fu:Nat):CPOk CC Tryd.prog syn 29 (cD ([]:LK) ([.bool]:LK) (c29 fu)):=con29 fu c44 ok44 c58 ok58 c56 ok56 c57 ok57
noncomputable def c10 (fu:Nat) (x:Int×Str×Unit):Option (List TokT×Unit):=sh10 fu c27 c28 (c29 fu) (c30 fu) (fun _=>false) x.1 x.2.1
theorem ok10 (fu:Nat):ConOk CC Tryd.prog 10 ⟨as10,rs10,c10 fu⟩:=con10 fu c27 ok27 c28 ok28 (c29 fu) (ok29 fu) (c30 fu) (ok30 fu)
noncomputable def c52:zC ([]:LK)->EE (zC ([.str]:LK)):=mE (sh52 0)
theorem ok52:CPOk CC Tryd.prog syn 52 (cE ([]:LK) ([.str]:LK) c52):=con52 0
noncomputable def c53:zC ([.str]:LK)->EE (zC ([]:LK)):=mE (sh53 0 c52)
theorem ok53:CPOk CC Tryd.prog syn 53 (cE ([.str]:LK) ([]:LK) c53):=con53 0 c52 ok52
structure RF where
 c26:zC ([.int .i64]:LK)->EE (zC ([.st TI.val]:LK))
 c51:zC ([.int .i64,.int .i64]:LK)->EE (zC ([.st TI.val]:LK))
 c54:zC ([.int .i64]:LK)->EE (zC ([.st TI.val]:LK))
 c73:zC ([.int .i64]:LK)->EE (zC ([.st TI.val]:LK))
 c82:zC ([.int .i64]:LK)->EE (zC ([.st TI.val]:LK))
structure RFok (r:RF):Prop where
 h26:CPOk CC Tryd.prog syn 26 (cE ([.int .i64]:LK) ([.st TI.val]:LK) r.c26)
 h51:CPOk CC Tryd.prog syn 51 (cE ([.int .i64,.int .i64]:LK) ([.st TI.val]:LK) r.c51)
 h54:CPOk CC Tryd.prog syn 54 (cE ([.int .i64]:LK) ([.st TI.val]:LK) r.c54)
 h73:CPOk CC Tryd.prog syn 73 (cE ([.int .i64]:LK) ([.st TI.val]:LK) r.c73)
 h82:CPOk CC Tryd.prog syn 82 (cE ([.int .i64]:LK) ([.st TI.val]:LK) r.c82)
noncomputable def rf (fu:Nat):Nat->RF
 | 0=>⟨fun _ _=>none,fun _ _=>none,fun _ _=>none,fun _ _=>none,fun _ _=>none⟩
 | n+1=>⟨mE (sh26 fu (rf fu n).c51 c52 c53 (rf fu n).c54),mE (sh51 fu c74 (rf fu n).c51 c52 c53 (rf fu n).c73),mE (sh54 fu (rf fu n).c26),mE (sh73 fu c52 c53 (rf fu n).c73 (rf fu n).c82),mE (sh82 fu (c13 fu) c15 c52 c53 (rf fu n).c54)⟩
theorem zBi {P:Program} {f:Nat} {aa rs:LK}:CPOk CC P syn f (cE aa rs fun _ _=>none):=fun x a R pan K r hr=>by
 replace hr:(none:Option R)=some r:=hr
 cases hr
theorem rfok (fu:Nat):∀ n,RFok (rf fu n)
 | 0=>⟨zBi,zBi,zBi,zBi,zBi⟩
 | n+1=>⟨con26 fu _ (rfok fu n).h51 c52 ok52 c53 ok53 _ (rfok fu n).h54,con51 fu c74 ok74 _ (rfok fu n).h51 c52 ok52 c53 ok53 _ (rfok fu n).h73,con54 fu _ (rfok fu n).h26,con73 fu c52 ok52 c53 ok53 _ (rfok fu n).h73 _ (rfok fu n).h82,con82 fu (c13 fu) (ok13 fu) c15 ok15 c52 ok52 c53 ok53 _ (rfok fu n).h54⟩
noncomputable def c23 (fu:Nat):zC ([.arr TI.tok,.fn 25]:LK)->Option (zC ([.bl TI.tok]:LK)):=mF (sh23 fu)
theorem ok23 (fu:Nat):CPOk CC Tryd.prog syn 23 (cF ([.arr TI.tok,.fn 25]:LK) ([.bl TI.tok]:LK) (c23 fu)):=con23 fu
noncomputable def c9 (fu n k:Nat) (x:List TokT×Unit):Option (Int×Int×Unit):=sh9 fu (cm k) (c23 fu) (rf fu n).c26 (fun _=>false) x.1
theorem ok9 (fu n k:Nat):ConOk CC Tryd.prog 9 ⟨as9,rs9,c9 fu n k⟩:=con9 fu (cm k) (cmok k) (c23 fu) (ok23 fu) _ (rfok fu n).h26
noncomputable def c18 (fu n k:Nat) (x:Str×Unit):Option (Int×Unit):=sh18 fu (c9 fu n k) (c10 fu) (fun _=>false) x.1
theorem ok18 (fu n k:Nat):ConOk CC Tryd.prog 18 ⟨as18,rs18,c18 fu n k⟩:=con18 fu (c9 fu n k) (ok9 fu n k) (c10 fu) (ok10 fu)
noncomputable def c8 (fu n k:Nat) (_:Unit):Option (Bool×Unit):=sh8 fu (c18 fu n k) (fun _=>false)
theorem ok8 (fu n k:Nat):ConOk CC Tryd.prog 8 ⟨as8,rs8,c8 fu n k⟩:=con8 fu (c18 fu n k) (ok18 fu n k)
end
end Go.Proofs.YtonnigoiklahdaaDoor
namespace Go.Den
section
open Go.Al
theorem zLt (n:Int) (h1:-9223372036854775808<=n) (h2:n<=9223372036854775807):IntKind.i64.wrap n=n:=IntWalk.i64_in n (by omega)
theorem zl (a b:Int) (h1:-9223372036854775808<=a+b) (h2:a+b<=9223372036854775807):iadd .i64 a b=a+b:=zLt _ h1 h2
theorem zBx (a b:Int) (h1:-9223372036854775808<=a - b) (h2:a - b<=9223372036854775807):isub .i64 a b=a - b:=zLt _ h1 h2
theorem zOu (i k:Nat) (h:i+k < 9223372036854775808):iadd .i64 (i:Int) (k:Int)=((i+k:Nat):Int):=by
 unfold iadd; rw [zLt _ (by omega) (by omega)]; omega
theorem zOU (i:Nat) (h:i+1 < 9223372036854775808):iadd .i64 (i:Int) 1=((i+1:Nat):Int):=zOu i 1 h
theorem zBf {α:Type} (l:List α) (i:Nat) (d:α) (h:i < l.length):l.getD i d=l[i]:=by simp [h]
theorem kT {b n:Nat} (h:n * b<=140737488355328) (h2:n<=maxLen):okN b n=true:=by simp [okN,h,h2]
theorem zAJ (a b:Int):ieq a b=decide (a=b):=by unfold ieq; by_cases h:a=b <;> simp [h]
theorem zGg (a b:Int):ine a b = !decide (a=b):=by unfold ine; by_cases h:a=b <;> simp [h]
theorem xt (a b:List UInt8):seq a b=decide (a=b):=by unfold seq; by_cases h:a=b <;> simp [h]
theorem zBA {σ R:Type} {F:(σ->Option R)->σ->Option R} (P:Option R->Prop) (I:σ->Prop) (μ:σ->Nat) (step:∀ (rec:σ->Option R) s,I s->(∀ s',I s'->μ s' < μ s->P (rec s'))->P (F rec s)) :
 ∀ (n:Nat) (s:σ),I s->μ s < n->P (iter n F s):=by
 intro n
 induction n with
 | zero=>intro s _ h; omega
 | succ n ih=>
  intro s hs hn
  simp only [iter]
  exact step _ s hs fun s' hs' hlt=>ih s' hs' (by omega)
end
end Go.Den
namespace Go.Proofs.YtonnigoiklahdaaDoor
section
open Go.Al Go.Den
section
variable {ρ α:Type} {r t f:Option ρ} {a b:Int}
theorem xE (h1:a<=b->t=r) (h2:b < a->f=r):cond (ile a b) t f=r:=by
 unfold ile; by_cases h:a<=b
 · rw [decide_eq_true h]; exact h1 h
 · rw [decide_eq_false h]; exact h2 (by omega)
theorem zh (h1:a < b->t=r) (h2:b<=a->f=r):cond (ilt a b) t f=r:=by
 unfold ilt; by_cases h:a < b
 · rw [decide_eq_true h]; exact h1 h
 · rw [decide_eq_false h]; exact h2 (by omega)
theorem zc (h1:a=b->t=r) (h2:a≠b->f=r):cond (ieq a b) t f=r:=by
 rw [zAJ]; by_cases h:a=b
 · rw [decide_eq_true h]; exact h1 h
 · rw [decide_eq_false h]; exact h2 h
theorem xD (h1:a≠b->t=r) (h2:a=b->f=r):cond (ine a b) t f=r:=by
 rw [zGg]; by_cases h:a=b
 · rw [decide_eq_true h]; exact h2 h
 · rw [decide_eq_false h]; exact h1 h
theorem qf {c:Bool} (h1:c=true->t=r) (h2:c=false->f=r):cond c t f=r:=by
 cases c
 · exact h2 rfl
 · exact h1 rfl
theorem zGX {c:Bool} (h1:c=false->t=r) (h2:c=true->f=r):cond (!c) t f=r:=by
 cases c
 · exact h1 rfl
 · exact h2 rfl
theorem Q_nile (h1:b < a->t=r) (h2:a<=b->f=r):cond (!(ile a b)) t f=r:=by
 unfold ile; by_cases h:a<=b
 · rw [decide_eq_true h]; exact h2 h
 · rw [decide_eq_false h]; exact h1 (by omega)
theorem zF {c:Bool} (h:c=true) (h1:t=r):cond c t f=r:=by rw [h]; exact h1
theorem zE {c:Bool} (h:c=false) (h1:f=r):cond c t f=r:=by rw [h]; exact h1
theorem zK {x:Option α} {v:α} {F:α->Option ρ} (h:x=some v) (h2:F v=r):Option.bind x F=r:=by subst h; exact h2
end
theorem ym {a b:Int} {n:Nat} (h1:0<=a) (h2:a<=b) (h3:b<=n):inS a b n=true:=by unfold inS; simp [h1,h2,h3]
theorem zY {a:Int} {n:Nat} (h1:0<=a) (h2:a < n):inB a n=true:=by unfold inB; simp [h1,h2]
theorem qr {a b:Int} (h:a<=b):ile a b=true:=decide_eq_true h
theorem zEY {a b:Int} (h:b < a):ile a b=false:=decide_eq_false (by omega)
theorem ya {a b:Int} (h:a < b):ilt a b=true:=decide_eq_true h
theorem z6 {a b:Int} (h:b<=a):ilt a b=false:=decide_eq_false (by omega)
theorem yY {a b:Int} (h:a=b):ieq a b=true:=by rw [zAJ]; exact decide_eq_true h
theorem z7 {a b:Int} (h:a≠b):ieq a b=false:=by rw [zAJ]; exact decide_eq_false h
theorem xI {a b:Int} (h:a≠b):ine a b=true:=by rw [zGg,decide_eq_false h]; rfl
theorem j7 {a b:Int} (h:a=b):ine a b=false:=by rw [zGg,decide_eq_true h]; rfl
def zGV:List Str->Str->Option (Bool×Unit)
 | [],_=>some (false,())
 | l::r,x=>cond (seq x l) (some (true,())) (zGV r x)
theorem zFH:∀ (l:List Str) (x:Str),zGV l x=some (l.contains x,())
 | [],x=>rfl
 | a::r,x=>by
  unfold zGV
  rw [zFH r x]
  unfold seq
  simp only [List.contains_cons]
  cases (x == a) <;> rfl
def suf41:List Str:=[[],[],[117],[117],[85],[85],[108],[108],[108,117],[117,108],[108,85],[85,108],[76],[76],[76,117],[117,76],[76,85],[85,76],[108,108],[108,108],[108,108,117],[117,108,108],[108,108,85],[85,108,108],[76,76],[76,76],[76,76,117],[117,76,76],[76,76,85],[85,76,76]]
def suf43:List Str:=[[],[117],[85],[108],[76],[108,108],[76,76],[117,108],[117,76],[117,108,108],[117,76,76],[85,108],[85,76],[85,108,108],[85,76,76],[108,117],[108,85],[76,117],[76,85],[108,108,117],[108,108,85],[76,76,117],[76,76,85]]
def zEc (x:Str):Bool:=suf43.contains x
theorem zLu (x:Str):sh41 20 (fun _=>false) x=zGV suf41 x:=by kernel_rfl
theorem sub_41:(suf41.all fun l=>suf43.contains l)=true:=by kernel_rfl
theorem sub_43:(suf43.all fun l=>suf41.contains l)=true:=by kernel_rfl
theorem c41_eq (x:Str):c41 (x,())=some (zEc x,()):=by
 refine (zLu x).trans ((zFH _ x).trans ?_)
 have:suf41.contains x=zEc x:=by
  rw [Bool.eq_iff_iff]
  unfold zEc
  simp only [List.contains_iff_mem]
  exact ⟨fun h=>by simpa using List.all_eq_true.1 sub_41 x h,fun h=>by simpa using List.all_eq_true.1 sub_43 x h⟩
 rw [this]
noncomputable def c43 (x:Str×Unit):Option (Bool×Unit):=sh43 0 (fun _=>false) x.1
theorem ok43:ConOk CC Tryd.prog 43 ⟨as43,rs43,c43⟩:=con43 0
theorem c43_eq (x:Str):c43 (x,())=some (zEc x,()):=(show c43 (x,())=zGV suf43 x from by kernel_rfl).trans (zFH _ x)
def digN (n:Nat):Nat:=if 48<=n/\n<=57 then n - 48 else if 97<=n/\n<=102 then n - 87 else if 65<=n/\n<=70 then n - 55 else 16
def d39 (n:Int):Option (Int×Unit):=sh39 0 (fun _=>false) n
theorem zPc:((List.range 256).all fun n=>decide (d39 (n:Int)=some ((digN n:Int),())))=true:=by kernel_rfl
noncomputable def c42 (x:Int×Unit):Option (Int×Unit):=sh42 0 (fun _=>false) x.1
theorem ok42:ConOk CC Tryd.prog 42 ⟨as42,rs42,c42⟩:=con42 0
def digR (n:Nat):Nat:=if digN n=16 then 99 else digN n
def d42 (n:Int):Option (Int×Unit):=sh42 0 (fun _=>false) n
theorem zPm:((List.range 256).all fun n=>decide (d42 (n:Int)=some ((digR n:Int),())))=true:=by kernel_rfl
theorem c39_eq (c:UInt8):c39 ((c.toNat:Int),())=some ((digN c.toNat:Int),()):=by
 have h:decide (d39 (c.toNat:Int)=some ((digN c.toNat:Int),()))=true:=List.all_eq_true.1 zPc c.toNat (List.mem_range.2 c.toNat_lt)
 have h2:=of_decide_eq_true h
 exact h2
theorem c42_eq (c:UInt8):c42 ((c.toNat:Int),())=some ((digR c.toNat:Int),()):=by
 have h:decide (d42 (c.toNat:Int)=some ((digR c.toNat:Int),()))=true:=List.all_eq_true.1 zPm c.toNat (List.mem_range.2 c.toNat_lt)
 have h2:=of_decide_eq_true h
 exact h2
def numG (b:Nat):Nat->Str->Option (Nat×Str)
 | n,[]=>some (n,[])
 | n,c::r=>if b<=digN c.toNat then some (n,c::r) else if 9223372036854775808<=n * b+digN c.toNat then none else numG b (n * b+digN c.toNat) r
def numR (b:Nat) (t:Str):Int×Int×Unit:=
 match numG b 0 t with
 | none=>(0,91,())
 | some (n,r)=>if r.length=t.length then (0,91,()) else if zEc r then ((n:Int),0,()) else (0,91,())
end
section
open Go.Al Go.Den
theorem zGS (s:Str) (k:Nat) (h:k < s.length):zD s (k:Int)=((s[k].toNat:Nat):Int):=by
 unfold zD
 rw [Int.toNat_natCast,List.getD_eq_getElem?_getD,List.getElem?_eq_getElem h]; rfl
theorem zFE (s:Str) (k:Nat):cutL s (k:Int) (lenI s)=s.drop k:=by
 unfold cutL lenI
 rw [Int.toNat_natCast,Int.toNat_natCast,List.take_length]
theorem zK1 (n:Nat):digN n<=16:=by unfold digN; (repeat' split) <;> omega
noncomputable def goP (fu:Nat) (b:Int) (t:Str):Option (Int×Int×Unit):=
 iter fu (fun (rec1:((Int×(Int×PUnit))×PUnit)->Option (Int×(Int×PUnit))) (s1:((Int×(Int×PUnit))×PUnit))=>
  cond (ilt s1.1.2.1 (lenI t))
   (cond (inB s1.1.2.1 (List.length t))
    (Option.bind (c39 ((zD t s1.1.2.1),())) fun y0=>
     cond (ile b y0.1)
      (cond (ieq s1.1.2.1 0)
       (some (0,(91,())))
       (cond (inS s1.1.2.1 (lenI t) (List.length t))
        (Option.bind (c41 ((cutL t s1.1.2.1 (lenI t)),())) fun y1=>
         cond (!y1.1)
          (some (0,(91,())))
          (some ((zR .i64 s1.1.1),(0,()))))
        (none)))
      (Option.bind (c40 (s1.1.1,(b,()))) fun y1=>
       cond (ine y1.1 0)
        (some (0,(91,())))
        (cond (ile 9223372036854775808 y1.2.1)
         (some (0,(91,())))
         (cond (ile 9223372036854775808 (iadd .u64 y1.2.1 y0.1))
          (some (0,(91,())))
          (rec1 (((iadd .u64 y1.2.1 y0.1),((iadd .i64 s1.1.2.1 1),())),()))))))
    (none))
   (cond (ieq s1.1.2.1 0)
    (some (0,(91,())))
    (cond (inS s1.1.2.1 (lenI t) (List.length t))
     (Option.bind (c41 ((cutL t s1.1.2.1 (lenI t)),())) fun y0=>
      cond (!y0.1)
       (some (0,(91,())))
       (some ((zR .i64 s1.1.1),(0,()))))
     (none))))
  ((0,(0,())),())
theorem zOD {n:Int} (h0:0<=n) (h1:n < 18446744073709551616):IntKind.u64.wrap n=n:=by
 unfold IntKind.wrap
 simp only [IntKind.signed,IntKind.bits]
 simp
 omega
theorem zIf (fu:Nat) (b:Nat) (hb:b=8\/b=10\/b=16) (t:Str) (ht:t.length < 1000000) (hfu:t.length < fu):goP fu (b:Int) t=some (numR b t):=by
 unfold goP
 refine zn (fun s=>∃ n k:Nat,s=((((n:Int),((k:Int),())),()):(Int×Int×PUnit)×PUnit)/\k<=t.length/\n < 9223372036854775808/\numG b n (t.drop k)=numG b 0 t) (fun s=>t.length - s.1.2.1.toNat) ?_ fu _ ⟨0,0,rfl,Nat.zero_le _,by omega,rfl⟩ (by simp; omega)
 rintro rec s ⟨n,k,rfl,hk,hn,hg⟩ hrec
 dsimp only
 have fin:∀ hr:numG b n (t.drop k)=some (n,t.drop k),cond (ieq (k:Int) 0) (some ((0:Int),((91:Int),()))) (cond (inS (k:Int) (lenI t) (List.length t)) (Option.bind (c41 ((cutL t (k:Int) (lenI t)),())) fun y0=>cond (!y0.1) (some (0,(91,()))) (some ((zR .i64 (n:Int)),(0,())))) none)=some (numR b t):=fun hr=>by
  unfold numR
  rw [<- hg,hr]
  refine zc (fun h0=>?_) fun h0=>?_
  · obtain rfl:k=0:=by omega
    simp
  · refine zF (ym (by omega) (by show (k:Int)<=(t.length:Int); omega) (Int.le_refl _)) ?_
    rw [zFE]
    refine zK (c41_eq _) ?_
    have h1:¬ (t.drop k).length=t.length:=by rw [List.length_drop]; omega
    dsimp only
    rw [if_neg h1]
    refine zGX (fun h2=>?_) fun h2=>?_
    · rw [h2]; rfl
    · rw [h2,if_pos rfl]
      have:zR .i64 (n:Int)=n:=IntWalk.i64_in _ (by omega)
      rw [this]
 refine zh (fun h=>?_) fun h=>?_
 · have hlt:k < t.length:=by have:(k:Int) < (t.length:Int):=h; omega
   refine zF (zY (by omega) h) ?_
   rw [zGS t k hlt]
   refine zK (c39_eq _) ?_
   dsimp only
   have hd:=zK1 t[k].toNat
   have hstep:numG b n (t.drop k)=if b<=digN t[k].toNat then some (n,t.drop k) else if 9223372036854775808<=n * b+digN t[k].toNat then none else numG b (n * b+digN t[k].toNat) (t.drop (k+1)):=by
    conv=>lhs; rw [List.drop_eq_getElem_cons hlt]
    rw [numG,<- List.drop_eq_getElem_cons hlt]
   generalize hdg:digN t[k].toNat=d at hd hstep ⊢
   refine xE (fun hbd=>?_) fun hbd=>?_
   · rw [if_pos (by omega)] at hstep
     exact fin hstep
   · rw [if_neg (by omega)] at hstep
     have h40:c40 ((n:Int),(b:Int),())=some (((n * b / 18446744073709551616:Nat):Int),((n * b % 18446744073709551616:Nat):Int),()):=by
      have:c40 ((n:Int),(b:Int),())=some ((((n:Int).toNat * (b:Int).toNat / 18446744073709551616:Nat):Int),(((n:Int).toNat * (b:Int).toNat % 18446744073709551616:Nat):Int),()):=if_pos ⟨by show (0:Int)<=n; omega,by show (n:Int) < _; omega,by show (0:Int)<=b; omega,by show (b:Int) < _; omega⟩
      rw [this,Int.toNat_natCast,Int.toNat_natCast]
     refine zK h40 ?_
     dsimp only
     have bad:9223372036854775808<=n * b+d->some ((0:Int),(91:Int),())=some (numR b t):=fun hbad=>by
      rw [if_pos hbad] at hstep
      unfold numR
      rw [<- hg,hstep]
     generalize n * b=m at hstep bad ⊢
     refine xD (fun h1=>bad (by omega)) fun h1=>?_
     refine xE (fun h2=>bad (by omega)) fun h2=>?_
     have e6:((m % 18446744073709551616:Nat):Int)=(m:Int):=by omega
     rw [e6] at h2 ⊢
     have e3:iadd .u64 (m:Int) (d:Int)=(m:Int)+(d:Int):=zOD (by omega) (by omega)
     rw [e3]
     refine xE (fun h4=>bad (by omega)) fun h4=>?_
     rw [if_neg (by omega)] at hstep
     have e5:iadd .i64 (k:Int) 1=((k+1:Nat):Int):=by rw [zl _ _ (by omega) (by omega)]; omega
     rw [e5]
     exact hrec _ ⟨m+d,k+1,by push_cast; rfl,hlt,by omega,hstep.symm.trans hg⟩ (by dsimp only; omega)
 · obtain rfl:k=t.length:=by have:(t.length:Int)<=(k:Int):=h; omega
   refine fin ?_
   rw [List.drop_length]
   rfl
noncomputable def goR (fu:Nat) (b:Int) (i:Int) (x:Str):Option (Int×Int×Unit):=
 iter fu (fun (rec1:((Int×(Int×PUnit))×PUnit)->Option (Int×(Int×PUnit))) (s1:((Int×(Int×PUnit))×PUnit))=>
  cond (ilt s1.1.1 (lenI x))
   (cond (inB s1.1.1 (List.length x))
    (Option.bind (c42 ((zD x s1.1.1),())) fun y0=>
     cond (ile b y0.1)
      (cond (ieq s1.1.1 i)
       (some (0,(91,())))
       (cond (inS s1.1.1 (lenI x) (List.length x))
        (Option.bind (c43 ((cutL x s1.1.1 (lenI x)),())) fun y1=>
         cond (!y1.1)
          (some (0,(91,())))
          (some (s1.1.2.1,(0,()))))
        (none)))
      (cond (ine b 0)
       (cond (ilt (iquo .i64 (isub .i64 9223372036854775807 y0.1) b) s1.1.2.1)
        (some (0,(91,())))
        (rec1 (((iadd .i64 s1.1.1 1),((iadd .i64 (imul .i64 s1.1.2.1 b) y0.1),())),())))
       (none)))
    (none))
   (cond (ieq s1.1.1 i)
    (some (0,(91,())))
    (cond (inS s1.1.1 (lenI x) (List.length x))
     (Option.bind (c43 ((cutL x s1.1.1 (lenI x)),())) fun y0=>
      cond (!y0.1)
       (some (0,(91,())))
       (some (s1.1.2.1,(0,()))))
     (none))))
  ((i,(0,())),())
theorem zMN (n:Nat):(digN n=16/\digR n=99)\/(digN n < 16/\digR n=digN n):=by
 unfold digR
 have:=zK1 n
 by_cases h:digN n=16
 · exact .inl ⟨h,if_pos h⟩
 · exact .inr ⟨by omega,if_neg h⟩
theorem zJa (fu:Nat) (b:Nat) (hb:b=8\/b=10\/b=16) (i:Nat) (x:Str) (hi:i<=x.length) (ht:x.length < 1000000) (hfu:x.length < fu):goR fu (b:Int) (i:Int) x=some (numR b (x.drop i)):=by
 unfold goR
 refine zn (fun s=>∃ n k:Nat,s=((((k:Int),((n:Int),())),()):(Int×Int×PUnit)×PUnit)/\i<=k/\k<=x.length/\n < 9223372036854775808/\numG b n (x.drop k)=numG b 0 (x.drop i)) (fun s=>x.length - s.1.1.toNat) ?_ fu _ ⟨0,i,rfl,Nat.le_refl _,hi,by omega,rfl⟩ (by simp; omega)
 rintro rec s ⟨n,k,rfl,hik,hk,hn,hg⟩ hrec
 dsimp only
 have fin:∀ hr:numG b n (x.drop k)=some (n,x.drop k),cond (ieq (k:Int) (i:Int)) (some ((0:Int),((91:Int),()))) (cond (inS (k:Int) (lenI x) (List.length x)) (Option.bind (c43 ((cutL x (k:Int) (lenI x)),())) fun y0=>cond (!y0.1) (some (0,(91,()))) (some ((n:Int),(0,())))) none)=some (numR b (x.drop i)):=fun hr=>by
  unfold numR
  rw [<- hg,hr]
  refine zc (fun h0=>?_) fun h0=>?_
  · obtain rfl:k=i:=by omega
    simp
  · refine zF (ym (by omega) (by show (k:Int)<=(x.length:Int); omega) (Int.le_refl _)) ?_
    rw [zFE]
    refine zK (c43_eq _) ?_
    have h1:¬ (x.drop k).length=(x.drop i).length:=by rw [List.length_drop,List.length_drop]; omega
    dsimp only
    rw [if_neg h1]
    refine zGX (fun h2=>?_) fun h2=>?_
    · rw [h2]; rfl
    · rw [h2,if_pos rfl]
 refine zh (fun h=>?_) fun h=>?_
 · have hlt:k < x.length:=by have:(k:Int) < (x.length:Int):=h; omega
   refine zF (zY (by omega) h) ?_
   rw [zGS x k hlt]
   refine zK (c42_eq _) ?_
   dsimp only
   have hd:=zMN x[k].toNat
   have hstep:numG b n (x.drop k)=if b<=digN x[k].toNat then some (n,x.drop k) else if 9223372036854775808<=n * b+digN x[k].toNat then none else numG b (n * b+digN x[k].toNat) (x.drop (k+1)):=by
    conv=>lhs; rw [List.drop_eq_getElem_cons hlt]
    rw [numG,<- List.drop_eq_getElem_cons hlt]
   generalize digR x[k].toNat=d' at hd ⊢
   generalize digN x[k].toNat=d at hd hstep
   refine xE (fun hbd=>?_) fun hbd=>?_
   · rw [if_pos (by omega)] at hstep
     exact fin hstep
   · rw [if_neg (by omega)] at hstep
     obtain ⟨hd1,rfl⟩:d < 16/\d' = d:=by omega
     refine zF (xI (by omega)) ?_
     have bad:9223372036854775808<=n * b+d'->some ((0:Int),(91:Int),())=some (numR b (x.drop i)):=fun hbad=>by
      rw [if_pos hbad] at hstep
      unfold numR
      rw [<- hg,hstep]
     have e1:isub .i64 9223372036854775807 (d':Int)=9223372036854775807 - (d':Int):=zBx _ _ (by omega) (by omega)
     have e2:∀ c:Int,0 < c->iquo .i64 (9223372036854775807 - (d':Int)) c=(9223372036854775807 - (d':Int)) / c:=fun c hc=>by
      unfold iquo
      rw [Int.tdiv_eq_ediv_of_nonneg (by omega)]
      exact IntWalk.i64_in _ (by
       have h1:0<=(9223372036854775807 - (d':Int)) / c:=Int.ediv_nonneg (by omega) (by omega)
       have h2:(9223372036854775807 - (d':Int)) / c<=9223372036854775807 - (d':Int):=Int.ediv_le_self _ (by omega)
       omega)
     rw [e1,e2 _ (by omega)]
     have e5:iadd .i64 (k:Int) 1=((k+1:Nat):Int):=by rw [zl _ _ (by omega) (by omega)]; omega
     rw [e5]
     have key:(9223372036854775807 - (d':Int)) / (b:Int) < (n:Int)↔9223372036854775808<=n * b+d':=by
      rcases hb with rfl | rfl | rfl <;> omega
     refine zh (fun h1=>bad (key.1 h1)) fun h1=>?_
     have h2:¬ 9223372036854775808<=n * b+d':=fun e=>by have:=key.2 e; omega
     rw [if_neg h2] at hstep
     have e3:imul .i64 (n:Int) (b:Int)=((n * b:Nat):Int):=by
      unfold imul
      rw [<- Int.natCast_mul]
      generalize n * b=m at h2 ⊢
      exact IntWalk.i64_in _ (by omega)
     rw [e3]
     generalize n * b=m at hstep bad h2 ⊢
     have e4:iadd .i64 (m:Int) (d':Int)=((m+d':Nat):Int):=by rw [zl _ _ (by omega) (by omega)]; omega
     rw [e4]
     exact hrec _ ⟨m+d',k+1,rfl,by omega,hlt,by omega,hstep.symm.trans hg⟩ (by dsimp only; omega)
 · obtain rfl:k=x.length:=by have:(x.length:Int)<=(k:Int):=h; omega
   refine fin ?_
   rw [List.drop_length]
   rfl
end
section
open Go.Al Go.Den
abbrev NR:=Option (Int×Int×Unit)
def zH8 (g8 g10:NR) (x:Str):NR:=
 cond (ile (lenI (α:=UInt8) [48]) (lenI x)) (cond (inS 0 (lenI (α:=UInt8) [48]) (List.length x)) (cond (seq (cutL x 0 (lenI (α:=UInt8) [48])) [48]) g8 g10) none) g10
def zLX (g16 g8 g10:NR) (x:Str):NR:=
 cond (ile (lenI (α:=UInt8) [48,88]) (lenI x)) (cond (inS 0 (lenI (α:=UInt8) [48,88]) (List.length x)) (cond (seq (cutL x 0 (lenI (α:=UInt8) [48,88])) [48,88]) (cond (inS 2 (lenI x) (List.length x)) g16 none) (zH8 g8 g10 x)) none) (zH8 g8 g10 x)
def zGz (g16 g8 g10:NR) (x:Str):NR:=
 cond (ile (lenI (α:=UInt8) [48,120]) (lenI x)) (cond (inS 0 (lenI (α:=UInt8) [48,120]) (List.length x)) (cond (seq (cutL x 0 (lenI (α:=UInt8) [48,120])) [48,120]) (cond (inS 2 (lenI x) (List.length x)) g16 none) (zLX g16 g8 g10 x)) none) (zLX g16 g8 g10 x)
theorem zM1 (fu:Nat) (x:Str):c13 fu (x,())=zGz (goP fu 16 (cutL x 2 (lenI x))) (goP fu 8 x) (goP fu 10 x) x:=by kernel_rfl
noncomputable def c14 (fu:Nat) (x:Str×Unit):Option (Int×Int×Unit):=sh14 fu c42 c43 (fun _=>false) x.1
theorem ok14 (fu:Nat):ConOk CC Tryd.prog 14 ⟨as14,rs14,c14 fu⟩:=con14 fu c42 ok42 c43 ok43
def zGT (g8 g10:NR) (x:Str):NR:=
 cond (ile 1 (lenI x)) (cond (inB 0 (List.length x)) (cond (ieq (zD x 0) 48) g8 g10) none) g10
def zEH (g16 g8 g10:NR) (x:Str):NR:=
 cond (ile 2 (lenI x)) (cond (inB 0 (List.length x)) (cond (ieq (zD x 0) 48) (cond (inB 1 (List.length x)) (cond (ieq (zD x 1) 120) g16 (cond (inB 1 (List.length x)) (cond (ieq (zD x 1) 88) g16 (zGT g8 g10 x)) none)) none) (zGT g8 g10 x)) none) (zGT g8 g10 x)
theorem zMa (fu:Nat) (x:Str):c14 fu (x,())=zEH (goR fu 16 2 x) (goR fu 8 0 x) (goR fu 10 0 x) x:=by kernel_rfl
def numS:Str->Int×Int×Unit
 | []=>numR 10 []
 | [a]=>if a=48 then numR 8 [a] else numR 10 [a]
 | a::b::r=>if a=48 then (if b=120\/b=88 then numR 16 r else numR 8 (a::b::r)) else numR 10 (a::b::r)
theorem zIB {a b:Str} (h:seq a b=true):a=b:=by rw [xt] at h; exact of_decide_eq_true h
theorem zIA {a b:Str} (h:seq a b=false):a≠b:=by rw [xt] at h; exact of_decide_eq_false h
theorem zBr {a b:UInt8} (h:((a.toNat:Nat):Int)=((b.toNat:Nat):Int)):a=b:=UInt8.toNat_inj.1 (by omega)
theorem zLd (x:Str):zGz (some (numR 16 (x.drop 2))) (some (numR 8 x)) (some (numR 10 x)) x=some (numS x):=by
 match x with
 | []=>rfl
 | [a]=>
  show cond (seq [a] [48]) (some (numR 8 [a])) (some (numR 10 [a]))=_
  refine qf (fun h=>?_) fun h=>?_
  · have:=zIB h
    injection this with e _
    rw [numS,if_pos e]
  · rw [numS,if_neg fun e=>zIA h (by rw [e])]
 | a::b::r=>
  have hl:lenI (a::b::r)=((r.length:Nat):Int)+2:=by show ((r.length+1+1:Nat):Int)=_; omega
  have hs:inS 2 (lenI (a::b::r)) (List.length (a::b::r))=true:=ym (by omega) (by omega) (Int.le_refl _)
  have hend:(a=48->b≠120/\b≠88)->zH8 (some (numR 8 (a::b::r))) (some (numR 10 (a::b::r))) (a::b::r)=some (numS (a::b::r)):=fun hh=>by
   unfold zH8
   refine zF (qr (by show (1:Int)<=_; omega)) ?_
   refine zF (ym (by omega) (by show (0:Int)<=1; omega) (by show (1:Int)<=((r.length+1+1:Nat):Int); omega)) ?_
   show cond (seq [a] [48]) _ _=_
   refine qf (fun h=>?_) fun h=>?_
   · have:=zIB h
     injection this with e _
     rw [numS,if_pos e,if_neg fun e2=>by rcases e2 with e2 | e2; exact (hh e).1 e2; exact (hh e).2 e2]
   · rw [numS,if_neg fun e=>zIA h (by rw [e])]
  unfold zGz
  refine zF (qr (by show (2:Int)<=_; omega)) ?_
  refine zF (ym (by omega) (by show (0:Int)<=2; omega) (by show (2:Int)<=((r.length+1+1:Nat):Int); omega)) ?_
  show cond (seq [a,b] [48,120]) _ _=_
  refine qf (fun h=>?_) fun h=>?_
  · have:=zIB h
    injection this with e e1
    injection e1 with e1 _
    refine zF hs ?_
    rw [numS,if_pos e,if_pos (.inl e1)]; rfl
  unfold zLX
  refine zF (qr (by show (2:Int)<=_; omega)) ?_
  refine zF (ym (by omega) (by show (0:Int)<=2; omega) (by show (2:Int)<=((r.length+1+1:Nat):Int); omega)) ?_
  show cond (seq [a,b] [48,88]) _ _=_
  refine qf (fun h2=>?_) fun h2=>?_
  · have:=zIB h2
    injection this with e e1
    injection e1 with e1 _
    refine zF hs ?_
    rw [numS,if_pos e,if_pos (.inr e1)]; rfl
  exact hend fun e=>⟨fun e1=>zIA h (by rw [e,e1]),fun e1=>zIA h2 (by rw [e,e1])⟩
theorem zFn (x:Str):zEH (some (numR 16 (x.drop 2))) (some (numR 8 x)) (some (numR 10 x)) x=some (numS x):=by
 match x with
 | []=>rfl
 | [a]=>
  show cond (ieq ((a.toNat:Nat):Int) 48) (some (numR 8 [a])) (some (numR 10 [a]))=_
  refine zc (fun h=>?_) fun h=>?_
  · rw [numS,if_pos (zBr (b:=48) h)]
  · rw [numS,if_neg fun e=>h (by rw [e]; rfl)]
 | a::b::r=>
  have hl:lenI (a::b::r)=((r.length:Nat):Int)+2:=by show ((r.length+1+1:Nat):Int)=_; omega
  have hb0:inB 0 (List.length (a::b::r))=true:=zY (by omega) (by show (0:Int) < ((r.length+1+1:Nat):Int); omega)
  have hb1:inB 1 (List.length (a::b::r))=true:=zY (by omega) (by show (1:Int) < ((r.length+1+1:Nat):Int); omega)
  have hend:(a=48->b≠120/\b≠88)->zGT (some (numR 8 (a::b::r))) (some (numR 10 (a::b::r))) (a::b::r)=some (numS (a::b::r)):=fun hh=>by
   unfold zGT
   refine zF (qr (by omega)) (zF hb0 ?_)
   show cond (ieq ((a.toNat:Nat):Int) 48) _ _=_
   refine zc (fun h=>?_) fun h=>?_
   · have e:=zBr (b:=48) h
     rw [numS,if_pos e,if_neg fun e2=>by rcases e2 with e2 | e2; exact (hh e).1 e2; exact (hh e).2 e2]
   · rw [numS,if_neg fun e=>h (by rw [e]; rfl)]
  unfold zEH
  refine zF (qr (by omega)) (zF hb0 ?_)
  show cond (ieq ((a.toNat:Nat):Int) 48) _ _=_
  refine zc (fun h=>?_) fun h=>?_
  · have e:=zBr (b:=48) h
    refine zF hb1 ?_
    show cond (ieq ((b.toNat:Nat):Int) 120) _ _=_
    refine zc (fun h=>?_) fun h=>?_
    · rw [numS,if_pos e,if_pos (.inl (zBr (b:=120) h))]; rfl
    refine zF hb1 ?_
    show cond (ieq ((b.toNat:Nat):Int) 88) _ _=_
    refine zc (fun h2=>?_) fun h2=>?_
    · rw [numS,if_pos e,if_pos (.inr (zBr (b:=88) h2))]; rfl
    exact hend fun _=>⟨fun e1=>h (by rw [e1]; rfl),fun e1=>h2 (by rw [e1]; rfl)⟩
  · exact hend fun e=>absurd (by rw [e]; rfl) h
theorem c13_eq (fu:Nat) (x:Str) (hx:x.length < 1000000) (hfu:x.length < fu):c13 fu (x,())=some (numS x):=by
 rw [zM1]
 have h2:cutL x 2 (lenI x)=x.drop 2:=zFE x 2
 rw [h2,show goP fu 16 (x.drop 2)=_ from zIf fu 16 (.inr (.inr rfl)) _ (by simp; omega) (by simp; omega),show goP fu 8 x=_ from zIf fu 8 (.inl rfl) _ hx hfu,show goP fu 10 x=_ from zIf fu 10 (.inr (.inl rfl)) _ hx hfu]
 exact zLd x
theorem c14_eq (fu:Nat) (x:Str) (hx:x.length < 1000000) (hfu:x.length < fu):c14 fu (x,())=some (numS x):=by
 rw [zMa]
 rw [show goR fu 8 0 x=_ from zJa fu 8 (.inl rfl) 0 _ (Nat.zero_le _) hx hfu,show goR fu 10 0 x=_ from zJa fu 10 (.inr (.inl rfl)) 0 _ (Nat.zero_le _) hx hfu,List.drop_zero]
 by_cases h2:2<=x.length
 · rw [show goR fu 16 2 x=_ from zJa fu 16 (.inr (.inr rfl)) 2 _ h2 hx hfu]
   exact zFn x
 · have h3:=zFn x
   unfold zEH at h3 ⊢
   rw [zEY (by show (x.length:Int) < 2; omega)] at h3 ⊢
   exact h3
end
section
open Go.Al Go.Den
theorem k1:c18 60 60 60 ([49,32,43,32,50],())=some (3,()):=by kernel_rfl
theorem zMF:c8 60 60 60 ()=some (true,()):=by kernel_rfl
end
section
open Go.Al Go.Den
noncomputable def c16 (x:Str×Unit):Option (Int×Int×Unit):=sh16 0 (fun _=>false) x.1
theorem ok16:ConOk CC Tryd.prog 16 ⟨as16,rs16,c16⟩:=con16 0
def yu:NR:=some (0,(91,()))
def quo3 (a b c:UInt8):NR:=cond (ine (a.toNat:Int) 39) yu (cond (ine (c.toNat:Int) 39) yu (cond (ine (b.toNat:Int) 92) (some (zR .i64 (b.toNat:Int),(0,()))) yu))
theorem c15_3 (a b c:UInt8):c15 ([a,b,c],())=quo3 a b c:=by kernel_rfl
theorem c16_3 (a b c:UInt8):c16 ([a,b,c],())=quo3 a b c:=by
 have h:c16 ([a,b,c],())=cond (ine (a.toNat:Int) 39) yu (cond (ine (c.toNat:Int) 39) yu (cond (ine (b.toNat:Int) 92) (some (zR .i64 (b.toNat:Int),(0,()))) yu)):=by kernel_rfl
 exact h
def quo4 (a b d:UInt8) (e:NR):NR:=cond (ine (a.toNat:Int) 39) yu (cond (ine (d.toNat:Int) 39) yu (cond (ine (b.toNat:Int) 92) yu e))
def zIC (c:Int):NR:=
 Option.bind (c44 ([110,116,114,48,97,98,102,118],(c,()))) fun y0=>
  cond (ile 0 y0.1)
   (cond (inB y0.1 8)
    (some ((zR .i64 (zD [10,9,13,0,7,8,12,11] y0.1)),(0,())))
    (none))
   (Option.bind (c44 ([92,39,34,63],(c,()))) fun y1=>
    cond (ilt y1.1 0)
     (some (0,(91,())))
     (some ((zR .i64 c),(0,()))))
theorem c15_4 (a b c d:UInt8):c15 ([a,b,c,d],())=quo4 a b d (zIC (c.toNat:Int)):=by kernel_rfl
def zEL (c:Int):NR:=
 cond (ieq c 110) (some (10,(0,()))) (cond (ieq c 116) (some (9,(0,()))) (cond (ieq c 114) (some (13,(0,()))) (cond (ieq c 48) (some (0,(0,()))) (cond (ieq c 97) (some (7,(0,()))) (cond (ieq c 98) (some (8,(0,()))) (cond (ieq c 102) (some (12,(0,()))) (cond (ieq c 118) (some (11,(0,()))) (cond (ieq c 92) (some ((zR .i64 c),(0,()))) (cond (ieq c 39) (some ((zR .i64 c),(0,()))) (cond (ieq c 34) (some ((zR .i64 c),(0,()))) (cond (ieq c 63) (some ((zR .i64 c),(0,()))) (some (0,(91,()))))))))))))))
theorem c16_4 (a b c d:UInt8):c16 ([a,b,c,d],())=quo4 a b d (zEL (c.toNat:Int)):=by kernel_rfl
theorem zPv:((List.range 256).all fun n=>decide (zIC (n:Int)=zEL (n:Int)))=true:=by kernel_rfl
theorem esc_eq (c:UInt8):zIC (c.toNat:Int)=zEL (c.toNat:Int):=by
 have h:decide (zIC (c.toNat:Int)=zEL (c.toNat:Int))=true:=List.all_eq_true.1 zPv c.toNat (List.mem_range.2 c.toNat_lt)
 exact of_decide_eq_true h
theorem zN2 (x:Str) (h:4 < x.length) (hx:x.length < 1000000):c15 (x,())=yu:=by
 show sh15 0 c44 (fun _=>false) x=yu
 unfold sh15
 have e1:isub .i64 (lenI x) 1=(x.length:Int) - 1:=zBx _ _ (by show _<=(x.length:Int) - 1; omega) (by show (x.length:Int) - 1<=_; omega)
 have e2:lenI (cutL x 1 ((x.length:Int) - 1))=(x.length:Int) - 2:=by
  unfold cutL lenI
  rw [List.length_drop,List.length_take]
  omega
 rw [e1,e2]
 refine zE (z6 (by show (3:Int)<=(x.length:Int); omega)) ?_
 refine zF (zY (by omega) (by omega)) ?_
 refine xD (fun _=>rfl) fun _=>?_
 refine zF (zY (by omega) (by omega)) ?_
 refine xD (fun _=>rfl) fun _=>?_
 refine zF (ym (by omega) (by omega) (by omega)) ?_
 refine zE (z7 (by omega)) ?_
 exact zF (xI (by omega)) rfl
theorem zJ3 (x:Str) (h:4 < x.length):c16 (x,())=yu:=by
 show sh16 0 (fun _=>false) x=yu
 unfold sh16
 refine zE (z6 (by show (3:Int)<=(x.length:Int); omega)) ?_
 exact zF (ya (by show (4:Int) < (x.length:Int); omega)) rfl
theorem zNr (x:Str) (hx:x.length < 1000000):c15 (x,())=c16 (x,())/\∃ y,c16 (x,())=some y:=by
 have d:∀ (c:Bool) (a b:NR),(∃ y,a=some y)->(∃ y,b=some y)->∃ y,cond c a b=some y:=fun c a b h1 h2=>by cases c <;> assumption
 have hb:∃ y,yu=some y:=⟨_,rfl⟩
 match x,hx with
 | [],_=>exact ⟨(show c15 ([],())=c16 ([],()) by kernel_rfl),_,(show c16 ([],())=yu by kernel_rfl)⟩
 | [a],_=>exact ⟨(show c15 ([a],())=c16 ([a],()) by kernel_rfl),_,(show c16 ([a],())=yu by kernel_rfl)⟩
 | [a,b],_=>exact ⟨(show c15 ([a,b],())=c16 ([a,b],()) by kernel_rfl),_,(show c16 ([a,b],())=yu by kernel_rfl)⟩
 | [a,b,c],_=>
  rw [c15_3,c16_3]
  exact ⟨rfl,d _ _ _ hb (d _ _ _ hb (d _ _ _ ⟨_,rfl⟩ hb))⟩
 | [a,b,c,e],_=>
  rw [c15_4,c16_4,esc_eq]
  refine ⟨rfl,d _ _ _ hb (d _ _ _ hb (d _ _ _ hb ?_))⟩
  unfold zEL
  repeat' (first | exact ⟨_,rfl⟩ | refine d _ _ _ ?_ ?_)
 | a::b::c::e::f::r,hx=>
  have h:4 < (a::b::c::e::f::r).length:=by simp only [List.length_cons]; omega
  rw [zN2 _ h hx,zJ3 _ h]
  exact ⟨rfl,hb⟩
def c8t (_:Unit):Option (Bool×Unit):=some (true,())
theorem ok8t:ConOk CC Tryd.prog 8 ⟨as8,rs8,c8t⟩:=by
 refine (ok8 60 60 60).sub ?_
 intro u y hy
 obtain rfl:y=(true,()):=by injection hy with hy; exact hy.symm
 obtain rfl:u=():=rfl
 exact zMF
end
section
open Go.Al Go.Den
def hd:Str->Int
 | []=>0
 | c::_=>(c.toNat:Int)
def letP (z:Int):Prop:=z=95\/(97<=z/\z<=122)\/(65<=z/\z<=90)
def digP (z:Int):Prop:=48<=z/\z<=57
def expP (z:Int):Prop:=z=101\/z=69\/z=112\/z=80
instance (z:Int):Decidable (letP z):=by unfold letP; exact inferInstance
instance (z:Int):Decidable (digP z):=by unfold digP; exact inferInstance
instance (z:Int):Decidable (expP z):=by unfold expP; exact inferInstance
def qH:Str->Nat
 | []=>0
 | c::r=>if letP (c.toNat:Int)\/digP (c.toNat:Int) then qH r+1 else 0
def yw:Str->Nat
 | []=>0
 | c::r=>if letP (c.toNat:Int) then qH r+1 else 0
theorem zJz (r:Str):qH r=if letP (hd r)\/digP (hd r) then qH (r.drop 1)+1 else 0:=by
 cases r with
 | nil=>rfl
 | cons c r=>rfl
theorem zIR (r:Str):yw r=if letP (hd r) then qH (r.drop 1)+1 else 0:=by
 cases r with
 | nil=>rfl
 | cons c r=>rfl
theorem zLf {r:Str} (h:hd r≠0):∃ c q,r=c::q:=by
 cases r with
 | nil=>exact absurd rfl h
 | cons c q=>exact ⟨c,q,rfl⟩
theorem zJE:∀ r:Str,qH r<=r.length
 | []=>Nat.le_refl _
 | c::r=>by
  have:=zJE r
  unfold qH
  split <;> simp only [List.length_cons] <;> omega
theorem zOS:∀ r:Str,yw r<=r.length
 | []=>Nat.le_refl _
 | c::r=>by
  have:=zJE r
  show (if letP (c.toNat:Int) then qH r+1 else 0)<=_
  split <;> simp only [List.length_cons] <;> omega
def aldP (z:Int):Prop:=letP z\/digP z\/z=46
instance (z:Int):Decidable (aldP z):=by unfold aldP; exact inferInstance
def numT:Str->Nat
 | []=>0
 | [c]=>if aldP (c.toNat:Int) then 1 else 0
 | c::d::r=>if expP (c.toNat:Int)/\((d.toNat:Int)=43\/(d.toNat:Int)=45) then numT r+2 else if aldP (c.toNat:Int) then numT (d::r)+1 else 0
theorem zKz (r:Str):numT r=if expP (hd r)/\(hd (r.drop 1)=43\/hd (r.drop 1)=45) then numT (r.drop 2)+2 else if aldP (hd r) then numT (r.drop 1)+1 else 0:=by
 match r with
 | []=>rfl
 | [c]=>
  have h:¬ (expP (hd [c])/\(hd (([c]:Str).drop 1)=43\/hd (([c]:Str).drop 1)=45)):=fun h=>by
   rcases h.2 with h | h
   · exact absurd (show (0:Int)=43 from h) (by omega)
   · exact absurd (show (0:Int)=45 from h) (by omega)
  rw [if_neg h]
  rfl
 | c::d::r=>rfl
theorem zHD:∀ r:Str,numT r<=r.length
 | []=>Nat.le_refl _
 | [c]=>by unfold numT; split <;> simp only [List.length_cons,List.length_nil] <;> omega
 | c::d::r=>by
  have h1:=zHD r
  have h2:=zHD (d::r)
  unfold numT
  simp only [List.length_cons] at h2 ⊢
  split
  · omega
  · split <;> omega
def numL (r:Str):Nat:=if digP (hd r)\/(hd r=46/\digP (hd (r.drop 1))) then numT (r.drop 1)+1 else 0
theorem zP7 (r:Str):numL r<=r.length:=by
 unfold numL
 split
 · rename_i h
   have h0:hd r≠0:=by unfold digP at h; omega
   obtain ⟨c,q,rfl⟩:=zLf h0
   have:=zHD q
   simp only [List.drop_succ_cons,List.drop_zero,List.length_cons]
   omega
 · omega
def quoT (q:Int):Nat->Str->Nat
 | _,[]=>0
 | n,[c]=>if (c.toNat:Int)=q then (if q=39/\n=1 then 0 else n+1) else 0
 | n,c::d::r=>if (c.toNat:Int)=q then (if q=39/\n=1 then 0 else n+1) else if (c.toNat:Int)=10 then 0 else if (c.toNat:Int)=92 then (if (d.toNat:Int)=10 then 0 else quoT q (n+2) r) else quoT q (n+1) (d::r)
theorem zKy (q:Int) (n:Nat) (r:Str) (hr:r≠[]):quoT q n r=if hd r=q then (if q=39/\n=1 then 0 else n+1) else if hd r=10 then 0 else if hd r=92 then (if hd (r.drop 1)=10 then 0 else quoT q (n+2) (r.drop 2)) else quoT q (n+1) (r.drop 1):=by
 match r,hr with
 | [c],_=>
  show (if (c.toNat:Int)=q then _ else 0)=if (c.toNat:Int)=q then _ else if (c.toNat:Int)=10 then 0 else if (c.toNat:Int)=92 then (if (0:Int)=10 then 0 else 0) else 0
  simp
 | c::d::r,_=>rfl
theorem zGv (q:Int):∀ (n:Nat) (r:Str),quoT q n r<=n+r.length
 | _,[]=>Nat.zero_le _
 | n,[c]=>by unfold quoT; simp only [List.length_cons,List.length_nil]; split; (split <;> omega); omega
 | n,c::d::r=>by
  have h1:=zGv q (n+2) r
  have h2:=zGv q (n+1) (d::r)
  unfold quoT
  simp only [List.length_cons] at h2 ⊢
  split
  · split <;> omega
  · split
    · omega
    · split
      · split <;> omega
      · omega
def quoL (q:Int) (r:Str):Nat:=if hd r=q then quoT q 1 (r.drop 1) else 0
theorem zKt (q:Int) (hq:q≠0) (r:Str):quoL q r<=r.length:=by
 unfold quoL
 split
 · rename_i h
   obtain ⟨c,p,rfl⟩:=zLf (r:=r) (by rw [h]; exact hq)
   have:=zGv q 1 p
   simp only [List.drop_succ_cons,List.drop_zero,List.length_cons]
   omega
 · omega
def qt:List Str->Nat->Str->Nat
 | [],n,_=>n
 | t::l,n,r=>qt l (if t.length<=n then n else if t.isPrefixOf r then t.length else n) r
def x8 (r:Str):Nat:=qt signsL 0 r
theorem zJ7 (r:Str):∀ (l:List Str) (n:Nat),n<=r.length->qt l n r<=r.length
 | [],n,h=>h
 | t::l,n,h=>zJ7 r l _ (by
  split
  · exact h
  · split
    · rename_i hp; exact (List.isPrefixOf_iff_prefix.1 hp).length_le
    · exact h)
theorem zJV (r:Str):x8 r<=r.length:=zJ7 r _ 0 (Nat.zero_le _)
def blaL (r:Str):Nat:=
 if hd r=32\/hd r=9\/hd r=11\/hd r=12\/hd r=13 then 1
 else if ([47,47]:Str).isPrefixOf r then (if Lib.indexByte r 10 < 0 then r.length else (Lib.indexByte r 10).toNat)
 else if ([47,42]:Str).isPrefixOf r then (if Lib.index (r.drop 2) [42,47] < 0 then 0 else (Lib.index (r.drop 2) [42,47]).toNat+4)
 else 0
def yE (r:Str):Int×Nat:=
 if hd r=10 then (7,1)
 else if 0 < yw r then (1,yw r)
 else if 0 < numL r then (2,numL r)
 else if 0 < quoL 34 r then (4,quoL 34 r)
 else if 0 < quoL 39 r then (3,quoL 39 r)
 else if 0 < x8 r then (5,x8 r)
 else (6,1)
theorem zHO (P:Int×Nat->Prop) (r:Str) (h0:hd r=10->P (7,1)) (h1:0 < yw r->P (1,yw r)) (h2:0 < numL r->P (2,numL r)) (h3:0 < quoL 34 r->P (4,quoL 34 r)) (h4:0 < quoL 39 r->P (3,quoL 39 r)) (h5:0 < x8 r->P (5,x8 r)) (h6:P (6,1)):P (yE r):=by
 unfold yE
 split
 · rename_i h; exact h0 h
 split
 · rename_i h; exact h1 h
 split
 · rename_i h; exact h2 h
 split
 · rename_i h; exact h3 h
 split
 · rename_i h; exact h4 h
 split
 · rename_i h; exact h5 h
 · exact h6
theorem kR (r:Str):0 < (yE r).2:=by
 refine zHO (fun x=>0 < x.2) r (fun _=>?_) (fun h=>?_) (fun h=>?_) (fun h=>?_) (fun h=>?_) (fun h=>?_) ?_
 · show (0:Nat) < 1; omega
 · dsimp only; exact h
 · dsimp only; exact h
 · dsimp only; exact h
 · dsimp only; exact h
 · dsimp only; exact h
 · show (0:Nat) < 1; omega
theorem zEq (r:Str) (hr:r≠[]):(yE r).2<=r.length:=by
 have h0:1<=r.length:=by cases r with
  | nil=>exact absurd rfl hr
  | cons c q=>simp
 refine zHO (fun x=>x.2<=r.length) r (fun _=>?_) (fun h=>?_) (fun h=>?_) (fun h=>?_) (fun h=>?_) (fun h=>?_) ?_
 · show 1<=r.length; exact h0
 · dsimp only; exact zOS r
 · dsimp only; exact zP7 r
 · dsimp only; exact zKt 34 (by omega) r
 · dsimp only; exact zKt 39 (by omega) r
 · dsimp only; exact zJV r
 · show 1<=r.length; exact h0
def lexF (file:Int) (cs:List CharT):Nat->Str->Nat->Bool->List TokT
 | 0,_,_,_=>[]
 | f+1,r,i,b=>if r=[] then [] else if 0 < blaL r then lexF file cs f (r.drop (blaL r)) (i+blaL r) true
  else ⟨(yE r).1,r.take (yE r).2,file,(cs.getD i yX).fat,(cs.getD (i+(yE r).2 - 1) yX).fat+1,b⟩::lexF file cs f (r.drop (yE r).2) (i+(yE r).2) false
theorem zFD:∀ (s sub:List UInt8),0<=Lib.index s sub->Lib.index s sub+sub.length<=s.length
 | [],sub,h=>by
  unfold Lib.index at h ⊢
  cases sub with
  | nil=>simp
  | cons a l=>simp at h
 | b::l,sub,h=>by
  unfold Lib.index at h ⊢
  by_cases hp:sub.isPrefixOf (b::l)=true
  · rw [if_pos hp]
    have:=(List.isPrefixOf_iff_prefix.1 hp).length_le
    omega
  · rw [if_neg hp] at h ⊢
    by_cases h1:(Lib.index l sub == -1)=true
    · rw [if_pos h1] at h; omega
    · rw [if_neg h1] at h ⊢
      have h2:Lib.index l sub≠-1:=fun e=>h1 (by rw [e]; rfl)
      have h3:=Lib.index_ge l sub
      have h4:=zFD l sub (by omega)
      simp only [List.length_cons]
      omega
theorem zDx:∀ (s:List UInt8) (c:UInt8),0<=Lib.indexByte s c->Lib.indexByte s c < s.length
 | [],c,h=>by unfold Lib.indexByte at h; omega
 | b::l,c,h=>by
  unfold Lib.indexByte at h ⊢
  by_cases hp:(b == c)=true
  · rw [if_pos hp]; simp only [List.length_cons]; omega
  · rw [if_neg hp] at h ⊢
    by_cases h1:(Lib.indexByte l c == -1)=true
    · rw [if_pos h1] at h; omega
    · rw [if_neg h1] at h ⊢
      have h2:Lib.indexByte l c≠-1:=fun e=>h1 (by rw [e]; rfl)
      have h3:=Lib.indexByte_ge l c
      have h4:=zDx l c (by omega)
      simp only [List.length_cons]
      omega
theorem zGn {s:List UInt8} {c:UInt8} (h:Lib.indexByte s c=0):s.head? = some c:=by
 cases s with
 | nil=>unfold Lib.indexByte at h; omega
 | cons b l=>
  unfold Lib.indexByte at h
  by_cases hp:(b == c)=true
  · have:=eq_of_beq hp; rw [this]; rfl
  · rw [if_neg hp] at h
    by_cases h1:(Lib.indexByte l c == -1)=true
    · rw [if_pos h1] at h; omega
    · rw [if_neg h1] at h
      have h2:Lib.indexByte l c≠-1:=fun e=>h1 (by rw [e]; rfl)
      have h3:=Lib.indexByte_ge l c
      omega
theorem zGx (r:Str):blaL r<=r.length:=by
 unfold blaL
 split
 · rename_i h
   obtain ⟨c,q,rfl⟩:=zLf (r:=r) (by omega)
   simp
 split
 · split
   · exact Nat.le_refl _
   · have:=zDx r 10 (by omega)
     omega
 split
 · rename_i hp
   have h2:=(List.isPrefixOf_iff_prefix.1 hp).length_le
   have h3:(2:Nat)<=r.length:=h2
   split
   · omega
   · have:=zFD (r.drop 2) [42,47] (by omega)
     rw [List.length_drop] at this
     have e:(([42,47]:Str).length:Int)=2:=rfl
     rw [e] at this
     omega
 · omega
end
section
open Go.Al Go.Den
theorem zIV (s:Str) (j:Nat):kq s (j:Int)=hd (s.drop j):=by
 unfold kq
 split
 · rename_i h
   have hj:j < s.length:=by omega
   rw [zD,Int.toNat_natCast,List.drop_eq_getElem_cons hj,List.getD_eq_getElem?_getD,List.getElem?_eq_getElem hj]
   rfl
 · rename_i h
   rw [List.drop_eq_nil_of_le (by omega)]; rfl
theorem zBw {s:Str} {j:Nat} (h:hd (s.drop j)≠0):j < s.length:=by
 rcases Nat.lt_or_ge j s.length with h1 | h1
 · exact h1
 · rw [List.drop_eq_nil_of_le h1] at h; exact absurd rfl h
theorem zGi (r:Str):∃ c:UInt8,hd r=(c.toNat:Int):=by
 cases r with
 | nil=>exact ⟨0,rfl⟩
 | cons c q=>exact ⟨c,rfl⟩
theorem hd_nn (r:Str):0<=hd r:=by obtain ⟨c,h⟩:=zGi r; rw [h]; omega
theorem zB0 {α:Type} (s:List α) (p:Nat):cutL s (p:Int) (lenI s)=s.drop p:=by
 unfold cutL lenI
 rw [Int.toNat_natCast,Int.toNat_natCast,List.take_length]
theorem zOT {α:Type} (s:List α) (n:Nat):cutL s 0 (n:Int)=s.take n:=by
 unfold cutL
 rw [Int.toNat_natCast]; rfl
abbrev RO (α:Type):=Option (Option ((RdT×Unit)×α))
theorem jy {β:Type} {s:Str} {p:Int} {v:β} {o:RO β} (h:o=some (some (((s,p,()),()),v))):outD s o=some (v,p):=by rw [h]; exact if_pos rfl
def sh62L (l:List Str) (fu:Nat) (c57:(Str×Unit)->Str->Int->(Option ((Bool×Unit)×Int))) (x:((Str×(Int×Unit))×Unit)) (a:Unit):(Option (Option (((Str×(Int×Unit))×Unit)×(Int×Unit)))):=iter fu (fun (rec1:((Int×(Int×Unit))×((Str×(Int×Unit))×Unit))->Option (Option (((Str×(Int×Unit))×Unit)×(Int×Unit)))) (s1:((Int×(Int×Unit))×((Str×(Int×Unit))×Unit)))=>cond (ilt s1.1.2.1 48) (cond (inB s1.1.2.1 48) (cond (ile (lenI (α:=UInt8) (List.getD l (Int.toNat s1.1.2.1) [])) s1.1.1) (rec1 ((s1.1.1,((iadd .i64 s1.1.2.1 1),())),((s1.2.1.1,(s1.2.1.2.1,())),()))) (Option.bind (c57 ((List.getD l (Int.toNat s1.1.2.1) []),()) s1.2.1.1 s1.2.1.2.1) fun y0=>cond (!y0.1.1) (rec1 ((s1.1.1,((iadd .i64 s1.1.2.1 1),())),((s1.2.1.1,(y0.2,())),()))) (rec1 (((lenI (α:=UInt8) (List.getD l (Int.toNat s1.1.2.1) [])),((iadd .i64 s1.1.2.1 1),())),((s1.2.1.1,(y0.2,())),()))))) (none)) (some (some (((s1.2.1.1,(s1.2.1.2.1,())),()),(s1.1.1,()))))) ((0,(0,())),((x.1.1,(x.1.2.1,())),()))
theorem sh62_L (fu:Nat) (c57:(Str×PUnit)->Str->Int->(Option ((Bool×PUnit)×Int))) (x:((Str×(Int×PUnit))×PUnit)) (a:PUnit):sh62 fu c57 x a=sh62L signsL fu c57 x a:=by kernel_rfl
section
variable {s:Str} {p k:Nat} {fu:Nat}
theorem e56 (hs:s.length<=1090000) (hp:p+k<=2000000):c56 ((k:Int),()) s (p:Int)=some (hd (s.drop (p+k)),()):=by
 have h:c56 ((k:Int),()) s (p:Int)=some (kq s ((p:Int)+(k:Int)),()):=if_pos ⟨by show (0:Int)<=p+k; omega,by show ((p:Int)+k) < _; omega,by omega⟩
 rw [h,<- Int.natCast_add,zIV]
theorem i1 (hk:k<=2000000):iadd .i64 (k:Int) 1=((k+1:Nat):Int):=by rw [zl _ _ (by omega) (by omega)]; omega
def expB:Str:=[101,69,112,80]
theorem zQF:((List.range 256).all fun n=>decide ((0<=Lib.indexByte expB (UInt8.ofNat n))↔expP (n:Int)))=true:=by kernel_rfl
theorem e44x (r:Str):∃ v:Int,c44 (expB,(hd r,()))=some (v,())/\(0<=v↔expP (hd r)):=by
 obtain ⟨c,hc⟩:=zGi r
 refine ⟨_,rfl,?_⟩
 have h:decide ((0<=Lib.indexByte expB (UInt8.ofNat c.toNat))↔expP (c.toNat:Int))=true:=List.all_eq_true.1 zQF c.toNat (List.mem_range.2 c.toNat_lt)
 have h2:=of_decide_eq_true h
 rw [hc]
 exact h2
variable (hs:s.length<=1090000) (hfu:s.length+100 < fu) (hp:p<=s.length)
include hs hfu hp
theorem e59:c59 fu () s (p:Int)=some ((((yw (s.drop p):Nat):Int),()),(p:Int)):=by
 refine jy (o:=sh59 fu c56 ((s,((p:Int),())),()) ()) ?_
 unfold sh59
 refine zn (fun st=>∃ k:Nat,st=((((k:Int),()),((s,((p:Int),())),())):(Int×PUnit)×(Str×Int×PUnit)×PUnit)/\p+k<=s.length/\yw (s.drop p)=k+(if k=0 then yw (s.drop (p+k)) else qH (s.drop (p+k)))) (fun st=>s.length - st.1.1.toNat) ?_ fu _ ⟨0,rfl,by omega,by simp⟩ (by dsimp only; omega)
 rintro rec st ⟨k,rfl,hk,hw⟩ hrec
 dsimp only
 have hc:c56 ((k:Int),()) s (p:Int)=some (hd (s.drop (p+k)),()):=e56 hs (by omega)
 have hz:=hd_nn (s.drop (p+k))
 have hstep:(if k=0 then yw (s.drop (p+k)) else qH (s.drop (p+k)))=if letP (hd (s.drop (p+k)))\/(0 < k/\digP (hd (s.drop (p+k)))) then qH (s.drop (p+k+1))+1 else 0:=by
  by_cases h0:k=0
  · subst h0
    rw [if_pos rfl,zIR,List.drop_drop]
    by_cases h1:letP (hd (s.drop (p+0)))
    · rw [if_pos h1,if_pos (.inl h1)]
    · rw [if_neg h1,if_neg (by rintro (h | ⟨h,_⟩); exact h1 h; omega)]
  · rw [if_neg h0,zJz,List.drop_drop]
    by_cases h1:letP (hd (s.drop (p+k)))\/digP (hd (s.drop (p+k)))
    · rw [if_pos h1,if_pos (by rcases h1 with h | h; exact .inl h; exact .inr ⟨by omega,h⟩)]
    · rw [if_neg h1,if_neg (by rintro (h | ⟨_,h⟩); exact h1 (.inl h); exact h1 (.inr h))]
 rw [hstep] at hw
 have hpos:hd (s.drop (p+k))≠0->p+k < s.length:=zBw
 generalize hd (s.drop (p+k))=z at hz hw hpos hc
 have go:(letP z\/(0 < k/\digP z))->rec (((iadd .i64 (k:Int) 1),()),((s,((p:Int),())),()))=some (some (((s,(p:Int),()),()),(((yw (s.drop p):Nat):Int),()))):=fun h=>by
  have h2:p+k < s.length:=hpos (by unfold letP digP at h; omega)
  rw [if_pos h] at hw
  rw [i1 (by omega)]
  exact hrec _ ⟨k+1,rfl,h2,by rw [if_neg (by omega),hw,Nat.add_assoc p k 1]; omega⟩ (by dsimp only; omega)
 have stop:¬ (letP z\/(0 < k/\digP z))->(some (some (((s,(p:Int),()),()),(((k:Nat):Int),()))):RO (Int×Unit))=some (some (((s,(p:Int),()),()),(((yw (s.drop p):Nat):Int),()))):=fun h=>by
  rw [if_neg h] at hw
  rw [hw]; rfl
 unfold letP digP at go stop
 refine zK hc ?_
 dsimp only
 repeat' (first
  | with_reducible exact hc
  | ((with_reducible refine go ?_); omega)
  | ((with_reducible refine stop ?_); omega)
  | (with_reducible refine zc (fun _=>?_) fun _=>?_)
  | (with_reducible refine xE (fun _=>?_) fun _=>?_)
  | (with_reducible refine zh (fun _=>?_) fun _=>?_)
  | ((with_reducible refine zK (v:=(z,())) ?_ ?_); rotate_left; dsimp only))
theorem zOh (hp1:p+1<=s.length) {r:RO (Int×Unit)} (hr:r=some (some (((s,(p:Int),()),()),(((numT (s.drop (p+1))+1:Nat):Int),())))) {F:((Int×PUnit)×(Str×Int×PUnit)×PUnit->RO (Int×Unit))->(Int×PUnit)×(Str×Int×PUnit)×PUnit->RO (Int×Unit)}
 (hF:∀ (k:Nat) (z w:Int) rec,c56 ((k:Int),()) s (p:Int)=some (z,())->c56 (((k+1:Nat):Int),()) s (p:Int)=some (w,())->1<=k->k<=1100000 ->
  ((expP z/\(w=43\/w=45))->rec (((((k+2:Nat):Int)),()),((s,((p:Int),())),()))=r)->((¬ (expP z/\(w=43\/w=45))/\aldP z)->rec (((((k+1:Nat):Int)),()),((s,((p:Int),())),()))=r) ->
  ((¬ (expP z/\(w=43\/w=45))/\¬ aldP z)->(some (some (((s,(p:Int),()),()),((k:Int),()))):RO (Int×Unit))=r)->0<=z->z < 256->(∃ v:Int,c44 (expB,(z,()))=some (v,())/\(0<=v↔expP z))->F rec (((k:Int),()),((s,((p:Int),())),()))=r) :
 iter fu F ((1,()),((s,((p:Int),())),()))=r:=by
 obtain ⟨y,hy⟩:∃ y,r=some y:=⟨_,hr⟩
 rw [hy] at hF ⊢
 refine zn (fun st=>∃ k:Nat,st=((((k:Int),()),((s,((p:Int),())),())):(Int×PUnit)×(Str×Int×PUnit)×PUnit)/\1<=k/\p+k<=s.length/\numT (s.drop (p+1))+1=k+numT (s.drop (p+k))) (fun st=>s.length - st.1.1.toNat) ?_ fu _ ⟨1,rfl,by omega,by omega,by omega⟩ (by show s.length - (1:Int).toNat < fu; omega)
 rintro rec st ⟨k,rfl,hk1,hk,hw⟩ hrec
 rw [hy] at hr
 rw [zKz (s.drop (p+k)),List.drop_drop,List.drop_drop] at hw
 have hc:c56 ((k:Int),()) s (p:Int)=some (hd (s.drop (p+k)),()):=e56 hs (by omega)
 have hc1:c56 (((k+1:Nat):Int),()) s (p:Int)=some (hd (s.drop (p+k+1)),()):=by rw [e56 hs (by omega)]; rfl
 have hz:=hd_nn (s.drop (p+k))
 have hz2:hd (s.drop (p+k)) < 256:=by obtain ⟨c,h⟩:=zGi (s.drop (p+k)); rw [h]; have:=c.toNat_lt; omega
 have he:=e44x (s.drop (p+k))
 have hpos:hd (s.drop (p+k))≠0->p+k < s.length:=zBw
 have hpos1:hd (s.drop (p+k+1))≠0->p+k+1 < s.length:=zBw
 generalize hd (s.drop (p+k))=z at hz hz2 hw hpos hc he
 generalize hd (s.drop (p+k+1))=w at hw hpos1 hc1
 refine hF k z w rec hc hc1 hk1 (by omega) (fun h=>?_) (fun h=>?_) (fun h=>?_) hz hz2 he
 · rw [if_pos h] at hw
   have:=hpos1 (by omega)
   exact hrec _ ⟨k+2,rfl,by omega,by omega,by rw [<- Nat.add_assoc p k 2]; omega⟩ (by dsimp only; omega)
 · rw [if_neg h.1,if_pos h.2] at hw
   have:=hpos (by have:=h.2; unfold aldP letP digP at this; omega)
   exact hrec _ ⟨k+1,rfl,by omega,by omega,by rw [<- Nat.add_assoc p k 1]; omega⟩ (by dsimp only; omega)
 · rw [if_neg h.1,if_neg h.2] at hw
   rw [hr,hw]; rfl
theorem e60:c60 fu () s (p:Int)=some ((((numL (s.drop p):Nat):Int),()),(p:Int)):=by
 unfold c60 mD
 refine jy ?_
 show sh60 fu c44 c56 ((s,((p:Int),())),()) ()=(some (some (((s,(p:Int),()),()),(((numL (s.drop p):Nat):Int),()))):RO (Int×Unit))
 unfold sh60
 dsimp only
 have hc:c56 ((0:Int),()) s (p:Int)=some (hd (s.drop p),()):=e56 (k:=0) hs (by omega)
 have hc1:c56 ((1:Int),()) s (p:Int)=some (hd (s.drop (p+1)),()):=e56 (k:=1) hs (by omega)
 have hn:numL (s.drop p)=if digP (hd (s.drop p))\/(hd (s.drop p)=46/\digP (hd (s.drop (p+1)))) then numT (s.drop (p+1))+1 else 0:=by
  unfold numL
  rw [List.drop_drop]
 have hpos:hd (s.drop p)≠0->p < s.length:=zBw
 generalize hd (s.drop p)=z at hc hn hpos
 generalize hd (s.drop (p+1))=w at hc1 hn
 have no:¬ (digP z\/(z=46/\digP w))->(some (some (((s,(p:Int),()),()),((0:Int),()))):RO (Int×Unit))=some (some (((s,(p:Int),()),()),(((numL (s.drop p):Nat):Int),()))):=fun h=>by
  rw [hn,if_neg h]; rfl
 have go:∀ {F:((Int×PUnit)×(Str×Int×PUnit)×PUnit->RO (Int×Unit))->(Int×PUnit)×(Str×Int×PUnit)×PUnit->RO (Int×Unit)},(digP z\/(z=46/\digP w)) ->
  (∀ (k:Nat) (z w:Int) rec (r:RO (Int×Unit)),c56 ((k:Int),()) s (p:Int)=some (z,())->c56 (((k+1:Nat):Int),()) s (p:Int)=some (w,())->1<=k->k<=1100000 ->
   ((expP z/\(w=43\/w=45))->rec (((((k+2:Nat):Int)),()),((s,((p:Int),())),()))=r)->((¬ (expP z/\(w=43\/w=45))/\aldP z)->rec (((((k+1:Nat):Int)),()),((s,((p:Int),())),()))=r) ->
   ((¬ (expP z/\(w=43\/w=45))/\¬ aldP z)->(some (some (((s,(p:Int),()),()),((k:Int),()))):RO (Int×Unit))=r)->0<=z->z < 256->(∃ v:Int,c44 (expB,(z,()))=some (v,())/\(0<=v↔expP z))->F rec (((k:Int),()),((s,((p:Int),())),()))=r) ->
  iter fu F ((1,()),((s,((p:Int),())),()))=some (some (((s,(p:Int),()),()),(((numL (s.drop p):Nat):Int),()))):=fun h hF=>by
  have h1:=hpos (by unfold digP at h; omega)
  rw [hn,if_pos h]
  exact zOh hs hfu hp (by omega) rfl fun k z w rec a1 a2 a3 a4 a5 a6 a7 a8 a9 a10=>hF k z w rec _ a1 a2 a3 a4 a5 a6 a7 a8 a9 a10
 unfold digP at no go
 refine zK hc ?_
 dsimp only
 repeat' (first
  | with_reducible exact hc
  | with_reducible exact hc1
  | ((with_reducible refine no ?_); omega)
  | ((with_reducible refine go ?_ ?_); omega)
  | (with_reducible refine xD (fun _=>?_) fun _=>?_)
  | (with_reducible refine Q_nile (fun _=>?_) fun _=>?_)
  | (with_reducible refine xE (fun _=>?_) fun _=>?_)
  | ((with_reducible refine zK (v:=(z,())) hc ?_); dsimp only)
  | ((with_reducible refine zK (v:=(w,())) hc1 ?_); dsimp only))
 all_goals
  clear no go hn hpos hc hc1
  intro k z w rec r hc hc1 hk1 hk2 go2 go1 stop hz hz2 he
  obtain ⟨v,he1,he2⟩:=he
  dsimp only
  have e2:iadd .i64 (k:Int) 2=((k+2:Nat):Int):=by rw [zl _ _ (by omega) (by omega)]; omega
  rw [i1 (k:=k) (by omega),e2]
  unfold expP aldP letP digP at *
  refine zK hc (zK hc1 (zK he1 ?_))
  dsimp only
  repeat' (first
   | ((with_reducible refine go2 ?_); omega)
   | ((with_reducible refine go1 ?_); omega)
   | ((with_reducible refine stop ?_); omega)
   | (with_reducible refine zc (fun _=>?_) fun _=>?_)
   | (with_reducible refine xE (fun _=>?_) fun _=>?_))
theorem e61 (q:Int):c61 fu (q,()) s (p:Int)=some ((((quoL q (s.drop p):Nat):Int),()),(p:Int)):=by
 unfold c61 mD
 refine jy ?_
 show sh61 fu c56 ((s,((p:Int),())),()) (q,())=(some (some (((s,(p:Int),()),()),(((quoL q (s.drop p):Nat):Int),()))):RO (Int×Unit))
 unfold sh61
 dsimp only
 have hc:c56 ((0:Int),()) s (p:Int)=some (hd (s.drop p),()):=e56 (k:=0) hs (by omega)
 have hn:quoL q (s.drop p)=if hd (s.drop p)=q then quoT q 1 (s.drop (p+1)) else 0:=by
  unfold quoL
  rw [List.drop_drop]
 have hend:s.length<=p->hd (s.drop p)=0/\quoT q 1 (s.drop (p+1))=0:=fun h=>by
  rw [List.drop_eq_nil_of_le h,List.drop_eq_nil_of_le (show s.length<=p+1 by omega)]
  exact ⟨rfl,rfl⟩
 generalize hd (s.drop p)=z at hc hn hend
 with_reducible refine zc (fun h=>?_) fun h=>?_
 · have h1:=hend (by have:(p:Int)=(s.length:Int):=h; omega)
   rw [hn,h1.2]
   split <;> rfl
 refine zK hc ?_
 dsimp only
 with_reducible refine xD (fun h1=>?_) fun h1=>?_
 · rw [hn,if_neg h1]; rfl
 rw [hn,if_pos h1]
 refine zn (fun st=>∃ k:Nat,st=((((k:Int),()),((s,((p:Int),())),())):(Int×PUnit)×(Str×Int×PUnit)×PUnit)/\1<=k/\p+k<=s.length+1/\quoT q 1 (s.drop (p+1))=quoT q k (s.drop (p+k))) (fun st=>s.length+2 - st.1.1.toNat) ?_ fu _ ⟨1,rfl,by omega,by omega,rfl⟩ (by show s.length+2 - (1:Int).toNat < fu; omega)
 rintro rec st ⟨k,rfl,hk1,hk,hw⟩ hrec
 dsimp only
 rw [zl (p:Int) (k:Int) (by omega) (by omega),show lenI s=(s.length:Int) from rfl]
 with_reducible refine zh (fun h2=>?_) fun h2=>?_
 rotate_left
 · rw [hw,List.drop_eq_nil_of_le (by omega)]; rfl
 have hne:s.drop (p+k)≠[]:=fun e=>by
  have:=congrArg List.length e
  rw [List.length_drop,List.length_nil] at this
  omega
 rw [zKy q k _ hne,List.drop_drop,List.drop_drop] at hw
 have hc0:c56 ((k:Int),()) s (p:Int)=some (hd (s.drop (p+k)),()):=e56 hs (by omega)
 have hc1:c56 (((k+1:Nat):Int),()) s (p:Int)=some (hd (s.drop (p+k+1)),()):=by rw [e56 hs (by omega)]; rfl
 have hpos1:hd (s.drop (p+k+1))≠0->p+k+1 < s.length:=zBw
 generalize hd (s.drop (p+k))=y at hw hc0
 generalize hd (s.drop (p+k+1))=w at hw hc1 hpos1
 rw [i1 (k:=k) (by omega),i1 (k:=k+1) (by omega),zl (p:Int) ((k+1:Nat):Int) (by omega) (by omega)]
 refine zK hc0 ?_
 dsimp only
 with_reducible refine zc (fun a1=>?_) fun a1=>?_
 · rw [if_pos a1] at hw
   with_reducible refine zc (fun a2=>?_) fun a2=>?_
   · with_reducible refine zc (fun a3=>?_) fun a3=>?_
     · rw [if_pos ⟨a2,by omega⟩] at hw; rw [hw]; rfl
     · rw [if_neg fun h=>a3 (by omega)] at hw; rw [hw]
   · rw [if_neg fun h=>a2 h.1] at hw; rw [hw]
 rw [if_neg a1] at hw
 with_reducible refine zc (fun a2=>?_) fun a2=>?_
 · rw [if_pos a2] at hw; rw [hw]; rfl
 rw [if_neg a2] at hw
 with_reducible refine zc (fun a3=>?_) fun a3=>?_
 · rw [if_pos a3] at hw
   refine zK hc1 ?_
   dsimp only
   have go:¬ w=10->rec (((((k+1+1:Nat):Int)),()),((s,((p:Int),())),()))=some (some (((s,(p:Int),()),()),(((quoT q 1 (s.drop (p+1)):Nat):Int),()))):=fun a4=>by
    rw [if_neg a4] at hw
    exact hrec _ ⟨k+1+1,rfl,by omega,by omega,by rw [hw,<- Nat.add_assoc p (k+1) 1,<- Nat.add_assoc p k 1]⟩ (by dsimp only; omega)
   with_reducible refine zc (fun a4=>?_) fun a4=>?_
   · have h5:=hpos1 (by omega)
     rw [if_pos a4] at hw
     with_reducible refine zh (fun a5=>?_) fun a5=>?_
     · rw [hw]; rfl
     · exfalso; omega
   · exact go a4
 · rw [if_neg a3] at hw
   exact hrec _ ⟨k+1,rfl,by omega,by omega,by rw [hw,<- Nat.add_assoc p k 1]⟩ (by dsimp only; omega)
theorem e57 (t:Str):c57 (t,()) s (p:Int)=some ((t.isPrefixOf (s.drop p),()),(p:Int)):=by
 unfold c57 mD
 refine jy ?_
 show sh57 0 ((s,((p:Int),())),()) (t,())=(some (some (((s,(p:Int),()),()),(t.isPrefixOf (s.drop p),()))):RO (Bool×Unit))
 unfold sh57
 dsimp only
 rw [zB0]
 refine zF (ym (by omega) (by show (p:Int)<=(s.length:Int); omega) (Int.le_refl _)) ?_
 rw [show lenI t=(t.length:Int) from rfl,show lenI (s.drop p)=((s.drop p).length:Int) from rfl]
 with_reducible refine xE (fun h=>?_) fun h=>?_
 · refine zF (ym (by omega) (by omega) h) ?_
   rw [zOT]
   have e:seq ((s.drop p).take t.length) t=t.isPrefixOf (s.drop p):=by
    rw [xt,Bool.eq_iff_iff,decide_eq_true_iff,List.isPrefixOf_iff_prefix,List.prefix_iff_eq_take]
    exact eq_comm
   rw [e]
 · have e:t.isPrefixOf (s.drop p)=false:=by
    cases hh:t.isPrefixOf (s.drop p)
    · rfl
    · have:=(List.isPrefixOf_iff_prefix.1 hh).length_le
      omega
   rw [e]
theorem e62 (hfu2:60 < fu):c62 fu () s (p:Int)=some ((((x8 (s.drop p):Nat):Int),()),(p:Int)):=by
 unfold c62 mD
 refine jy ?_
 show sh62 fu c57 ((s,((p:Int),())),()) ()=(some (some (((s,(p:Int),()),()),(((x8 (s.drop p):Nat):Int),()))):RO (Int×Unit))
 refine (sh62_L fu c57 ((s,((p:Int),())),()) ()).trans ?_
 have hl:signsL.length=48:=by rfl
 have hle:x8 (s.drop p)<=1090000:=by have:=zJV (s.drop p); rw [List.length_drop] at this; omega
 unfold x8 at hle ⊢
 generalize signsL=l at hl hle ⊢
 unfold sh62L
 refine zn (fun st=>∃ n j:Nat,st=((((n:Int),((j:Int),())),((s,((p:Int),())),())):(Int×Int×PUnit)×(Str×Int×PUnit)×PUnit)/\j<=48/\qt l 0 (s.drop p)=qt (l.drop j) n (s.drop p)) (fun st=>48 - st.1.2.1.toNat) ?_ fu _ ⟨0,0,rfl,by omega,rfl⟩ (by show 48 - (0:Int).toNat < fu; omega)
 rintro rec st ⟨n,j,rfl,hj,hw⟩ hrec
 dsimp only
 with_reducible refine zh (fun h=>?_) fun h=>?_
 rotate_left
 · rw [hw,List.drop_eq_nil_of_le (by omega)]; rfl
 refine zF (zY (by omega) h) ?_
 have hlt:j < l.length:=by omega
 have hg:l.getD (Int.toNat (j:Int)) []=l[j]:=by rw [Int.toNat_natCast,List.getD_eq_getElem?_getD,List.getElem?_eq_getElem hlt]; rfl
 rw [hg,i1 (k:=j) (by omega),show lenI l[j]=((l[j].length:Nat):Int) from rfl]
 rw [List.drop_eq_getElem_cons hlt,qt] at hw
 with_reducible refine xE (fun h1=>?_) fun h1=>?_
 · rw [if_pos (by omega)] at hw
   exact hrec _ ⟨n,j+1,rfl,by omega,hw⟩ (by dsimp only; omega)
 · rw [if_neg (by omega)] at hw
   refine zK (e57 hs hfu hp l[j]) ?_
   dsimp only
   refine zGX (fun h2=>?_) fun h2=>?_
   · rw [if_neg (by rw [h2]; exact Bool.false_ne_true)] at hw
     exact hrec _ ⟨n,j+1,rfl,by omega,hw⟩ (by dsimp only; omega)
   · rw [if_pos h2] at hw
     exact hrec _ ⟨l[j].length,j+1,rfl,by omega,hw⟩ (by dsimp only; omega)
end
end
section
open Go.Al Go.Den
theorem zKA {σ R:Type} (F:(σ->Option R)->Option R) (j:σ->Option R):zA7 F j=F j:=by
 have h:True/\zA7 F j=F j:=⟨trivial,rfl⟩
 exact h.2
theorem zNb {r:Str} (h:([47,47]:Str).isPrefixOf r=true) (h2:0<=Lib.indexByte r 10):0 < (Lib.indexByte r 10).toNat:=by
 have h3:Lib.indexByte r 10≠0:=fun e=>by
  have e3:=zGn e
  have e4:=List.isPrefixOf_iff_prefix.1 h
  obtain ⟨t,rfl⟩:=e4
  have e5:some (47:UInt8)=some 10:=e3
  revert e5
  decide
 omega
section
variable {s:Str} {p:Nat} {fu:Nat} (hs:s.length<=1090000) (hfu:s.length+100 < fu) (hp:p<=s.length)
include hs hfu hp
theorem e29:c29 fu () s (p:Int)=some ((decide (0 < blaL (s.drop p)),()),((p+blaL (s.drop p):Nat):Int)):=by
 unfold c29 mD
 refine jy ?_
 show sh29 fu c44 c58 c56 c57 ((s,((p:Int),())),()) ()=(some (some (((s,((p+blaL (s.drop p):Nat):Int),()),()),(decide (0 < blaL (s.drop p)),()))):RO (Bool×Unit))
 have hb:=zGx (s.drop p)
 rw [List.length_drop] at hb
 obtain ⟨B,hB⟩:∃ B,B=blaL (s.drop p):=⟨_,rfl⟩
 rw [<- hB] at hb ⊢
 unfold blaL at hB
 unfold sh29
 simp only [zKA]
 have hc:c56 ((0:Int),()) s (p:Int)=some (hd (s.drop p),()):=e56 (k:=0) hs (by omega)
 have hpos:hd (s.drop p)≠0->p < s.length:=zBw
 refine zK hc ?_
 dsimp only
 have rest:¬ (hd (s.drop p)=32\/hd (s.drop p)=9\/hd (s.drop p)=11\/hd (s.drop p)=12\/hd (s.drop p)=13)->(Option.bind (c57 ([47,47],()) s (p:Int)) fun y0=>
  cond y0.1.1
   (cond (inS y0.2 (lenI s) (List.length s))
    (Option.bind (c44 ((cutL s y0.2 (lenI s)),(10,()))) fun y1=>
     cond (ilt y1.1 0)
      (some (Option.some (((s,((iadd .i64 y0.2 (isub .i64 (lenI s) y0.2)),())),()),(true,()))))
      (some (Option.some (((s,((iadd .i64 y0.2 y1.1),())),()),(true,())))))
    (none))
   (Option.bind (c57 ([47,42],()) s y0.2) fun y1=>
    cond (!y1.1.1)
     (some (Option.some (((s,(y1.2,())),()),(false,()))))
     (cond (inS (iadd .i64 y1.2 2) (lenI s) (List.length s))
      (Option.bind (c58 ((cutL s (iadd .i64 y1.2 2) (lenI s)),([42,47],()))) fun y2=>
       cond (ilt y2.1 0)
        (some (Option.some (((s,(y1.2,())),()),(false,()))))
        (some (Option.some (((s,((iadd .i64 y1.2 (iadd .i64 y2.1 4)),())),()),(true,())))))
      (none))))=(some (some (((s,((p+B:Nat):Int),()),()),(decide (0 < B),()))):RO (Bool×Unit)):=fun hn=>by
  rw [if_neg hn] at hB
  refine zK (e57 hs hfu hp [47,47]) ?_
  dsimp only
  refine qf (fun h1=>?_) fun h1=>?_
  · rw [if_pos h1] at hB
    refine zF (ym (by omega) (by show (p:Int)<=(s.length:Int); omega) (Int.le_refl _)) ?_
    rw [zB0]
    have hpl:=(List.isPrefixOf_iff_prefix.1 h1).length_le
    rw [List.length_drop] at hpl
    have hpl2:2<=s.length - p:=hpl
    refine zK (show c44 (s.drop p,10,())=some (Lib.indexByte (s.drop p) 10,()) from rfl) ?_
    dsimp only
    have h3:=zNb h1
    with_reducible refine zh (fun h2=>?_) fun h2=>?_
    · rw [if_pos h2,List.length_drop] at hB
      have e1:isub .i64 (lenI s) (p:Int)=(s.length:Int) - p:=zBx _ _ (by show _<=(s.length:Int) - p; omega) (by show (s.length:Int) - p<=_; omega)
      rw [e1,zl _ _ (by omega) (by omega),decide_eq_true (show 0 < B by omega)]
      have e2:(p:Int)+((s.length:Int) - p)=((p+B:Nat):Int):=by omega
      rw [e2]
    · rw [if_neg (by omega)] at hB
      have h4:=h3 h2
      rw [zl _ _ (by omega) (by omega),decide_eq_true (show 0 < B by omega)]
      have e2:(p:Int)+Lib.indexByte (s.drop p) 10=((p+B:Nat):Int):=by omega
      rw [e2]
  · rw [if_neg (by rw [h1]; exact Bool.false_ne_true)] at hB
    refine zK (e57 hs hfu hp [47,42]) ?_
    dsimp only
    refine zGX (fun h2=>?_) fun h2=>?_
    · rw [if_neg (by rw [h2]; exact Bool.false_ne_true)] at hB
      subst hB
      rfl
    rw [if_pos h2] at hB
    have hpl:=(List.isPrefixOf_iff_prefix.1 h2).length_le
    rw [List.length_drop] at hpl
    have hpl2:2<=s.length - p:=hpl
    have e1:iadd .i64 (p:Int) 2=((p+2:Nat):Int):=by rw [zl _ _ (by omega) (by omega)]; omega
    rw [e1]
    refine zF (ym (by omega) (by show ((p+2:Nat):Int)<=(s.length:Int); omega) (Int.le_refl _)) ?_
    rw [zB0,<- List.drop_drop]
    have hl2:((s.drop p).drop 2).length < 4294967281:=by rw [List.length_drop,List.length_drop]; omega
    have hix:=zFD ((s.drop p).drop 2) [42,47]
    rw [List.length_drop,List.length_drop] at hix
    have e5:(([42,47]:Str).length:Int)=2:=rfl
    rw [e5] at hix
    refine zK (show c58 ((s.drop p).drop 2,[42,47],())=some (Lib.index ((s.drop p).drop 2) [42,47],()) from if_pos hl2) ?_
    dsimp only
    generalize Lib.index ((s.drop p).drop 2) [42,47]=v at hB hix ⊢
    with_reducible refine zh (fun h3=>?_) fun h3=>?_
    · rw [if_pos h3] at hB
      subst hB
      rfl
    · rw [if_neg (by omega)] at hB
      have h6:=hix h3
      rw [zl v 4 (by omega) (by omega),zl _ _ (by omega) (by omega),decide_eq_true (show 0 < B by omega)]
      have e2:(p:Int)+(v+4)=((p+B:Nat):Int):=by omega
      rw [e2]
 have one:(hd (s.drop p)=32\/hd (s.drop p)=9\/hd (s.drop p)=11\/hd (s.drop p)=12\/hd (s.drop p)=13)->(some (some (((s,(iadd .i64 (p:Int) 1),()),()),(true,()))):RO (Bool×Unit))=some (some (((s,((p+B:Nat):Int),()),()),(decide (0 < B),()))):=fun h=>by
  rw [if_pos h] at hB
  subst hB
  rw [i1 (k:=p) (by omega)]; rfl
 generalize hd (s.drop p)=z at rest one
 with_reducible refine zc (fun h1=>?_) fun h1=>?_
 · exact one (by omega)
 with_reducible refine zc (fun h2=>?_) fun h2=>?_
 · exact one (by omega)
 with_reducible refine zc (fun h3=>?_) fun h3=>?_
 · exact one (by omega)
 with_reducible refine zc (fun h4=>?_) fun h4=>?_
 · exact one (by omega)
 with_reducible refine zc (fun h5=>?_) fun h5=>?_
 · exact one (by omega)
 · exact rest (by omega)
theorem e30:c30 fu () s (p:Int)=some (((yE (s.drop p)).1,(((yE (s.drop p)).2:Nat):Int),()),(p:Int)):=by
 unfold c30 mD
 refine jy ?_
 show sh30 fu c57 (c59 fu) (c60 fu) (c61 fu) (c62 fu) ((s,((p:Int),())),()) ()=(some (some (((s,(p:Int),()),()),((yE (s.drop p)).1,(((yE (s.drop p)).2:Nat):Int),()))):RO (Int×Int×Unit))
 unfold sh30
 dsimp only
 have h10:([10]:Str).isPrefixOf (s.drop p)=decide (hd (s.drop p)=10):=by
  cases s.drop p with
  | nil=>rfl
  | cons c q=>
   rw [Bool.eq_iff_iff,decide_eq_true_iff]
   show ((10 == c) && true)=true↔(c.toNat:Int)=10
   rw [Bool.and_true,beq_iff_eq]
   refine ⟨fun h=>by rw [<- h]; rfl,fun h=>?_⟩
   apply UInt8.toNat_inj.1
   show 10=c.toNat
   omega
 have h1:=e59 hs hfu hp
 have h2:=e60 hs hfu hp
 have h3:=e61 hs hfu hp 34
 have h4:=e61 hs hfu hp 39
 have h5:=e62 hs hfu hp (by omega)
 have h0:=e57 hs hfu hp [10]
 rw [h10] at h0
 unfold yE
 generalize yw (s.drop p)=w at h1 ⊢
 generalize numL (s.drop p)=n at h2 ⊢
 generalize quoL 34 (s.drop p)=q at h3 ⊢
 generalize quoL 39 (s.drop p)=q' at h4 ⊢
 generalize x8 (s.drop p)=g at h5 ⊢
 generalize hd (s.drop p)=z at h0 ⊢
 refine zK h0 ?_
 dsimp only
 refine qf (fun a=>?_) fun a=>?_
 · rw [if_pos (of_decide_eq_true a)]; rfl
 rw [if_neg (of_decide_eq_false a)]
 refine zK h1 ?_
 dsimp only
 with_reducible refine zh (fun a=>?_) fun a=>?_
 · rw [if_pos (by omega)]
 rw [if_neg (by omega)]
 refine zK h2 ?_
 dsimp only
 with_reducible refine zh (fun a=>?_) fun a=>?_
 · rw [if_pos (by omega)]
 rw [if_neg (by omega)]
 refine zK h3 ?_
 dsimp only
 with_reducible refine zh (fun a=>?_) fun a=>?_
 · rw [if_pos (by omega)]
 rw [if_neg (by omega)]
 refine zK h4 ?_
 dsimp only
 with_reducible refine zh (fun a=>?_) fun a=>?_
 · rw [if_pos (by omega)]
 rw [if_neg (by omega)]
 refine zK h5 ?_
 dsimp only
 with_reducible refine zh (fun a=>?_) fun a=>?_
 · rw [if_pos (by omega)]
 rw [if_neg (by omega)]
 rfl
end
end
section
open Go.Al Go.Den
def lvl:List (Str×Int)->Str->Int
 | [],_=>0
 | (t,n)::r,x=>if x=t then n else lvl r x
def zFw:List (Str×Int)->Str->Option (Int×Unit)
 | [],_=>some (0,())
 | (t,n)::r,x=>cond (seq x t) (some (n,())) (zFw r x)
theorem zHl:∀ (l:List (Str×Int)) (x:Str),zFw l x=some (lvl l x,())
 | [],x=>rfl
 | (t,n)::r,x=>by
  unfold zFw lvl
  rw [zHl r x,xt]
  by_cases h:x=t
  · rw [if_pos h,decide_eq_true h]; rfl
  · rw [if_neg h,decide_eq_false h]; rfl
def lvL:List (Str×Int):=[([124,124],1),([38,38],2),([124],3),([94],4),([38],5),([61,61],6),([33,61],6),([60],7),([62],7),([60,61],7),([62,61],7),([60,60],8),([62,62],8),([43],9),([45],9),([42],10),([47],10),([37],10)]
def lv (x:Str):Int:=lvl lvL x
theorem zMu (x:Str):c74 (x,())=zFw lvL x:=by kernel_rfl
theorem c74_eq (x:Str):c74 (x,())=some (lv x,()):=(zMu x).trans (zHl _ x)
def sg:List TokT->Str
 | []=>[]
 | t::_=>if t.kind=5 then t.text else []
abbrev PR:=VT×List TokT×Int
noncomputable def jQ (t:TokT):Option (Int×Int):=
 if t.kind=2 then some ((numS t.text).1,(numS t.text).2.1)
 else if t.kind=3 then some (((c16 (t.text,())).getD (0,(91,()))).1,((c16 (t.text,())).getD (0,(91,()))).2.1)
 else if t.kind=1 then some (0,0)
 else none
def zk (bin:Int->List TokT->Int->Option PR) (least:Int):Nat->VT->List TokT->Int->Option PR
 | 0,_,_,_=>none
 | k+1,x,l,b=>if lv (sg l) < least\/lv (sg l)=0 then some (x,l,b)
  else (bin (lv (sg l)+1) (l.drop 1) b).bind fun y=>zk bin least k (.bin (sg l) x y.1) y.2.1 y.2.2
structure PF where
 cho:Nat->List TokT->Int->Option PR
 bin:Int->Nat->List TokT->Int->Option PR
 inn:Nat->List TokT->Int->Option PR
 un:Nat->List TokT->Int->Option PR
 at1:Nat->List TokT->Int->Option PR
noncomputable def hdA:List TokT->Int->Option PR
 | [],_=>none
 | t::r,b=>(jQ t).bind fun v=>some (.num v.1,r,if b=0 then v.2 else b)
def isUn (s:Str):Prop:=s=[43]\/s=[45]\/s=[33]\/s=[126]
instance (s:Str):Decidable (isUn s):=by unfold isUn; exact inferInstance
noncomputable def pf:Nat->PF
 | 0=>⟨fun _ _ _=>none,fun _ _ _ _=>none,fun _ _ _=>none,fun _ _ _=>none,fun _ _ _=>none⟩
 | m+1=>⟨fun d l b=>((pf m).bin 1 d l b).bind fun c=>if sg c.2.1=[63] then ((pf m).inn d (c.2.1.drop 1) c.2.2).bind fun x=>if sg x.2.1=[58] then ((pf m).inn d (x.2.1.drop 1) x.2.2).bind fun y=>some (.cho c.1 x.1 y.1,y.2.1,y.2.2) else none else some c,
  fun n d l b=>((pf m).un d l b).bind fun x=>zk (fun n l b=>(pf m).bin n d l b) n (x.2.1.length+1) x.1 x.2.1 x.2.2,
  fun d l b=>if d=60 then none else (pf m).cho (d+1) l b,
  fun d l b=>if isUn (sg l) then (if d=60 then none else ((pf m).un (d+1) (l.drop 1) b).bind fun x=>some (.un (sg l) x.1,x.2.1,x.2.2)) else (pf m).at1 d l b,
  fun d l b=>if sg l=[40] then ((pf m).inn d (l.drop 1) b).bind fun x=>if sg x.2.1=[41] then some (x.1,x.2.1.drop 1,x.2.2) else none
   else hdA l b⟩
def Out (nf:Bool) (l:List TokT) (o:Option PR) (run:Option ((VT×Unit)×ES)):Prop:=
 match o with
 | some y=>run=some ((y.1,()),((nf,y.2.1),false,y.2.2))/\y.2.1 <:+ l
 | none=>∃ x l' b',run=some ((x,()),((nf,l'),true,b'))
theorem zBm (nf w:Bool) (l:List TokT) (b:Int):c52 () ((nf,l),w,b)=some ((sg l,()),((nf,l),w,b)):=by
 show outE (sh52 0 (((nf,l),(w,(b,()))),()) ())=_
 have h:sh52 0 (((nf,l),(w,(b,()))),()) ()=some (some ((((nf,l),(w,(b,()))),()),(sg l,()))):=by
  unfold sh52
  dsimp only
  cases l with
  | nil=>rfl
  | cons t r=>
   refine zE (z7 (by show ((r.length+1:Nat):Int)≠0; omega)) ?_
   have hin:inB 0 (t::r).length=true:=zY (Int.le_refl _) (by show (0:Int) < ((r.length+1:Nat):Int); omega)
   refine zF hin ?_
   show cond (ine t.kind 5) _ _=_
   have es:sg (t::r)=if t.kind=5 then t.text else []:=rfl
   rw [es]
   refine xD (fun h=>?_) fun h=>?_
   · rw [if_neg h]
   · rw [if_pos h]
     exact zF hin rfl
 rw [h]; rfl
theorem zAu (nf w:Bool) (l:List TokT) (b:Int) (s:Str) (h:sg l=s) (hl:l≠[]):c53 (s,()) ((nf,l),w,b)=some ((),((nf,l.drop 1),w,b)):=by
 show outE (sh53 0 c52 (((nf,l),(w,(b,()))),()) (s,()))=_
 have h2:sh53 0 c52 (((nf,l),(w,(b,()))),()) (s,())=some (some ((((nf,l.drop 1),(w,(b,()))),()),())):=by
  unfold sh53
  refine zK (zBm nf w l b) ?_
  dsimp only
  have e:seq (sg l) s=true:=by rw [xt,decide_eq_true_iff]; exact h
  rw [e]
  refine zE rfl ?_
  cases l with
  | nil=>exact absurd rfl hl
  | cons t r=>
   refine zF (ym (by omega) (by show (1:Int)<=((r.length+1:Nat):Int); omega) (Int.le_refl _)) ?_
   have e2:cutL (t::r) 1 (lenI (t::r))=(t::r).drop 1:=zB0 (t::r) 1
   rw [e2]
 rw [h2]; rfl
theorem zG0 (nf w:Bool) (l:List TokT) (b:Int) (s:Str) (h:sg l≠s):c53 (s,()) ((nf,l),w,b)=some ((),((nf,l),true,b)):=by
 show outE (sh53 0 c52 (((nf,l),(w,(b,()))),()) (s,()))=_
 have h2:sh53 0 c52 (((nf,l),(w,(b,()))),()) (s,())=some (some ((((nf,l),(true,(b,()))),()),())):=by
  unfold sh53
  refine zK (zBm nf w l b) ?_
  dsimp only
  have e:seq (sg l) s=false:=by rw [xt,decide_eq_false_iff_not]; exact h
  rw [e]
  exact zF rfl rfl
 rw [h2]; rfl
theorem zKh (nf w:Bool) (l:List TokT) (b:Int) (s:Str) (hs:s≠[]) (hw:w=true):∃ l',c53 (s,()) ((nf,l),w,b)=some ((),((nf,l'),true,b)):=by
 subst hw
 by_cases h:sg l=s
 · exact ⟨_,zAu nf true l b s h (fun e=>by subst e; exact hs h.symm)⟩
 · exact ⟨_,zG0 nf true l b s h⟩
theorem zF8 {l:List TokT} {s:Str} (h:sg l=s) (hs:s≠[]):l≠[]:=fun e=>by subst e; exact hs h.symm
theorem qP {α:Type} {l l':List α} (h:l' <:+ l):l'.drop 1 <:+ l:=(List.drop_suffix 1 l').trans h
theorem qM {l:List TokT} (h:l≠[]):(l.drop 1).length+1=l.length:=by
 cases l with
 | nil=>exact absurd rfl h
 | cons t r=>rfl
theorem zG8 {β:Type} {l:Bool×List TokT} {w:Bool} {b:Int} {v:β} {o:Option (Option ((ExT×Unit)×β))} (h:o=some (some (((l,(w,(b,()))),()),v))):outE o=some (v,(l,w,b)):=by rw [h]; rfl
def wt (l:List TokT) (rank:Nat):Nat:=8 * l.length+rank
structure Reads (fu m:Nat) (nf:Bool) (l:List TokT):Prop where
 at1:wt l 1 < m->∀ (d:Nat) (b:Int),d<=60->Out nf l ((pf m).at1 d l b) ((rf fu m).c82 ((d:Int),()) ((nf,l),false,b))
 un:wt l 2 < m->∀ (d:Nat) (b:Int),d<=60->Out nf l ((pf m).un d l b) ((rf fu m).c73 ((d:Int),()) ((nf,l),false,b))
 bin:wt l 3 < m->∀ (n:Nat) (d:Nat) (b:Int),n<=11->d<=60->Out nf l ((pf m).bin (n:Int) d l b) ((rf fu m).c51 ((n:Int),(d:Int),()) ((nf,l),false,b))
 cho:wt l 4 < m->∀ (d:Nat) (b:Int),d<=60->Out nf l ((pf m).cho d l b) ((rf fu m).c26 ((d:Int),()) ((nf,l),false,b))
 inn:wt l 5 < m->∀ (d:Nat) (b:Int),d<=60->Out nf l ((pf m).inn d l b) ((rf fu m).c54 ((d:Int),()) ((nf,l),false,b))
theorem zHW (fu m:Nat) (nf:Bool) (l:List TokT) (d:Nat) (b:Int):(rf fu (m+1)).c54 ((d:Int),()) ((nf,l),true,b)=some ((.num 0,()),((nf,l),true,b)):=by
 show outE (sh54 fu (rf fu m).c26 (((nf,l),(true,(b,()))),()) ((d:Int),()))=_
 refine zG8 ?_
 show sh54 fu (rf fu m).c26 (((nf,l),(true,(b,()))),()) ((d:Int),())=(some (some ((((nf,l),(true,(b,()))),()),(VT.num 0,()))):Option (Option ((ExT×Unit)×(VT×Unit))))
 unfold sh54
 dsimp only
 refine zc (fun _=>rfl) fun _=>?_
 exact zF rfl rfl
theorem zNL {nf:Bool} {l l':List TokT} {x:VT} {b':Int} {run:Option ((VT×Unit)×ES)} (h:run=some ((x,()),((nf,l'),true,b'))):Out nf l none run:=⟨x,l',b',h⟩
theorem xz {nf:Bool} {l l':List TokT} {x:VT} {b':Int} {run:Option ((VT×Unit)×ES)} (h:run=some ((x,()),((nf,l'),false,b'))) (hs:l' <:+ l):Out nf l (some (x,l',b')) run:=⟨h,hs⟩
theorem zBh {α:Type} {l l':List α} (h:l' <:+ l):l'.length<=l.length:=h.length_le
theorem zOW (fu m:Nat) (nf:Bool) (l:List TokT) (hc:wt l 4 < m->∀ (d:Nat) (b:Int),d<=60->Out nf l ((pf m).cho d l b) ((rf fu m).c26 ((d:Int),()) ((nf,l),false,b))) :
 wt l 5 < m+1->∀ (d:Nat) (b:Int),d<=60->Out nf l ((pf (m+1)).inn d l b) ((rf fu (m+1)).c54 ((d:Int),()) ((nf,l),false,b)):=fun hw d b hd=>by
 show Out nf l (if d=60 then none else (pf m).cho (d+1) l b) (outE (sh54 fu (rf fu m).c26 (((nf,l),(false,(b,()))),()) ((d:Int),())))
 by_cases h:d=60
 · rw [if_pos h]
   refine zNL (x:=.num 0) (l':=l) (b':=b) (zG8 ?_)
   show sh54 fu (rf fu m).c26 (((nf,l),(false,(b,()))),()) ((d:Int),())=(some (some ((((nf,l),(true,(b,()))),()),(VT.num 0,()))):Option (Option ((ExT×Unit)×(VT×Unit))))
   unfold sh54
   exact zF (yY (by show (d:Int)=60; omega)) rfl
 · rw [if_neg h]
   have hh:=hc (by unfold wt at *; omega) (d+1) b (by omega)
   have key:∀ v:(VT×Unit)×ES,(rf fu m).c26 ((((d+1:Nat):Int)),()) ((nf,l),false,b)=some v->outE (sh54 fu (rf fu m).c26 (((nf,l),(false,(b,()))),()) ((d:Int),()))=some v:=fun v hv=>by
    obtain ⟨⟨x,u⟩,⟨f1,l1⟩,w1,b1⟩:=v
    refine zG8 ?_
    show sh54 fu (rf fu m).c26 (((nf,l),(false,(b,()))),()) ((d:Int),())=(some (some ((((f1,l1),(w1,(b1,()))),()),(x,()))):Option (Option ((ExT×Unit)×(VT×Unit))))
    unfold sh54
    refine zE (z7 (by show (d:Int)≠60; omega)) ?_
    refine zE rfl ?_
    rw [i1 (k:=d) (by omega)]
    exact zK hv rfl
   revert hh
   generalize (pf m).cho (d+1) l b=o
   intro hh
   cases o with
   | none=>obtain ⟨x,l',b',hr⟩:=hh; exact ⟨x,l',b',key _ hr⟩
   | some y=>exact ⟨key _ hh.1,hh.2⟩
abbrev RE (α:Type):=Option (Option ((ExT×Unit)×α))
section
variable {nf:Bool} {l l1:List TokT} {o o1:Option PR} {α:Type}
theorem zo {c:Option α} {v:α} {F:α->RE (VT×Unit)} (h:c=some v) (h2:Out nf l o (outE (F v))):Out nf l o (outE (Option.bind c F)):=by subst h; exact h2
theorem zDE {c:Option α} {v:α} {F:α->RE (VT×Unit)} {r:Option ((VT×Unit)×ES)} (h:c=some v) (h2:outE (F v)=r):outE (Option.bind c F)=r:=by subst h; exact h2
theorem yL {c:Bool} {t f:RE (VT×Unit)} (h:c=true) (h2:Out nf l o (outE t)):Out nf l o (outE (cond c t f)):=by subst h; exact h2
theorem zx {c:Bool} {t f:RE (VT×Unit)} (h:c=false) (h2:Out nf l o (outE f)):Out nf l o (outE (cond c t f)):=by subst h; exact h2
theorem zBb {run:Option ((VT×Unit)×ES)} {F:PR->Option PR} {G:(VT×Unit)×ES->RE (VT×Unit)} (h:Out nf l1 o1 run)
 (good:∀ y,o1=some y->y.2.1 <:+ l1->Out nf l (F y) (outE (G ((y.1,()),((nf,y.2.1),false,y.2.2)))))
 (bad:∀ x l' b',∃ x2 l2 b2,outE (G ((x,()),((nf,l'),true,b')))=some ((x2,()),((nf,l2),true,b2))):Out nf l (o1.bind F) (outE (Option.bind run G)):=by
 cases o1 with
 | none=>
  obtain ⟨x,l',b',rfl⟩:=h
  obtain ⟨x2,l2,b2,h2⟩:=bad x l' b'
  exact ⟨x2,l2,b2,h2⟩
 | some y=>
  obtain ⟨rfl,h2⟩:=h
  exact good y rfl h2
end
theorem yW {a b:Str} (h:a=b):seq a b=true:=by rw [xt,decide_eq_true_iff]; exact h
theorem yB {a b:Str} (h:a≠b):seq a b=false:=by rw [xt,decide_eq_false_iff_not]; exact h
theorem zDz {c:Bool} (h:c=false):(!c)=true:=by rw [h]; rfl
theorem zDW {c:Bool} (h:c=true):(!c)=false:=by rw [h]; rfl
theorem zPG (fu m:Nat) (nf:Bool) (l:List TokT) (ha:wt l 1 < m->∀ (d:Nat) (b:Int),d<=60->Out nf l ((pf m).at1 d l b) ((rf fu m).c82 ((d:Int),()) ((nf,l),false,b)))
 (hu:∀ l1,l1.length < l.length->l1 <:+ l->wt l1 2 < m->∀ (d:Nat) (b:Int),d<=60->Out nf l1 ((pf m).un d l1 b) ((rf fu m).c73 ((d:Int),()) ((nf,l1),false,b))) :
 wt l 2 < m+1->∀ (d:Nat) (b:Int),d<=60->Out nf l ((pf (m+1)).un d l b) ((rf fu (m+1)).c73 ((d:Int),()) ((nf,l),false,b)):=fun hw d b hd=>by
 show Out nf l (if isUn (sg l) then (if d=60 then none else ((pf m).un (d+1) (l.drop 1) b).bind fun x=>some (.un (sg l) x.1,x.2.1,x.2.2)) else (pf m).at1 d l b) (outE (sh73 fu c52 c53 (rf fu m).c73 (rf fu m).c82 (((nf,l),(false,(b,()))),()) ((d:Int),())))
 unfold sh73
 refine zo (zBm nf false l b) ?_
 dsimp only
 have br:isUn (sg l)->Out nf l (if isUn (sg l) then (if d=60 then none else ((pf m).un (d+1) (l.drop 1) b).bind fun x=>some (.un (sg l) x.1,x.2.1,x.2.2)) else (pf m).at1 d l b)
  (outE (cond (ieq (d:Int) 60)
   (some (Option.some ((((nf,l),(true,(b,()))),()),((VT.num 0),()))))
   (Option.bind (c53 (sg l,()) ((nf,l),(false,b))) fun y1=>
    Option.bind ((rf fu m).c73 ((iadd .i64 (d:Int) 1),()) ((y1.2.1.1,y1.2.1.2),(y1.2.2.1,y1.2.2.2))) fun y2=>
     some (Option.some ((((y2.2.1.1,y2.2.1.2),(y2.2.2.1,(y2.2.2.2,()))),()),((VT.un (UnT.sign (UnT.mk (sg l) y2.1.1)) (UnT.x (UnT.mk (sg l) y2.1.1))),())))))):=fun hs=>by
  rw [if_pos hs]
  have hne:l≠[]:=zF8 rfl (by rcases hs with h | h | h | h <;> (rw [h]; exact fun e=>by cases e))
  by_cases h:d=60
  · rw [if_pos h]
    refine yL (yY (by omega)) ?_
    exact ⟨_,_,_,rfl⟩
  · rw [if_neg h]
    refine zx (z7 (by omega)) ?_
    refine zo (zAu nf false l b _ rfl hne) ?_
    dsimp only
    rw [i1 (k:=d) (by omega)]
    have h1:=qM hne
    refine zBb (hu (l.drop 1) (by omega) (List.drop_suffix _ _) (by unfold wt at *; omega) (d+1) b (by omega)) (fun y _ hy=>?_) fun x l' b'=>⟨_,_,_,rfl⟩
    exact xz rfl (hy.trans (List.drop_suffix _ _))
 by_cases h1:sg l=[43]
 · exact zx (zDW (yW h1)) (br (.inl h1))
 refine yL (zDz (yB h1)) ?_
 by_cases h2:sg l=[45]
 · exact zx (zDW (yW h2)) (br (.inr (.inl h2)))
 refine yL (zDz (yB h2)) ?_
 by_cases h3:sg l=[33]
 · exact zx (zDW (yW h3)) (br (.inr (.inr (.inl h3))))
 refine yL (zDz (yB h3)) ?_
 by_cases h4:sg l=[126]
 · exact zx (zDW (yW h4)) (br (.inr (.inr (.inr h4))))
 refine yL (zDz (yB h4)) ?_
 rw [if_neg (by rintro (h | h | h | h); exact h1 h; exact h2 h; exact h3 h; exact h4 h)]
 have hh:=ha (by unfold wt at *; omega) d b hd
 revert hh
 generalize (pf m).at1 d l b=o
 intro hh
 cases o with
 | none=>obtain ⟨x,l',b',hr⟩:=hh; exact zo hr ⟨_,_,_,rfl⟩
 | some y=>exact zo hh.1 (xz rfl hh.2)
theorem zPA (fu m:Nat) (hfu:2000 < fu) (nf:Bool) (l:List TokT) (ht:∀ t ∈ l,t.text.length<=1000)
 (hi:∀ l1,l1.length < l.length->l1 <:+ l->wt l1 5 < m->∀ (d:Nat) (b:Int),d<=60->Out nf l1 ((pf m).inn d l1 b) ((rf fu m).c54 ((d:Int),()) ((nf,l1),false,b))) :
 wt l 1 < m+1->∀ (d:Nat) (b:Int),d<=60->Out nf l ((pf (m+1)).at1 d l b) ((rf fu (m+1)).c82 ((d:Int),()) ((nf,l),false,b)):=fun hw d b hd=>by
 show Out nf l (if sg l=[40] then ((pf m).inn d (l.drop 1) b).bind fun x=>if sg x.2.1=[41] then some (x.1,x.2.1.drop 1,x.2.2) else none
  else hdA l b) (outE (sh82 fu (c13 fu) c15 c52 c53 (rf fu m).c54 (((nf,l),(false,(b,()))),()) ((d:Int),())))
 unfold sh82
 refine zo (zBm nf false l b) ?_
 dsimp only
 by_cases h1:sg l=[40]
 · rw [if_pos h1]
   have hne:l≠[]:=zF8 h1 (by decide)
   have hl:=qM hne
   refine yL (yW h1) ?_
   refine zo (zAu nf false l b _ h1 hne) ?_
   dsimp only
   refine zBb (hi (l.drop 1) (by omega) (List.drop_suffix _ _) (by unfold wt at *; omega) d b hd) (fun y _ hy=>?_) fun x l' b'=>?_
   · dsimp only
     by_cases h2:sg y.2.1=[41]
     · rw [if_pos h2]
       refine zo (zAu nf false y.2.1 y.2.2 _ h2 (zF8 h2 (by decide))) ?_
       exact xz rfl (qP (hy.trans (List.drop_suffix _ _)))
     · rw [if_neg h2]
       refine zo (zG0 nf false y.2.1 y.2.2 _ h2) ?_
       exact ⟨_,_,_,rfl⟩
   · dsimp only
     obtain ⟨l2,h3⟩:=zKh nf true l' b' [41] (by decide) rfl
     exact ⟨x,l2,b',zDE h3 rfl⟩
 rw [if_neg h1]
 refine zx (yB h1) ?_
 cases l with
 | nil=>exact yL (yY rfl) ⟨_,_,_,rfl⟩
 | cons t r=>
  have htx:=ht t (by simp)
  refine zx (z7 (by show ((r.length+1:Nat):Int)≠0; omega)) ?_
  refine yL (zY (Int.le_refl _) (by show (0:Int) < ((r.length+1:Nat):Int); omega)) ?_
  refine yL (ym (by omega) (by show (1:Int)<=((r.length+1:Nat):Int); omega) (Int.le_refl _)) ?_
  have e2:cutL (t::r) 1 (lenI (t::r))=r:=zB0 (t::r) 1
  rw [e2]
  simp only [zKA]
  show Out nf (t::r) ((jQ t).bind fun v=>some (.num v.1,r,if b=0 then v.2 else b)) _
  have fin:∀ v e:Int,jQ t=some (v,e)->Out nf (t::r) ((jQ t).bind fun v=>some (.num v.1,r,if b=0 then v.2 else b)) (outE (cond (ieq b 0) (some (Option.some ((((nf,r),(false,(e,()))),()),((VT.num v),())))) (some (Option.some ((((nf,r),(false,(b,()))),()),((VT.num v),())))))):=fun v e hv=>by
   rw [hv,Option.bind_some]
   by_cases hb:b=0
   · rw [if_pos hb]; exact yL (yY hb) (xz rfl (List.suffix_cons t r))
   · rw [if_neg hb]; exact zx (z7 hb) (xz rfl (List.suffix_cons t r))
  have hk0:TokT.kind (List.getD (t::r) 0 tokD)=t.kind:=rfl
  have hx0:TokT.text (List.getD (t::r) 0 tokD)=t.text:=rfl
  rw [hk0,hx0]
  by_cases k2:t.kind=2
  · refine yL (yY k2) ?_
    refine zo (c13_eq fu t.text (by omega) (by omega)) ?_
    exact fin _ _ (by unfold jQ; rw [if_pos k2])
  refine zx (z7 k2) ?_
  by_cases k3:t.kind=3
  · refine yL (yY k3) ?_
    obtain ⟨q1,⟨v,e,u⟩,q2⟩:=zNr t.text (by omega)
    refine zo (q1.trans q2) ?_
    refine fin v e ?_
    unfold jQ
    rw [if_neg k2,if_pos k3,q2]; rfl
  refine zx (z7 k3) ?_
  by_cases k1:t.kind=1
  · refine yL (yY k1) ?_
    exact fin 0 0 (by unfold jQ; rw [if_neg k2,if_neg k3,if_pos k1])
  · refine zx (z7 k1) ?_
    have hv:jQ t=none:=by unfold jQ; rw [if_neg k2,if_neg k3,if_neg k1]
    rw [hv]
    by_cases hb:b=0
    · exact yL (yY hb) ⟨_,_,_,rfl⟩
    · exact zx (z7 hb) ⟨_,_,_,rfl⟩
theorem zNP:∀ (l:List (Str×Int)) (x:Str),(∀ p ∈ l,0<=p.2/\p.2<=10)->0<=lvl l x/\lvl l x<=10
 | [],x,_=>⟨by show (0:Int)<=0; omega,by show (0:Int)<=10; omega⟩
 | (t,n)::r,x,h=>by
  unfold lvl
  by_cases e:x=t
  · rw [if_pos e]; exact h (t,n) (by simp)
  · rw [if_neg e]; exact zNP r x fun p hp=>h p (by simp [hp])
theorem lv_le (x:Str):0<=lv x/\lv x<=10:=zNP lvL x (by decide)
theorem lv_nil:lv []=0:=by decide
theorem zOy (fu m:Nat) (hfu:2000 < fu) (nf:Bool) (l:List TokT) (hl9:l.length < 1500) (hu:wt l 2 < m->∀ (d:Nat) (b:Int),d<=60->Out nf l ((pf m).un d l b) ((rf fu m).c73 ((d:Int),()) ((nf,l),false,b)))
 (hb:∀ l1,l1.length < l.length->l1 <:+ l->wt l1 3 < m->∀ (n:Nat) (d:Nat) (b:Int),n<=11->d<=60->Out nf l1 ((pf m).bin (n:Int) d l1 b) ((rf fu m).c51 ((n:Int),(d:Int),()) ((nf,l1),false,b))) :
 wt l 3 < m+1->∀ (n:Nat) (d:Nat) (b:Int),n<=11->d<=60->Out nf l ((pf (m+1)).bin (n:Int) d l b) ((rf fu (m+1)).c51 ((n:Int),(d:Int),()) ((nf,l),false,b)):=fun hw n d b hn hd=>by
 show Out nf l (((pf m).un d l b).bind fun x=>zk (fun n l b=>(pf m).bin n d l b) (n:Int) (x.2.1.length+1) x.1 x.2.1 x.2.2) (outE (sh51 fu c74 (rf fu m).c51 c52 c53 (rf fu m).c73 (((nf,l),(false,(b,()))),()) ((n:Int),((d:Int),()))))
 unfold sh51
 dsimp only
 have key:∀ (O:Option PR) (x:VT) (l1:List TokT) (w:Bool) (b1:Int),((w=true/\O=none)\/(w=false/\l1 <:+ l/\∃ k,l1.length < k/\zk (fun n l b=>(pf m).bin n d l b) (n:Int) k x l1 b1=O)) ->
  Out nf l O (outE (iter fu (fun (rec1:((VT×PUnit)×(((Bool×(List TokT))×(Bool×(Int×PUnit)))×PUnit))->Option (Option ((((Bool×(List TokT))×(Bool×(Int×PUnit)))×PUnit)×(VT×PUnit)))) (s1:((VT×PUnit)×(((Bool×(List TokT))×(Bool×(Int×PUnit)))×PUnit)))=>
   cond (!s1.2.1.2.1)
    (Option.bind (c52 () ((s1.2.1.1.1,s1.2.1.1.2),(s1.2.1.2.1,s1.2.1.2.2.1))) fun y1=>
     Option.bind (c74 (y1.1.1,())) fun y2=>
      cond (ilt y2.1 (n:Int))
       (some (Option.some ((((y1.2.1.1,y1.2.1.2),(y1.2.2.1,(y1.2.2.2,()))),()),(s1.1.1,()))))
       (cond (ieq y2.1 0)
        (some (Option.some ((((y1.2.1.1,y1.2.1.2),(y1.2.2.1,(y1.2.2.2,()))),()),(s1.1.1,()))))
        (Option.bind (c53 (y1.1.1,()) ((y1.2.1.1,y1.2.1.2),(y1.2.2.1,y1.2.2.2))) fun y3=>
         Option.bind ((rf fu m).c51 ((iadd .i64 y2.1 1),((d:Int),())) ((y3.2.1.1,y3.2.1.2),(y3.2.2.1,y3.2.2.2))) fun y4=>
          rec1 (((VT.bin (BinT.sign (BinT.mk y1.1.1 s1.1.1 y4.1.1)) (BinT.x (BinT.mk y1.1.1 s1.1.1 y4.1.1)) (BinT.y (BinT.mk y1.1.1 s1.1.1 y4.1.1))),()),(((y4.2.1.1,y4.2.1.2),(y4.2.2.1,(y4.2.2.2,()))),())))))
    (some (Option.some ((((s1.2.1.1.1,s1.2.1.1.2),(s1.2.1.2.1,(s1.2.1.2.2.1,()))),()),(s1.1.1,())))))
   ((x,()),(((nf,l1),(w,(b1,()))),())))):=fun O x l1 w b1 h0=>by
  refine zBA (fun o=>Out nf l O (outE o)) (fun st=>∃ x l1 w b1,st=(((x,()),(((nf,l1),(w,(b1,()))),())):(VT×PUnit)×(((Bool×List TokT)×Bool×Int×PUnit)×PUnit))/\((w=true/\O=none)\/(w=false/\l1 <:+ l/\∃ k,l1.length < k/\zk (fun n l b=>(pf m).bin n d l b) (n:Int) k x l1 b1=O)))
   (fun st=>if st.2.1.2.1 then 0 else st.2.1.1.2.length+1) ?_ fu _ ⟨x,l1,w,b1,rfl,h0⟩ (by
    dsimp only
    rcases h0 with ⟨rfl,_⟩ | ⟨rfl,h,_⟩
    · rw [if_pos rfl]; omega
    · rw [if_neg Bool.false_ne_true]
      have:=zBh h
      omega)
  clear h0 x l1 w b1
  rintro rec st ⟨x,l1,w,b1,rfl,hinv⟩ hrec
  dsimp only
  rcases hinv with ⟨rfl,rfl⟩ | ⟨rfl,hsuf,k,hk,hO⟩
  · exact zx rfl ⟨_,_,_,rfl⟩
  refine yL rfl ?_
  refine zo (zBm nf false l1 b1) ?_
  dsimp only
  refine zo (c74_eq (sg l1)) ?_
  dsimp only
  cases k with
  | zero=>omega
  | succ k=>
   rw [zk] at hO
   by_cases hs:lv (sg l1) < (n:Int)\/lv (sg l1)=0
   · rw [if_pos hs] at hO
     subst hO
     by_cases h1:lv (sg l1) < (n:Int)
     · exact yL (ya h1) (xz rfl hsuf)
     · refine zx (z6 (by omega)) ?_
       exact yL (yY (by omega)) (xz rfl hsuf)
   · rw [if_neg hs] at hO
     refine zx (z6 (by omega)) (zx (z7 (by omega)) ?_)
     have hsg:sg l1≠[]:=fun e=>hs (.inr (by rw [e]; exact lv_nil))
     have hne:l1≠[]:=fun e=>hsg (by rw [e]; rfl)
     have hl:=qM hne
     have hle:=zBh hsuf
     refine zo (zAu nf false l1 b1 _ rfl hne) ?_
     dsimp only
     obtain ⟨q,hq⟩:∃ q:Nat,lv (sg l1)=(q:Int):=⟨(lv (sg l1)).toNat,by have:=(lv_le (sg l1)).1; omega⟩
     have hq10:=(lv_le (sg l1)).2
     rw [hq,i1 (k:=q) (by omega)]
     have hh:=hb (l1.drop 1) (by omega) (qP hsuf) (by unfold wt at *; omega) (q+1) d b1 (by omega) hd
     have e1:(lv (sg l1)+1:Int)=((q+1:Nat):Int):=by omega
     rw [e1] at hO
     have hO':(((pf m).bin ((q+1:Nat):Int) d (l1.drop 1) b1).bind fun y=>zk (fun n l b=>(pf m).bin n d l b) (n:Int) k (.bin (sg l1) x y.1) y.2.1 y.2.2)=O:=hO
     revert hh hO'
     generalize (pf m).bin ((q+1:Nat):Int) d (l1.drop 1) b1=o
     intro hh hO'
     cases o with
     | none=>
      obtain ⟨x2,l2,b2,hr⟩:=hh
      refine zo hr ?_
      exact hrec _ ⟨_,l2,true,b2,rfl,.inl ⟨rfl,hO'.symm⟩⟩ (by dsimp only; rw [if_pos rfl,if_neg Bool.false_ne_true]; omega)
     | some y=>
      refine zo hh.1 ?_
      have h5:=zBh hh.2
      exact hrec _ ⟨_,y.2.1,false,y.2.2,rfl,.inr ⟨rfl,hh.2.trans (qP hsuf),k,by omega,hO'⟩⟩ (by dsimp only; rw [if_neg Bool.false_ne_true,if_neg Bool.false_ne_true]; omega)
 have hh:=hu (by unfold wt at *; omega) d b hd
 revert hh
 generalize (pf m).un d l b=o
 intro hh
 cases o with
 | none=>
  obtain ⟨x,l',b',hr⟩:=hh
  refine zo hr ?_
  exact key none x l' true b' (.inl ⟨rfl,rfl⟩)
 | some y=>
  refine zo hh.1 ?_
  exact key _ y.1 y.2.1 false y.2.2 (.inr ⟨rfl,hh.2,y.2.1.length+1,by omega,rfl⟩)
theorem zOp (fu m:Nat) (nf:Bool) (l:List TokT) (hb:wt l 3 < m->∀ (n:Nat) (d:Nat) (b:Int),n<=11->d<=60->Out nf l ((pf m).bin (n:Int) d l b) ((rf fu m).c51 ((n:Int),(d:Int),()) ((nf,l),false,b)))
 (hi:∀ l1,l1.length < l.length->l1 <:+ l->wt l1 5 < m->∀ (d:Nat) (b:Int),d<=60->Out nf l1 ((pf m).inn d l1 b) ((rf fu m).c54 ((d:Int),()) ((nf,l1),false,b))) :
 wt l 4 < m+1->∀ (d:Nat) (b:Int),d<=60->Out nf l ((pf (m+1)).cho d l b) ((rf fu (m+1)).c26 ((d:Int),()) ((nf,l),false,b)):=fun hw d b hd=>by
 show Out nf l (((pf m).bin ((1:Nat):Int) d l b).bind fun c=>if sg c.2.1=[63] then ((pf m).inn d (c.2.1.drop 1) c.2.2).bind fun x=>if sg x.2.1=[58] then ((pf m).inn d (x.2.1.drop 1) x.2.2).bind fun y=>some (.cho c.1 x.1 y.1,y.2.1,y.2.2) else none else some c)
  (outE (sh26 fu (rf fu m).c51 c52 c53 (rf fu m).c54 (((nf,l),(false,(b,()))),()) ((d:Int),())))
 unfold sh26
 dsimp only
 obtain ⟨m',rfl⟩:∃ m',m=m' + 1:=⟨m - 1,by unfold wt at hw; omega⟩
 refine zBb (hb (by unfold wt at *; omega) 1 d b (by omega) hd) (fun c _ hc=>?_) fun x l' b'=>⟨x,l',b',rfl⟩
 refine zx rfl ?_
 refine zo (zBm nf false c.2.1 c.2.2) ?_
 dsimp only
 by_cases h1:sg c.2.1=[63]
 rotate_left
 · rw [if_neg h1]
   exact yL (zDz (yB h1)) (xz rfl hc)
 rw [if_pos h1]
 have hne:c.2.1≠[]:=zF8 h1 (by decide)
 have hl1:=qM hne
 have hlc:=zBh hc
 refine zx (zDW (yW h1)) ?_
 refine zo (zAu nf false c.2.1 c.2.2 _ h1 hne) ?_
 dsimp only
 refine zBb (hi (c.2.1.drop 1) (by omega) (qP hc) (by unfold wt at *; omega) d c.2.2 hd) (fun x _ hx=>?_) fun x l' b'=>?_
 · dsimp only
   have hx':x.2.1 <:+ l:=hx.trans (qP hc)
   have hlx:=zBh hx
   by_cases h2:sg x.2.1=[58]
   · rw [if_pos h2]
     have hne2:x.2.1≠[]:=zF8 h2 (by decide)
     have hl2:=qM hne2
     refine zo (zAu nf false x.2.1 x.2.2 _ h2 hne2) ?_
     dsimp only
     refine zBb (hi (x.2.1.drop 1) (by omega) (qP hx') (by unfold wt at *; omega) d x.2.2 hd) (fun y _ hy=>?_) fun y l' b'=>⟨_,_,_,rfl⟩
     exact xz rfl (hy.trans (qP hx'))
   · rw [if_neg h2]
     refine zo (zG0 nf false x.2.1 x.2.2 _ h2) ?_
     dsimp only
     exact zo (zHW fu m' nf x.2.1 d x.2.2) ⟨_,_,_,rfl⟩
 · dsimp only
   obtain ⟨l2,h3⟩:=zKh nf true l' b' [58] (by decide) rfl
   exact ⟨_,_,_,zDE h3 (zDE (zHW fu m' nf l2 d b') rfl)⟩
theorem zLT (fu:Nat) (hfu:2000 < fu) (nf:Bool):∀ (m:Nat) (l:List TokT),l.length < 1500->(∀ t ∈ l,t.text.length<=1000)->Reads fu m nf l
 | 0,l,_,_=>⟨fun h=>absurd h (by omega),fun h=>absurd h (by omega),fun h=>absurd h (by omega),fun h=>absurd h (by omega),fun h=>absurd h (by omega)⟩
 | m+1,l,hl,ht=>by
  have ih:=zLT fu hfu nf m l hl ht
  have ihs:∀ l1:List TokT,l1.length < l.length->l1 <:+ l->Reads fu m nf l1:=fun l1 h1 h2=>zLT fu hfu nf m l1 (by omega) fun t h=>ht t (h2.subset h)
  exact ⟨zPA fu m hfu nf l ht fun l1 h1 h2=>(ihs l1 h1 h2).inn,zPG fu m nf l ih.at1 fun l1 h1 h2=>(ihs l1 h1 h2).un,zOy fu m hfu nf l hl ih.un fun l1 h1 h2=>(ihs l1 h1 h2).bin,zOp fu m nf l ih.bin fun l1 h1 h2=>(ihs l1 h1 h2).inn,zOW fu m nf l ih.cho⟩
end
section
open Go.Al Go.Den
theorem zDi (file:Int) (cs:List CharT):∀ (f:Nat) (r:Str) (i:Nat) (b:Bool),r.length < f->lexF file cs f r i b=lexF file cs (f+1) r i b
 | 0,r,i,b,h=>by omega
 | f+1,r,i,b,h=>by
  rw [lexF,lexF]
  by_cases hr:r=[]
  · rw [if_pos hr,if_pos hr]
  rw [if_neg hr,if_neg hr]
  have hl:1<=r.length:=by cases r with
   | nil=>exact absurd rfl hr
   | cons c q=>simp
  by_cases hb:0 < blaL r
  · rw [if_pos hb,if_pos hb]
    exact zDi file cs f _ _ _ (by rw [List.length_drop]; omega)
  · rw [if_neg hb,if_neg hb]
    have:=kR r
    rw [zDi file cs f _ _ _ (by rw [List.length_drop]; omega)]
def lexA (file:Int) (cs:List CharT) (r:Str) (i:Nat) (b:Bool):List TokT:=lexF file cs (r.length+1) r i b
theorem zKE (file:Int) (cs:List CharT) (r:Str) (i:Nat) (b:Bool):∀ d:Nat,lexF file cs (r.length+1+d) r i b=lexA file cs r i b
 | 0=>rfl
 | d+1=>by rw [<- zKE file cs r i b d,Nat.add_succ]; exact (zDi file cs _ r i b (by omega)).symm
theorem zKj (file:Int) (cs:List CharT) (r:Str) (i:Nat) (b:Bool):lexA file cs r i b=if r=[] then [] else if 0 < blaL r then lexA file cs (r.drop (blaL r)) (i+blaL r) true
 else ⟨(yE r).1,r.take (yE r).2,file,(cs.getD i yX).fat,(cs.getD (i+(yE r).2 - 1) yX).fat+1,b⟩::lexA file cs (r.drop (yE r).2) (i+(yE r).2) false:=by
 rw [lexA,lexF]
 by_cases hr:r=[]
 · rw [if_pos hr,if_pos hr]
 rw [if_neg hr,if_neg hr]
 have hl:1<=r.length:=by cases r with
  | nil=>exact absurd rfl hr
  | cons c q=>simp
 have key:∀ (n:Nat) (i:Nat) (b:Bool),0 < n->lexF file cs r.length (r.drop n) i b=lexA file cs (r.drop n) i b:=fun n i b hn=>by
  have h:=zKE file cs (r.drop n) i b (r.length - ((r.drop n).length+1))
  have h2:(r.drop n).length+1<=r.length:=by rw [List.length_drop]; omega
  rw [Nat.add_sub_cancel' h2] at h
  exact h
 by_cases hb:0 < blaL r
 · rw [if_pos hb,if_pos hb,key _ _ _ hb]
 · rw [if_neg hb,if_neg hb,key _ _ _ (kR r)]
def txt (cs:List CharT):Str:=cs.map fun c=>UInt8.ofNat c.b.toNat
def tokS (file:Int) (t:Str):List TokT:=lexA file (chG t 0) (txt (chG t 0)) 0 false
theorem zG7:∀ (s:List UInt8) (i:Nat),∀ c ∈ chG s i,(i:Int)<=c.fat/\c.fat < i+s.length
 | [],_,c,h=>by simp [chG] at h
 | [a],i,c,h=>by
  simp only [chG,List.mem_singleton] at h
  subst h
  simp
  omega
 | a::d::r,i,c,h=>by
  unfold chG at h
  have h1:=zG7 r (i+2) c
  have h2:=zG7 (d::r) (i+1) c
  simp only [List.length_cons] at h2 ⊢
  cases hb:(a == 92 && d == 10) with
  | true=>
   rw [hb,cond_true] at h
   have:=h1 h
   push_cast at this ⊢
   omega
  | false=>
   rw [hb,cond_false,List.mem_cons] at h
   rcases h with rfl | h
   · push_cast; simp; omega
   · have:=h2 h
     push_cast at this ⊢
     omega
theorem zLC (t:Str) (j:Nat):0<=((chG t 0).getD j yX).fat/\((chG t 0).getD j yX).fat<=t.length:=by
 rw [List.getD_eq_getElem?_getD]
 by_cases h:j < (chG t 0).length
 · rw [List.getElem?_eq_getElem h]
   have:=zG7 t 0 _ (List.getElem_mem h)
   show 0<=((chG t 0)[j]).fat/\((chG t 0)[j]).fat<=t.length
   omega
 · rw [List.getElem?_eq_none (by omega)]
   exact ⟨Int.le_refl _,by show (0:Int)<=_; omega⟩
set_option maxRecDepth 4000 in
theorem c10_eq (fu:Nat) (file:Int) (t:Str) (ht:t.length<=1090000) (hfu:t.length+100 < fu):c10 fu (file,t,())=some (tokS file t,()):=by
 show sh10 fu c27 c28 (c29 fu) (c30 fu) (fun _=>false) file t=_
 unfold sh10
 have hcl:=zAH t 0
 have hl:(txt (chG t 0)).length=(chG t 0).length:=by unfold txt; rw [List.length_map]
 refine zK (show c27 (t,())=some (chG t 0,()) from if_pos (show t.length < 1100000 by omega)) ?_
 dsimp only
 refine zK (show c28 (chG t 0,())=some (txt (chG t 0),()) from if_pos (show (chG t 0).length < 1100000 by omega)) ?_
 dsimp only
 have hfat:=zLC t
 unfold tokS
 generalize hcs:chG t 0=cs at hcl hl hfat ⊢
 generalize hs:txt cs=s at hl ⊢
 have hs9:s.length<=1090000:=by omega
 have hf9:s.length+100 < fu:=by omega
 refine zn (fun st=>∃ (p:Nat) (out:List TokT),st=(((out,()),((s,((p:Int),())),())):(List TokT×PUnit)×(Str×Int×PUnit)×PUnit)/\p<=s.length/\out.length<=p/\out++lexA file cs (s.drop p) p false=lexA file cs s 0 false) (fun st=>s.length+1 - st.2.1.2.1.toNat) ?_ fu _ ⟨0,[],rfl,Nat.zero_le _,Nat.le_refl _,rfl⟩ (by show s.length+1 - (0:Int).toNat < fu; omega)
 rintro rec st ⟨p0,out,rfl,hp0,hout,hw⟩ hrec
 dsimp only
 refine zn (fun st=>∃ (p:Nat) (b:Bool),st=(((out,()),((s,((p:Int),())),((0,([],(file,(0,(0,(b,())))))),()))):(List TokT×PUnit)×(Str×Int×PUnit)×(Int×Str×Int×Int×Int×Bool×PUnit)×PUnit)/\p0<=p/\p<=s.length/\out++lexA file cs (s.drop p) p b=lexA file cs s 0 false) (fun st=>s.length+1 - st.2.1.2.1.toNat) ?_ fu _ ⟨p0,false,rfl,Nat.le_refl _,hp0,hw⟩ (by show s.length+1 - (p0:Int).toNat < fu; omega)
 clear hw
 rintro rec2 st ⟨p,b,rfl,hpp,hp,hw⟩ hrec2
 dsimp only
 rw [zKj] at hw
 have h29:=e29 hs9 hf9 hp
 have h30:=e30 hs9 hf9 hp
 have hbl:=zGx (s.drop p)
 rw [List.length_drop] at hbl
 have hnp:=kR (s.drop p)
 have hnl:=zEq (s.drop p)
 rw [List.length_drop] at hnl
 rw [show lenI s=(s.length:Int) from rfl]
 generalize yE (s.drop p)=kn at hw h30 hnp hnl
 obtain ⟨kk,n⟩:=kn
 dsimp only at hw h30 hnp hnl
 generalize blaL (s.drop p)=B at hw h29 hbl
 have he:¬ p < s.length->out=lexA file cs s 0 false:=fun h=>by
  rw [if_pos (List.drop_eq_nil_of_le (by omega)),List.append_nil] at hw
  exact hw
 have tok:p < s.length->B=0->(Option.bind (c30 fu () s (p:Int)) fun y3=>
  cond (inS y3.2 (iadd .i64 y3.2 y3.1.2.1) (List.length s))
   (cond (inB y3.2 (List.length cs))
    (cond (inB (isub .i64 (iadd .i64 y3.2 y3.1.2.1) 1) (List.length cs))
     (cond (okN 56 ((List.length out)+(List.length [(TokT.mk y3.1.1 (cutL s y3.2 (iadd .i64 y3.2 y3.1.2.1)) file (CharT.fat (List.getD cs (Int.toNat y3.2) yX)) (iadd .i64 (CharT.fat (List.getD cs (Int.toNat (isub .i64 (iadd .i64 y3.2 y3.1.2.1) 1)) yX)) 1) b)])))
      (rec (((out++[(TokT.mk y3.1.1 (cutL s y3.2 (iadd .i64 y3.2 y3.1.2.1)) file (CharT.fat (List.getD cs (Int.toNat y3.2) yX)) (iadd .i64 (CharT.fat (List.getD cs (Int.toNat (isub .i64 (iadd .i64 y3.2 y3.1.2.1) 1)) yX)) 1) b)]),()),((s,((iadd .i64 y3.2 y3.1.2.1),())),())))
      (none))
     (none))
    (none))
   (none))=some (lexA file cs s 0 false,()):=fun hlt hB=>by
  have hne:s.drop p≠[]:=fun e=>by
   have:=congrArg List.length e
   rw [List.length_drop,List.length_nil] at this
   omega
  have hn:=hnl hne
  rw [if_neg hne,if_neg (by omega)] at hw
  refine zK h30 ?_
  dsimp only
  have e1:iadd .i64 (p:Int) (n:Int)=((p+n:Nat):Int):=by rw [zl _ _ (by omega) (by omega)]; omega
  have e2:isub .i64 ((p+n:Nat):Int) 1=((p+n - 1:Nat):Int):=by rw [zBx _ _ (by omega) (by omega)]; omega
  rw [e1,e2,Int.toNat_natCast,Int.toNat_natCast]
  have hf:=hfat (p+n - 1)
  rw [zl _ 1 (by omega) (by omega)]
  refine zF (ym (by omega) (by omega) (by omega)) ?_
  refine zF (zY (by omega) (by omega)) ?_
  refine zF (zY (by omega) (by omega)) ?_
  refine zF (kT (by rw [List.length_singleton]; omega) (by rw [List.length_singleton]; simp only [maxLen]; omega)) ?_
  have e3:cutL s (p:Int) ((p+n:Nat):Int)=(s.drop p).take n:=by
   unfold cutL
   rw [Int.toNat_natCast,Int.toNat_natCast,List.drop_take,Nat.add_sub_cancel_left]
  rw [e3]
  refine hrec _ ⟨p+n,_,rfl,by omega,by rw [List.length_append,List.length_singleton]; omega,?_⟩ (by dsimp only; omega)
  rw [List.append_assoc,List.singleton_append,<- List.drop_drop]
  exact hw
 with_reducible refine zh (fun h=>?_) fun h=>?_
 · have hlt:p < s.length:=by omega
   have hne:s.drop p≠[]:=fun e=>by
    have:=congrArg List.length e
    rw [List.length_drop,List.length_nil] at this
    omega
   refine zK h29 ?_
   dsimp only
   refine qf (fun h1=>?_) fun h1=>?_
   · have hB:0 < B:=of_decide_eq_true h1
     rw [if_neg hne,if_pos hB,List.drop_drop] at hw
     exact hrec2 _ ⟨p+B,true,rfl,by omega,by omega,hw⟩ (by dsimp only; omega)
   · have hB:¬ 0 < B:=of_decide_eq_false h1
     obtain rfl:B=0:=by omega
     rw [Nat.add_zero]
     with_reducible refine xE (fun h2=>?_) fun h2=>?_
     · exfalso; omega
     · exact tok hlt rfl
 · with_reducible refine xE (fun h2=>?_) fun h2=>?_
   · rw [he (by omega)]
   · exfalso; omega
end
section
open Go.Al Go.Den
def noNl (l:List TokT):List TokT:=l.filter fun t=>decide (t.kind≠7)
theorem zKk (t:TokT):TokT.mk t.kind t.text t.file t.ffrom t.fto t.blank=t:=by cases t; rfl
theorem zNn {α:Type} (l:List α):zU l.length l=l:=List.take_length
theorem zD4 {α:Type} {n:Nat} {l:List α} (h:l.length=n):zU n l=l:=by unfold zU; exact List.take_of_length_le (by omega)
theorem zEE {a b:Nat} (h:a=b):eqN a b=true:=by subst h; unfold eqN; simp
theorem zHm {α:Type} (y:List α) (i:Nat) (x:α) (h:i < y.length):(y.set i x).take (i+1)=y.take i++[x]:=by
 rw [List.take_succ_eq_append_getElem (by rw [List.length_set]; exact h),List.getElem_set_self,List.take_set,List.set_eq_of_length_le (by rw [List.length_take]; omega)]
theorem zLY {a b:Nat} (h:a < b):Nat.blt a b=true:=by simp [Nat.blt_eq,h]
theorem zMM {a b:Nat} (h:a<=b):Nat.ble a b=true:=Nat.ble_eq_true_of_le h
theorem zP9 (fu:Nat):c23 (fu+1) (none,((),()))=some ((true,[]),()):=by kernel_rfl
theorem zPW {β:Type} {v:β} {o:Option (Option (Unit×β))} (h:o=some (some ((),v))):outF o=some v:=by rw [h]; rfl
theorem c23_eq (fu:Nat) (l:List TokT) (hl:l.length < 1500) (hfu:2000 < fu):c23 fu (some l,((),()))=some ((false,noNl l),()):=by
 show outF (sh23 fu () (some l,((),())))=some ((false,noNl l),())
 refine zPW ?_
 show sh23 fu () (some l,((),()))=(some (some ((),((false,noNl l),()))):Option (Option (Unit×((Bool×List TokT)×Unit))))
 unfold sh23
 dsimp only [zy]
 have ht:zU l.length l=l:=zNn l
 rw [ht]
 refine zF (zEE rfl) ?_
 have second:∀ (k:Nat) {F:((Int×(Int×PUnit))×((Option (List TokT))×PUnit)->Option (Option (PUnit×((Bool×(List TokT))×PUnit))))->((Int×(Int×PUnit))×((Option (List TokT))×PUnit))->Option (Option (PUnit×((Bool×(List TokT))×PUnit)))},
  (∀ (i j:Nat) (y:List TokT) rec (r:Option (Option (PUnit×((Bool×(List TokT))×PUnit)))),y.length=l.length->i < j->j<=l.length ->
   (j < l.length->(y.getD j tokD).kind≠7->rec (((((i+1:Nat):Int)),((((j+1:Nat):Int)),())),(some (y.set i (y.getD j tokD)),()))=r)->(j < l.length->(y.getD j tokD).kind=7->rec (((i:Int),((((j+1:Nat):Int)),())),(some y,()))=r) ->
   (j=l.length->(some (Option.some ((),((false,y.take i),()))):Option (Option (PUnit×((Bool×(List TokT))×PUnit))))=r)->F rec (((i:Int),((j:Int),())),(some y,()))=r) ->
  k < l.length->(l.getD k tokD).kind=7->noNl (l.take k)=l.take k ->
  iter fu F (((k:Int),((((k+1:Nat):Int)),())),(some l,()))=some (some ((),((false,noNl l),()))):=fun k F hF hk hk7 hpre=>by
  refine zn (fun st=>∃ (i j:Nat) (y:List TokT),st=((((i:Int),((j:Int),())),(some y,())):(Int×Int×PUnit)×(Option (List TokT))×PUnit)/\y.length=l.length/\i < j/\j<=l.length/\y.take i=noNl (l.take j)/\y.drop j=l.drop j) (fun st=>l.length - st.1.2.1.toNat) ?_ fu _ ⟨k,k+1,l,rfl,rfl,by omega,by omega,?_,rfl⟩ (by show l.length - ((k+1:Nat):Int).toNat < fu; omega)
  · rintro rec st ⟨i,j,y,rfl,hy,hij,hj,h1,h2⟩ hrec
    refine hF i j y rec _ hy hij hj (fun hlt h7=>?_) (fun hlt h7=>?_) (fun he=>?_)
    · have hyj:y.getD j tokD=y[j]'(by omega):=by rw [List.getD_eq_getElem?_getD,List.getElem?_eq_getElem (by omega)]; rfl
      have hlj:y[j]'(by omega)=l[j]:=by
       have:=congrArg List.head? h2
       rw [List.drop_eq_getElem_cons (by omega),List.drop_eq_getElem_cons hlt] at this
       injection this
      refine hrec _ ⟨i+1,j+1,_,rfl,by rw [List.length_set]; exact hy,by omega,by omega,?_,?_⟩ (by dsimp only; omega)
      · rw [zHm _ _ _ (by omega),hyj,h1,hlj,List.take_succ_eq_append_getElem hlt]
        unfold noNl
        rw [List.filter_append,List.filter_cons_of_pos (by rw [<- hlj,<- hyj]; exact decide_eq_true h7),List.filter_nil]
      · rw [List.drop_set_of_lt (by omega),<- List.drop_drop,h2,List.drop_drop]
    · have hyj:y.getD j tokD=y[j]'(by omega):=by rw [List.getD_eq_getElem?_getD,List.getElem?_eq_getElem (by omega)]; rfl
      have hlj:y[j]'(by omega)=l[j]:=by
       have:=congrArg List.head? h2
       rw [List.drop_eq_getElem_cons (by omega),List.drop_eq_getElem_cons hlt] at this
       injection this
      refine hrec _ ⟨i,j+1,y,rfl,hy,by omega,by omega,?_,?_⟩ (by dsimp only; omega)
      · rw [h1,List.take_succ_eq_append_getElem hlt]
        unfold noNl
        rw [List.filter_append,List.filter_cons_of_neg (by rw [<- hlj,<- hyj,h7]; decide),List.filter_nil,List.append_nil]
      · rw [<- List.drop_drop,h2,List.drop_drop]
    · rw [h1,he,List.take_length]
  · rw [List.take_succ_eq_append_getElem hk]
    unfold noNl
    rw [List.filter_append]
    have hg:l.getD k tokD=l[k]:=by rw [List.getD_eq_getElem?_getD,List.getElem?_eq_getElem hk]; rfl
    rw [List.filter_cons_of_neg (by rw [<- hg,hk7]; decide),List.filter_nil,List.append_nil]
    exact hpre.symm
 refine zn (fun st=>∃ k:Nat,st=((((k:Int),()),(some l,())):(Int×PUnit)×(Option (List TokT))×PUnit)/\k<=l.length/\noNl (l.take k)=l.take k) (fun st=>l.length - st.1.1.toNat) ?_ fu _ ⟨0,rfl,Nat.zero_le _,rfl⟩ (by show l.length - (0:Int).toNat < fu; omega)
 rintro rec st ⟨k,rfl,hk,hpre⟩ hrec
 dsimp only
 rw [ht]
 refine zh (fun h=>?_) fun h=>?_
 rotate_left
 · obtain rfl:k=l.length:=by have:Int.ofNat l.length<=(k:Int):=h; have e:Int.ofNat l.length=((l.length:Nat):Int):=rfl; omega
   refine zF (yY rfl) (zF (zMM (Nat.le_refl _)) ?_)
   rw [List.take_length] at hpre
   rw [hpre]
 have hlt:k < l.length:=by have:(k:Int) < Int.ofNat l.length:=h; have e:Int.ofNat l.length=((l.length:Nat):Int):=rfl; omega
 refine zF (zY (by omega) (by omega)) (zF (zLY (by rw [Int.toNat_natCast]; exact hlt)) ?_)
 rw [Int.toNat_natCast,i1 (k:=k) (by omega)]
 refine zc (fun h7=>?_) fun h7=>?_
 · refine zE (z7 (by show (k:Int)≠-1; omega)) (zF (zEE rfl) ?_)
   refine second k (fun i j y rec r hy hij hj r1 r2 r3=>?_) hlt h7 hpre
   dsimp only
   have hty:zU l.length y=y:=zD4 hy
   have hset:zU l.length (y.set i (y.getD j tokD))=y.set i (y.getD j tokD):=zD4 (by rw [List.length_set]; exact hy)
   rw [Int.toNat_natCast,Int.toNat_natCast,zKk,hty,hset,i1 (k:=i) (by omega),i1 (k:=j) (by omega)]
   refine zh (fun h=>?_) fun h=>?_
   · have hjl:j < l.length:=by have:(j:Int) < Int.ofNat l.length:=h; have e:Int.ofNat l.length=((l.length:Nat):Int):=rfl; omega
     refine zF (zY (by omega) (by omega)) (zF (zLY (by omega)) ?_)
     refine zGX (fun h7=>?_) fun h7=>?_
     · refine zF (zY (by omega) (by omega)) (zF (zLY (by omega)) (zF (zEE (by rw [List.length_set]; exact hy.symm)) ?_))
       exact r1 hjl (fun e=>by rw [yY e] at h7; cases h7)
     · refine zF (zEE hy.symm) ?_
       refine r2 hjl ?_
       rw [zAJ] at h7
       exact of_decide_eq_true h7
   · have hjl:j=l.length:=by have:Int.ofNat l.length<=(j:Int):=h; have e:Int.ofNat l.length=((l.length:Nat):Int):=rfl; omega
     have e:Int.ofNat l.length=((l.length:Nat):Int):=rfl
     rw [e,Int.toNat_natCast]
     refine zF (ym (by omega) (by omega) (by omega)) (zF (zMM (by omega)) ?_)
     have hb:Nat.beq (l.length - i) 0=false:=by
      cases hc:Nat.beq (l.length - i) 0
      · rfl
      · have:=Nat.eq_of_beq_eq_true hc; omega
     refine zE hb ?_
     have h9:(zU i y).length=i:=by unfold zU; rw [List.length_take]; omega
     refine zF (ym (by omega) (by omega) (by rw [h9]; exact Int.le_refl _)) (zF (zMM (by rw [h9]; exact Nat.le_refl _)) ?_)
     rw [zD4 h9]
     exact r3 hjl
 · refine zF (zEE rfl) ?_
   refine hrec _ ⟨k+1,rfl,hlt,?_⟩ (by dsimp only; omega)
   rw [List.take_succ_eq_append_getElem hlt]
   unfold noNl at hpre ⊢
   have hg:l.getD k tokD=l[k]:=by rw [List.getD_eq_getElem?_getD,List.getElem?_eq_getElem hlt]; rfl
   rw [List.filter_append,hpre,List.filter_cons_of_pos (by rw [<- hg]; exact decide_eq_true h7),List.filter_nil]
end
section
open Go.Al Go.Den
noncomputable def k111:Str×Int×Int×Unit->Option (Int×Int×Unit):=c111
noncomputable def kM (k:Nat):VT×Unit->Option (Int×Int×Unit):=cm k
noncomputable def k26 (fu m:Nat):Int×Unit->ES->Option ((VT×Unit)×ES):=(rf fu m).c26
noncomputable def both (s:Str) (a b:Int):Int×Int:=
 let y:=(k111 (s,a,b,())).getD (0,0,())
 (y.1,y.2.1)
theorem zNK (s:Str) (a b:Int):∃ y,c113 (s,a,b,())=some y:=by
 show ∃ y,sh113 0 (fun _=>false) s a b=some y
 have d:∀ (c:Bool) (x y:Option (Int×Unit)),(∃ z,x=some z)->(∃ z,y=some z)->∃ z,cond c x y=some z:=fun c x y h1 h2=>by cases c <;> assumption
 unfold sh113
 repeat' (first | exact ⟨_,rfl⟩ | refine d _ _ _ ?_ ?_)
theorem zLF (s:Str) (a b:Int):k111 (s,a,b,())=some ((both s a b).1,(both s a b).2,()):=by
 have h:∃ y:Int×Int×Unit,k111 (s,a,b,())=some y:=by
  show ∃ y:Int×Int×Unit,sh111 0 c113 (fun _=>false) s a b=some y
  obtain ⟨y,hy⟩:=zNK s a b
  have d:∀ (c:Bool) (x y:Option (Int×Int×Unit)),(c=true->∃ z,x=some z)->(c=false->∃ z,y=some z)->∃ z,cond c x y=some z:=fun c x y h1 h2=>by
   cases c
   · exact h2 rfl
   · exact h1 rfl
  unfold sh111
  refine d _ _ _ (fun _=>d _ _ _ (fun _=>⟨_,rfl⟩) fun h0=>?_) fun _=>?_
  · rw [zAJ] at h0
    have hb:=of_decide_eq_false h0
    refine d _ _ _ (fun _=>d _ _ _ (fun _=>⟨_,rfl⟩) fun _=>⟨_,rfl⟩) fun _=>?_
    rw [xI hb]
    exact d _ _ _ (fun _=>⟨_,rfl⟩) fun _=>⟨_,rfl⟩
  refine d _ _ _ (fun _=>d _ _ _ (fun _=>⟨_,rfl⟩) fun h0=>?_) fun _=>?_
  · rw [zAJ] at h0
    have hb:=of_decide_eq_false h0
    refine d _ _ _ (fun _=>d _ _ _ (fun _=>⟨_,rfl⟩) fun _=>⟨_,rfl⟩) fun _=>?_
    rw [xI hb]
    exact d _ _ _ (fun _=>⟨_,rfl⟩) fun _=>⟨_,rfl⟩
  refine d _ _ _ (fun _=>d _ _ _ (fun _=>⟨_,rfl⟩) fun h0=>d _ _ _ (fun _=>⟨_,rfl⟩) fun _=>?_) fun _=>?_
  · have hb:0<=b:=by have:=of_decide_eq_false h0; omega
    rw [qr hb]
    exact d _ _ _ (fun _=>⟨_,rfl⟩) fun _=>⟨_,rfl⟩
  refine d _ _ _ (fun _=>d _ _ _ (fun _=>⟨_,rfl⟩) fun h0=>d _ _ _ (fun _=>⟨_,rfl⟩) fun _=>?_) fun _=>?_
  · have hb:0<=b:=by have:=of_decide_eq_false h0; omega
    rw [qr hb]
    exact d _ _ _ (fun _=>⟨_,rfl⟩) fun _=>⟨_,rfl⟩
  refine d _ _ _ (fun _=>d _ _ _ (fun _=>⟨_,rfl⟩) fun _=>⟨_,rfl⟩) fun _=>?_
  refine d _ _ _ (fun _=>d _ _ _ (fun _=>⟨_,rfl⟩) fun _=>⟨_,rfl⟩) fun _=>?_
  exact ⟨(y.1,(0,())),zK hy rfl⟩
 obtain ⟨y,hy⟩:=h
 unfold both
 rw [hy]
 rfl
noncomputable def unV (s:Str) (a:Int):Int:=if s=[45] then isub .i64 0 a else if s=[33] then (if a=0 then 1 else 0) else if s=[126] then jnot .i64 a else a
noncomputable def vS:VT->Int×Int
 | .num n=>(n,0)
 | .un s x=>if (vS x).2=0 then (unV s (vS x).1,0) else (0,(vS x).2)
 | .bin s x y=>if (vS x).2=0 then (if s=[124,124]/\(vS x).1≠0 then (1,0) else if s=[38,38]/\(vS x).1=0 then (0,0) else if (vS y).2=0 then both s (vS x).1 (vS y).1 else (0,(vS y).2)) else (0,(vS x).2)
 | .cho c x y=>if (vS c).2=0 then (if (vS c).1=0 then vS y else vS x) else (0,(vS c).2)
def dp:VT->Nat
 | .num _=>0
 | .un _ x=>dp x+1
 | .bin _ x y=>max (dp x) (dp y)+1
 | .cho c x y=>max (dp c) (max (dp x) (dp y))+1
theorem zCZ:∀ (k:Nat) (x:VT),dp x < k->kM k (x,())=some ((vS x).1,(vS x).2,())
 | 0,x,h=>by omega
 | k+1,.num n,_=>rfl
 | k+1,.un s x,h=>by
  have ih:=zCZ k x (by simp only [dp] at h; omega)
  show sh115 0 (kM k) (fun _=>false) ⟨s,x⟩=_
  rw [vS]
  unfold sh115
  generalize vS x=v at ih ⊢
  obtain ⟨a,e⟩:=v
  refine zK ih ?_
  dsimp only
  have fin:∀ (c:Int),unV s a=c->cond (ine e 0) (some ((0:Int),(e,()))) (some (c,((0:Int),())))=some ((if e=0 then (unV s a,0) else (0,e)).1,(if e=0 then (unV s a,(0:Int)) else (0,e)).2,()):=fun c hc=>by
   subst hc
   refine xD (fun h=>?_) fun h=>?_
   · rw [if_neg h]
   · rw [if_pos h]
  by_cases h1:s=[45]
  · exact zF (yW h1) (fin _ (by unfold unV; rw [if_pos h1]))
  refine zE (yB h1) ?_
  by_cases h2:s=[33]
  · refine zF (yW h2) ?_
    refine zc (fun h3=>?_) fun h3=>?_
    · exact fin _ (by unfold unV; rw [if_neg h1,if_pos h2,if_pos h3])
    · exact fin _ (by unfold unV; rw [if_neg h1,if_pos h2,if_neg h3])
  refine zE (yB h2) ?_
  by_cases h3:s=[126]
  · exact zF (yW h3) (fin _ (by unfold unV; rw [if_neg h1,if_neg h2,if_pos h3]))
  · exact zE (yB h3) (fin _ (by unfold unV; rw [if_neg h1,if_neg h2,if_neg h3]))
 | k+1,.bin s x y,h=>by
  have ih:=zCZ k x (by simp only [dp] at h; omega)
  have ih2:=zCZ k y (by simp only [dp] at h; omega)
  show sh110 0 k111 (kM k) (fun _=>false) ⟨s,x,y⟩=_
  rw [vS]
  unfold sh110
  generalize vS x=v at ih ⊢
  obtain ⟨a,e⟩:=v
  refine zK ih ?_
  dsimp only
  refine xD (fun h0=>?_) fun h0=>?_
  · rw [if_neg h0]
  rw [if_pos h0]
  have fin:¬ (s=[124,124]/\a≠0)->¬ (s=[38,38]/\a=0)->(Option.bind (kM k (y,())) fun y1=>cond (ine y1.2.1 0) (some (0,(y1.2.1,()))) (Option.bind (k111 (s,(a,(y1.1,())))) fun y2=>some (y2.1,(y2.2.1,()))))=some ((if s=[124,124]/\a≠0 then ((1:Int),(0:Int)) else if s=[38,38]/\a=0 then (0,0) else if (vS y).2=0 then both s a (vS y).1 else (0,(vS y).2)).1,(if s=[124,124]/\a≠0 then ((1:Int),(0:Int)) else if s=[38,38]/\a=0 then (0,0) else if (vS y).2=0 then both s a (vS y).1 else (0,(vS y).2)).2,()):=fun n1 n2=>by
   rw [if_neg n1,if_neg n2]
   generalize vS y=v2 at ih2 ⊢
   obtain ⟨b,f⟩:=v2
   refine zK ih2 ?_
   dsimp only
   refine xD (fun h3=>?_) fun h3=>?_
   · rw [if_neg h3]
   · rw [if_pos h3]
     exact zK (zLF s a b) rfl
  by_cases h1:s=[124,124]
  · refine zF (yW h1) ?_
    refine xD (fun h2=>?_) fun h2=>?_
    · rw [if_pos ⟨h1,h2⟩]
    · refine zE (yB (by rw [h1]; decide)) ?_
      exact fin (fun h=>h.2 h2) (fun h=>by rw [h1] at h; exact absurd h.1 (by decide))
  refine zE (yB h1) ?_
  by_cases h2:s=[38,38]
  · refine zF (yW h2) ?_
    refine zc (fun h3=>?_) fun h3=>?_
    · rw [if_neg fun h=>h1 h.1,if_pos ⟨h2,h3⟩]
    · exact fin (fun h=>h1 h.1) fun h=>h3 h.2
  · exact zE (yB h2) (fin (fun h=>h1 h.1) fun h=>h2 h.1)
 | k+1,.cho c x y,h=>by
  have ih:=zCZ k c (by simp only [dp] at h; omega)
  have ih1:=zCZ k x (by simp only [dp] at h; omega)
  have ih2:=zCZ k y (by simp only [dp] at h; omega)
  show sh109 0 (kM k) (fun _=>false) ⟨c,x,y⟩=_
  rw [vS]
  unfold sh109
  generalize vS c=v at ih ⊢
  obtain ⟨a,e⟩:=v
  refine zK ih ?_
  dsimp only
  refine xD (fun h0=>?_) fun h0=>?_
  · rw [if_neg h0]
  rw [if_pos h0]
  refine xD (fun h1=>?_) fun h1=>?_
  · rw [if_neg h1]
    exact zK ih1 rfl
  · rw [if_pos h1]
    exact zK ih2 rfl
noncomputable def evS (m:Nat) (l:List TokT):Int×Int:=
 match (pf m).cho 0 (noNl l) 0 with
 | none=>(0,90)
 | some y=>if y.2.1=[] then (if y.2.2=0 then vS y.1 else (0,y.2.2)) else (0,90)
theorem zIn (l:List TokT):(noNl l).length<=l.length:=List.length_filter_le _ _
theorem c9_eq (fu m:Nat) (hfu:2000 < fu) (l:List TokT) (hl:l.length < 1500) (ht:∀ t ∈ l,t.text.length<=1000) (hm:13000 < m):∃ k0,∀ k,k0<=k->c9 fu m k (l,())=some ((evS m l).1,(evS m l).2,()):=by
 have hnl:=zIn l
 have part:∀ nf:Bool,∃ k0,∀ k,k0<=k->(Option.bind (k26 fu m (0,()) ((nf,noNl l),(false,0))) fun y1=>
  cond y1.2.2.1
   (some (0,(90,())))
   (cond (ilt 0 (lenI y1.2.1.2))
    (some (0,(90,())))
    (cond (ine y1.2.2.2 0)
     (some (0,(y1.2.2.2,())))
     (Option.bind (kM k (y1.1.1,())) fun y2=>
      some (y2.1,(y2.2.1,()))))))=(some ((evS m l).1,(evS m l).2,()):Option (Int×Int×Unit)):=fun nf=>by
  have hr:=(zLT fu hfu nf m (noNl l) (by omega) fun t h=>ht t ((List.mem_filter.1 h).1)).cho (by unfold wt; omega) 0 0 (by omega)
  unfold evS
  revert hr
  generalize (pf m).cho 0 (noNl l) 0=o
  intro hr
  cases o with
  | none=>
   obtain ⟨x,l',b',h⟩:=hr
   exact ⟨0,fun k _=>zK h (zF rfl rfl)⟩
  | some y=>
   obtain ⟨x,l',b'⟩:=y
   refine ⟨dp x+1,fun k hk=>zK hr.1 ?_⟩
   dsimp only
   refine zE rfl ?_
   by_cases h1:l' = []
   · rw [if_pos h1,h1]
     refine zE (z6 (Int.le_refl _)) ?_
     by_cases h2:b' = 0
     · rw [if_pos h2]
       refine zE (j7 h2) ?_
       exact zK (zCZ k x (by omega)) rfl
     · rw [if_neg h2]
       exact zF (xI h2) rfl
   · rw [if_neg h1]
     refine zF (ya ?_) rfl
     cases l' with
     | nil=>exact absurd rfl h1
     | cons a r=>show (0:Int) < ((r.length+1:Nat):Int); omega
 obtain ⟨f,rfl⟩:∃ f,fu=f+1:=⟨fu - 1,by omega⟩
 cases l with
 | nil=>
  obtain ⟨k0,hk⟩:=part true
  refine ⟨k0,fun k h0=>?_⟩
  show sh9 (f+1) (kM k) (c23 (f+1)) (k26 (f+1) m) (fun _=>false) []=_
  unfold sh9
  refine zF rfl ?_
  exact zK (zP9 f) (hk k h0)
 | cons t r=>
  obtain ⟨k0,hk⟩:=part false
  refine ⟨k0,fun k h0=>?_⟩
  show sh9 (f+1) (kM k) (c23 (f+1)) (k26 (f+1) m) (fun _=>false) (t::r)=_
  unfold sh9
  refine zE rfl ?_
  have hlr:r.length+1 < 1500:=hl
  refine zF (kT (by simp only [List.length_cons]; omega) (by simp only [List.length_cons,maxLen]; omega)) ?_
  refine zF (zEE (by simp)) ?_
  have e:(List.take 0 ([]:List TokT))++(t::r)=t::r:=rfl
  rw [e]
  exact zK (c23_eq (f+1) (t::r) hl hfu) (hk k h0)
noncomputable def evT (m:Nat) (t:Str):Int:=if (evS m (tokS 0 t)).2=0 then (evS m (tokS 0 t)).1 else isub .i64 (-1000) (evS m (tokS 0 t)).2
theorem zCe (file:Int) (cs:List CharT) (n:Nat):∀ (f:Nat) (r:Str) (i:Nat) (b:Bool),r.length<=n->(lexF file cs f r i b).length<=r.length/\∀ t ∈ lexF file cs f r i b,t.text.length<=n
 | 0,r,i,b,h=>⟨Nat.zero_le _,fun t ht=>by cases ht⟩
 | f+1,r,i,b,h=>by
  rw [lexF]
  by_cases hr:r=[]
  · rw [if_pos hr]; exact ⟨Nat.zero_le _,fun t ht=>by cases ht⟩
  rw [if_neg hr]
  by_cases hb:0 < blaL r
  · rw [if_pos hb]
    have hd:=List.length_drop (i:=blaL r) (l:=r)
    have ih:=zCe file cs n f (r.drop (blaL r)) (i+blaL r) true (by omega)
    exact ⟨by omega,ih.2⟩
  · rw [if_neg hb]
    have hp:=kR r
    have hl:=zEq r hr
    have hd:=List.length_drop (i:=(yE r).2) (l:=r)
    have ih:=zCe file cs n f (r.drop (yE r).2) (i+(yE r).2) false (by omega)
    refine ⟨by rw [List.length_cons]; omega,fun t ht=>?_⟩
    rcases List.mem_cons.1 ht with rfl | ht
    · show (r.take (yE r).2).length<=n
      rw [List.length_take]; omega
    · exact ih.2 t ht
theorem zMD (file:Int) (t:Str):(tokS file t).length<=t.length/\∀ x ∈ tokS file t,x.text.length<=t.length:=by
 have h1:=zAH t 0
 have h2:(txt (chG t 0)).length=(chG t 0).length:=by unfold txt; rw [List.length_map]
 have:=zCe file (chG t 0) t.length ((txt (chG t 0)).length+1) (txt (chG t 0)) 0 false (by omega)
 exact ⟨by have:=this.1; unfold tokS lexA; omega,this.2⟩
end
section
open Go.Al Go.Den
structure Dec (d:Str) (n:Nat):Prop where
 ne:d≠[]
 dig:∀ c ∈ d,48<=c.toNat/\c.toNat<=57
 num:numG 10 0 d=some (n,[])
 hd48:n≠0->d.head?≠some 48
 len:d.length<=10
 zero:n=0->d=[48]
end
section
open Go.Al Go.Den
def mm:Nat:=13001
end
section
open Go.Al Go.Den
theorem wrp (x:Int):IntKind.i64.wrap x=(x+9223372036854775808) % 18446744073709551616 - 9223372036854775808:=by
 unfold IntKind.wrap
 simp only [IntKind.signed,IntKind.bits]
 simp
 (repeat' split) <;> omega
noncomputable def c45 (x:Bool×Unit):Option (Int×Unit):=sh45 0 (fun _=>false) x.1
theorem ok45:ConOk CC Tryd.prog 45 ⟨as45,rs45,c45⟩:=con45 0
theorem c45_eq (b:Bool):c45 (b,())=some (if b then 1 else 0,()):=by cases b <;> rfl
noncomputable def c19 (fu:Nat) (x:Str×Int×Int×Unit):Option (Int×Int×Unit):=sh19 fu c45 (fun _=>false) x.1 x.2.1 x.2.2.1
theorem ok19 (fu:Nat):ConOk CC Tryd.prog 19 ⟨as19,rs19,c19 fu⟩:=con19 fu c45 ok45
def signs18:List Str:=[[124,124],[38,38],[124],[94],[38],[61,61],[33,61],[60],[62],[60,61],[62,61],[60,60],[62,62],[43],[45],[42],[47],[37]]
def R3 (p:Int×Int):Option (Int×Int×Unit):=some (p.1,p.2,())
theorem zLE {s:Str} {a b:Int} {v e:Int} (h:k111 (s,a,b,())=some (v,e,())):R3 (both s a b)=some (v,e,()):=by
 have:=zLF s a b
 rw [h] at this
 injection this with this
 unfold R3
 rw [<- this]
theorem zB2 (x:Int):-9223372036854775808<=IntKind.i64.wrap x/\IntKind.i64.wrap x<=9223372036854775807:=by rw [wrp]; omega
theorem zKo {x:Int} (h1:-9223372036854775808<=x) (h2:x<=9223372036854775807):IntKind.i64.wrap x=x:=by rw [wrp]; omega
theorem zIb (x:Int):∃ q:Int,IntKind.i64.wrap x=x+18446744073709551616 * q:=⟨-((x+9223372036854775808) / 18446744073709551616),by rw [wrp]; omega⟩
theorem zJt (x q:Int):IntKind.i64.wrap (x+18446744073709551616 * q)=IntKind.i64.wrap x:=by rw [wrp,wrp]; omega
theorem zFi (x c:Int):IntKind.i64.wrap (IntKind.i64.wrap x * c)=IntKind.i64.wrap (x * c):=by
 obtain ⟨q,hq⟩:=zIb x
 rw [hq,Int.add_mul,Int.mul_assoc,zJt]
theorem two_lt (fu:Nat) (hfu:2000 < fu) (a b:Int) (ha:-9223372036854775808<=a) (ha2:a<=9223372036854775807) (h0:0<=b) (h1:b<=63):c19 fu ([60,60],a,b,())=some (jshl .i64 a b,0,()):=by
 show sh19 fu c45 (fun _=>false) [60,60] a b=(some (jshl .i64 a b,0,()):Option (Int×Int×Unit))
 unfold sh19
 refine zE rfl (zE rfl (zE rfl (zE rfl (zE rfl (zE rfl (zE rfl (zE rfl (zE rfl (zE rfl (zE rfl (zE rfl (zE rfl (zE rfl (zF rfl ?_))))))))))))))
 refine zE (z6 h0) (zE (z6 h1) ?_)
 obtain ⟨n,rfl⟩:∃ n:Nat,b=(n:Int):=⟨b.toNat,by omega⟩
 have ej:jshl .i64 a (n:Int)=IntKind.i64.wrap (a * 2 ^ n):=by
  show IntKind.i64.wrap (a * 2 ^ (min (Int.toNat (n:Int)) 64))=_
  rw [Int.toNat_natCast,Nat.min_eq_left (by omega)]
 rw [ej]
 refine zn (fun st=>∃ (v:Int) (k:Nat),st=(((v,((k:Int),())),()):(Int×Int×PUnit)×PUnit)/\k<=n/\-9223372036854775808<=v/\v<=9223372036854775807/\IntKind.i64.wrap (v * 2 ^ (n - k))=IntKind.i64.wrap (a * 2 ^ n)) (fun st=>n - st.1.2.1.toNat) ?_ fu _ ⟨a,0,rfl,Nat.zero_le _,ha,ha2,by rw [Nat.sub_zero]⟩ (by show n - (0:Int).toNat < fu; omega)
 rintro rec st ⟨v,k,rfl,hk,hv1,hv2,hw⟩ hrec
 dsimp only
 refine zh (fun h=>?_) fun h=>?_
 · refine zF rfl ?_
   rw [i1 (k:=k) (by omega)]
   have e:imul .i64 v 2=IntKind.i64.wrap (v * 2):=rfl
   have hr:=zB2 (v * 2)
   refine hrec _ ⟨imul .i64 v 2,k+1,rfl,by omega,hr.1,hr.2,?_⟩ (by dsimp only; omega)
   rw [e,zFi,<- hw]
   have e2:n - k=(n - (k+1))+1:=by omega
   rw [e2,Int.pow_succ,Int.mul_assoc,Int.mul_comm 2]
 · obtain rfl:k=n:=by omega
   rw [Nat.sub_self,Int.pow_zero,Int.mul_one,zKo hv1 hv2] at hw
   rw [hw]
theorem two_gt (fu:Nat) (hfu:2000 < fu) (a b:Int) (h0:0<=b) (h1:b<=63):c19 fu ([62,62],a,b,())=some (jshr .i64 a b,0,()):=by
 show sh19 fu c45 (fun _=>false) [62,62] a b=(some (jshr .i64 a b,0,()):Option (Int×Int×Unit))
 unfold sh19
 refine zE rfl (zE rfl (zE rfl (zE rfl (zE rfl (zE rfl (zE rfl (zE rfl (zE rfl (zE rfl (zE rfl (zE rfl (zE rfl (zE rfl (zE rfl (zF rfl ?_)))))))))))))))
 refine zE (z6 h0) (zE (z6 h1) ?_)
 obtain ⟨n,rfl⟩:∃ n:Nat,b=(n:Int):=⟨b.toNat,by omega⟩
 have ej:jshr .i64 a (n:Int)=a.fdiv (2 ^ n):=by
  show a.fdiv (2 ^ (min (Int.toNat (n:Int)) 64))=_
  rw [Int.toNat_natCast,Nat.min_eq_left (by omega)]
 rw [ej]
 refine zn (fun st=>∃ (v:Int) (k:Nat),st=(((v,((k:Int),())),()):(Int×Int×PUnit)×PUnit)/\k<=n/\v.fdiv (2 ^ (n - k))=a.fdiv (2 ^ n)) (fun st=>n - st.1.2.1.toNat) ?_ fu _ ⟨a,0,rfl,Nat.zero_le _,by rw [Nat.sub_zero]⟩ (by show n - (0:Int).toNat < fu; omega)
 rintro rec st ⟨v,k,rfl,hk,hw⟩ hrec
 dsimp only
 refine zh (fun h=>?_) fun h=>?_
 · refine zE rfl ?_
   rw [i1 (k:=k) (by omega)]
   have e:jshr .i64 v 1=v.fdiv 2:=rfl
   refine hrec _ ⟨jshr .i64 v 1,k+1,rfl,by omega,?_⟩ (by dsimp only; omega)
   rw [e,<- hw]
   have e2:n - k=(n - (k+1))+1:=by omega
   have hp:∀ m:Nat,(0:Int)<=2 ^ m:=fun m=>Int.le_of_lt (Int.pow_pos (by omega))
   rw [e2,Int.fdiv_eq_ediv_of_nonneg _ (hp _),Int.fdiv_eq_ediv_of_nonneg _ (by omega),Int.fdiv_eq_ediv_of_nonneg _ (hp _),Int.pow_succ,Int.mul_comm,Int.ediv_ediv,if_neg (fun h=>absurd h.1 (by omega)),Int.sub_zero]
 · obtain rfl:k=n:=by omega
   rw [Nat.sub_self,Int.pow_zero] at hw
   rw [<- hw,Int.fdiv_one]
theorem zMk (a b:Int) (ha:-9223372036854775808<=a) (ha2:a<=9223372036854775807):isub .i64 a (imul .i64 (iquo .i64 a b) b)=irem a b:=by
 show IntKind.i64.wrap (a - IntKind.i64.wrap (IntKind.i64.wrap (a.tdiv b) * b))=a.tmod b
 rw [zFi]
 obtain ⟨q,hq⟩:=zIb (a.tdiv b * b)
 have h1:a - IntKind.i64.wrap (a.tdiv b * b)=a.tmod b+18446744073709551616 * (-q):=by
  rw [hq]
  have:=Int.tdiv_mul_add_tmod a b
  generalize a.tdiv b * b=p at this ⊢
  omega
 rw [h1,zJt]
 have h2:(a.tmod b).natAbs<=a.natAbs:=by
  rw [Int.natAbs_tmod]
  exact Nat.mod_le _ _
 exact zKo (by omega) (by
  rcases Int.le_total 0 a with h | h
  · omega
  · have h3:=Int.tmod_nonneg b (show 0<=-a by omega)
    rw [Int.neg_tmod] at h3
    omega)
theorem yJ {fu:Nat} {s:Str} {a b v:Int} (h1:c19 fu (s,a,b,())=some (v,0,())) (h2:k111 (s,a,b,())=some (v,0,())):c19 fu (s,a,b,())=R3 (both s a b):=h1.trans (zLE h2).symm
theorem k9 {fu:Nat} {s:Str} {a b:Int} (c:Bool) (h1:c19 fu (s,a,b,())=Option.bind (c45 (c,())) fun y0=>some (y0.1,(0,()))) (h2:k111 (s,a,b,())=Option.bind (cond c (some ((1:Int),())) (some (0,()))) fun y0=>some (y0.1,(0,()))):c19 fu (s,a,b,())=R3 (both s a b):=by
 cases c
 · exact yJ (v:=0) (h1.trans rfl) (h2.trans rfl)
 · exact yJ (v:=1) (h1.trans rfl) (h2.trans rfl)
theorem zKl {fu:Nat} {s:Str} {a b:Int} (c:Bool) (h1:c19 fu (s,a,b,())=Option.bind (c45 (c,())) fun y0=>some (y0.1,(0,()))) (h2:k111 (s,a,b,())=cond c (some ((1:Int),((0:Int),()))) (some (0,(0,())))):c19 fu (s,a,b,())=R3 (both s a b):=by
 cases c
 · exact yJ (v:=0) (h1.trans rfl) (h2.trans rfl)
 · exact yJ (v:=1) (h1.trans rfl) (h2.trans rfl)
theorem zAC {fu:Nat} {s:Str} {a b e:Int} (h1:c19 fu (s,a,b,())=some (0,e,())) (h2:k111 (s,a,b,())=some (0,e,())):c19 fu (s,a,b,())=R3 (both s a b):=h1.trans (zLE h2).symm
theorem zOx (fu:Nat) (hfu:2000 < fu) (s:Str) (hs:s ∈ signs18) (a b:Int) (ha:-9223372036854775808<=a) (ha2:a<=9223372036854775807):c19 fu (s,a,b,())=R3 (both s a b):=by
 simp only [signs18,List.mem_cons,List.not_mem_nil,or_false] at hs
 rcases hs with rfl | rfl | rfl | rfl | rfl | rfl | rfl | rfl | rfl | rfl | rfl | rfl | rfl | rfl | rfl | rfl | rfl | rfl
 · exact zKl (ine b 0) (by kernel_rfl) (by kernel_rfl)
 · exact zKl (ine b 0) (by kernel_rfl) (by kernel_rfl)
 · exact yJ (v:=jor .i64 a b) (by kernel_rfl) (by kernel_rfl)
 · exact yJ (v:=jxor .i64 a b) (by kernel_rfl) (by kernel_rfl)
 · exact yJ (v:=jand .i64 a b) (by kernel_rfl) (by kernel_rfl)
 · exact k9 (ieq a b) (by kernel_rfl) (by kernel_rfl)
 · exact k9 (ine a b) (by kernel_rfl) (by kernel_rfl)
 · exact k9 (ilt a b) (by kernel_rfl) (by kernel_rfl)
 · exact k9 (ilt b a) (by kernel_rfl) (by kernel_rfl)
 · exact k9 (ile a b) (by kernel_rfl) (by kernel_rfl)
 · exact k9 (ile b a) (by kernel_rfl) (by kernel_rfl)
 · have e1:c19 fu ([60,60],a,b,())=c19 fu ([60,60],a,b,()):=rfl
   have e2:k111 ([60,60],a,b,())=cond (ilt b 0) (some (0,(93,()))) (cond (ilt 63 b) (some (0,(93,()))) (cond (ile 0 b) (some ((jshl .i64 a b),(0,()))) none)):=by kernel_rfl
   by_cases h0:b < 0
   · refine zAC (e:=93) ?_ (e2.trans (zF (ya h0) rfl))
     show sh19 fu c45 (fun _=>false) [60,60] a b=(some (0,93,()):Option (Int×Int×Unit))
     unfold sh19
     exact zE rfl (zE rfl (zE rfl (zE rfl (zE rfl (zE rfl (zE rfl (zE rfl (zE rfl (zE rfl (zE rfl (zE rfl (zE rfl (zE rfl (zF rfl (zF (ya h0) rfl)))))))))))))))
   by_cases h1:63 < b
   · refine zAC (e:=93) ?_ (e2.trans (zE (z6 (by omega)) (zF (ya h1) rfl)))
     show sh19 fu c45 (fun _=>false) [60,60] a b=(some (0,93,()):Option (Int×Int×Unit))
     unfold sh19
     exact zE rfl (zE rfl (zE rfl (zE rfl (zE rfl (zE rfl (zE rfl (zE rfl (zE rfl (zE rfl (zE rfl (zE rfl (zE rfl (zE rfl (zF rfl (zE (z6 (by omega)) (zF (ya h1) rfl))))))))))))))))
   · exact yJ (two_lt fu hfu a b ha ha2 (by omega) (by omega)) (e2.trans (zE (z6 (by omega)) (zE (z6 (by omega)) (zF (qr (by omega)) rfl))))
 · have e2:k111 ([62,62],a,b,())=cond (ilt b 0) (some (0,(93,()))) (cond (ilt 63 b) (some (0,(93,()))) (cond (ile 0 b) (some ((jshr .i64 a b),(0,()))) none)):=by kernel_rfl
   by_cases h0:b < 0
   · refine zAC (e:=93) ?_ (e2.trans (zF (ya h0) rfl))
     show sh19 fu c45 (fun _=>false) [62,62] a b=(some (0,93,()):Option (Int×Int×Unit))
     unfold sh19
     exact zE rfl (zE rfl (zE rfl (zE rfl (zE rfl (zE rfl (zE rfl (zE rfl (zE rfl (zE rfl (zE rfl (zE rfl (zE rfl (zE rfl (zE rfl (zF rfl (zF (ya h0) rfl))))))))))))))))
   by_cases h1:63 < b
   · refine zAC (e:=93) ?_ (e2.trans (zE (z6 (by omega)) (zF (ya h1) rfl)))
     show sh19 fu c45 (fun _=>false) [62,62] a b=(some (0,93,()):Option (Int×Int×Unit))
     unfold sh19
     exact zE rfl (zE rfl (zE rfl (zE rfl (zE rfl (zE rfl (zE rfl (zE rfl (zE rfl (zE rfl (zE rfl (zE rfl (zE rfl (zE rfl (zE rfl (zF rfl (zE (z6 (by omega)) (zF (ya h1) rfl)))))))))))))))))
   · exact yJ (two_gt fu hfu a b (by omega) (by omega)) (e2.trans (zE (z6 (by omega)) (zE (z6 (by omega)) (zF (qr (by omega)) rfl))))
 · exact yJ (v:=iadd .i64 a b) (by kernel_rfl) (by kernel_rfl)
 · exact yJ (v:=isub .i64 a b) (by kernel_rfl) (by kernel_rfl)
 · exact yJ (v:=imul .i64 a b) (by kernel_rfl) (by kernel_rfl)
 · have e1:c19 fu ([47],a,b,())=cond (ieq b 0) (some (0,(92,()))) (cond (ine b 0) (some (iquo .i64 a b,(0,()))) none):=by kernel_rfl
   have e2:k111 ([47],a,b,())=cond (ieq b 0) (some (0,(92,()))) (cond (ieq b (Neg.neg 1)) (some (imul .i64 (isub .i64 0 a) 1,(0,()))) (cond (ine b 0) (some (iquo .i64 a b,(0,()))) none)):=by kernel_rfl
   by_cases h0:b=0
   · exact zAC (e:=92) (e1.trans (zF (yY h0) rfl)) (e2.trans (zF (yY h0) rfl))
   · have e3:c19 fu ([47],a,b,())=some (iquo .i64 a b,(0,())):=e1.trans (zE (z7 h0) (zF (xI h0) rfl))
     by_cases h1:b = -1
     · have e4:imul .i64 (isub .i64 0 a) 1=iquo .i64 a b:=by
        subst h1
        show IntKind.i64.wrap (IntKind.i64.wrap (0 - a) * 1)=IntKind.i64.wrap (a.tdiv (-1))
        rw [zFi,Int.tdiv_neg,Int.tdiv_one,Int.mul_one,Int.zero_sub]
       exact yJ e3 (by rw [<- e4]; exact e2.trans (zE (z7 h0) (zF (yY h1) rfl)))
     · exact yJ e3 (e2.trans (zE (z7 h0) (zE (z7 h1) (zF (xI h0) rfl))))
 · have e1:c19 fu ([37],a,b,())=cond (ieq b 0) (some (0,(92,()))) (cond (ine b 0) (some (isub .i64 a (imul .i64 (iquo .i64 a b) b),(0,()))) none):=by kernel_rfl
   have e2:k111 ([37],a,b,())=cond (ieq b 0) (some (0,(92,()))) (cond (ieq b (Neg.neg 1)) (some (imul .i64 (isub .i64 0 a) 0,(0,()))) (cond (ine b 0) (some (irem a b,(0,()))) none)):=by kernel_rfl
   by_cases h0:b=0
   · exact zAC (e:=92) (e1.trans (zF (yY h0) rfl)) (e2.trans (zF (yY h0) rfl))
   · have e3:c19 fu ([37],a,b,())=some (irem a b,(0,())):=by rw [<- zMk a b ha ha2]; exact e1.trans (zE (z7 h0) (zF (xI h0) rfl))
     by_cases h1:b = -1
     · have e4:imul .i64 (isub .i64 0 a) 0=irem a b:=by
        subst h1
        show IntKind.i64.wrap (IntKind.i64.wrap (0 - a) * 0)=a.tmod (-1)
        rw [Int.mul_zero,Int.tmod_neg,Int.tmod_one]
        rfl
       exact yJ e3 (by rw [<- e4]; exact e2.trans (zE (z7 h0) (zF (yY h1) rfl)))
     · exact yJ e3 (e2.trans (zE (z7 h0) (zE (z7 h1) (zF (xI h0) rfl))))
end
section
open Go.Al Go.Den
noncomputable def c49 (x:List TokT×Int×Str×Unit):Option (Bool×Unit):=sh49 0 (fun _=>false) x.1 x.2.1 x.2.2.1
theorem ok49:ConOk CC Tryd.prog 49 ⟨as49,rs49,c49⟩:=con49 0
noncomputable def c64 (x:Int×Unit):Option (List Str×Unit):=sh64 0 (fun _=>false) x.1
theorem ok64:ConOk CC Tryd.prog 64 ⟨as64,rs64,c64⟩:=con64 0
noncomputable def cR (fu:Nat):Nat->(List TokT×Int×Int×Int×Unit->Option (Nd×Int×Unit))×(List TokT×Int×Int×Unit->Option (Nd×Int×Unit))
 | 0=>(fun _=>none,fun _=>none)
 | k+1=>(fun x=>sh31 fu (cR fu k).1 c49 (cR fu k).2 c64 (fun _=>false) x.1 x.2.1 x.2.2.1 x.2.2.2.1,fun x=>sh63 fu (c14 fu) c16 (cR fu k).1 c49 (fun _=>false) x.1 x.2.1 x.2.2.1)
noncomputable def c31 (fu k:Nat):List TokT×Int×Int×Int×Unit->Option (Nd×Int×Unit):=(cR fu k).1
noncomputable def c63 (fu k:Nat):List TokT×Int×Int×Unit->Option (Nd×Int×Unit):=(cR fu k).2
theorem okR (fu:Nat):∀ k,ConOk CC Tryd.prog 31 ⟨as31,rs31,c31 fu k⟩/\ConOk CC Tryd.prog 63 ⟨as63,rs63,c63 fu k⟩
 | 0=>⟨(fun _ _ h=>by cases h),(fun _ _ h=>by cases h)⟩
 | k+1=>⟨con31 fu (c31 fu k) (okR fu k).1 c49 ok49 (c63 fu k) (okR fu k).2 c64 ok64,con63 fu (c14 fu) (ok14 fu) c16 ok16 (c31 fu k) (okR fu k).1 c49 ok49⟩
theorem zAg (fu k:Nat) (l:List TokT) (i lev d:Int):c31 fu (k+1) (l,i,lev,d,())=sh31 fu (c31 fu k) c49 (c63 fu k) c64 (fun _=>false) l i lev d:=rfl
theorem zOq (fu k:Nat) (l:List TokT) (i d:Int):c63 fu (k+1) (l,i,d,())=sh63 fu (c14 fu) c16 (c31 fu k) c49 (fun _=>false) l i d:=rfl
theorem zAn {l:List TokT} {i:Nat} (h:i < l.length):l.drop i=l.getD i tokD::l.drop (i+1):=by
 rw [List.drop_eq_getElem_cons h,zBf l i tokD h]
theorem zDg (l:List TokT) (i:Nat) (s:Str) (hs:s≠[]):c49 (l,(i:Int),s,())=some (decide (sg (l.drop i)=s),()):=by
 show sh49 0 (fun _=>false) l (i:Int) s=_
 unfold sh49
 refine zh (fun h=>?_) fun h=>?_
 · have hi:i < l.length:=by
    have:(i:Int) < (l.length:Int):=h
    omega
   refine zF (zY (by omega) (by omega)) ?_
   rw [zAn hi,Int.toNat_natCast]
   show _=some (decide ((if (l.getD i tokD).kind=5 then (l.getD i tokD).text else [])=s),())
   refine zc (fun h5=>?_) fun h5=>?_
   · rw [if_pos h5]
     refine zF (zY (by omega) (by omega)) ?_
     rw [xt]
   · rw [if_neg h5,decide_eq_false (fun e=>hs e.symm)]
 · have hi:l.length<=i:=by
    have:(l.length:Int)<=(i:Int):=h
    omega
   rw [List.drop_eq_nil_of_le hi,decide_eq_false (fun e=>hs e.symm)]
structure PfLen (m:Nat):Prop where
 cho:∀ d l b y,(pf m).cho d l b=some y->y.2.1.length<=l.length
 bin:∀ n d l b y,(pf m).bin n d l b=some y->y.2.1.length<=l.length
 inn:∀ d l b y,(pf m).inn d l b=some y->y.2.1.length<=l.length
 un:∀ d l b y,(pf m).un d l b=some y->y.2.1.length<=l.length
 at1:∀ d l b y,(pf m).at1 d l b=some y->y.2.1.length<=l.length
theorem zDC (bin:Int->List TokT->Int->Option PR) (hb:∀ n l b y,bin n l b=some y->y.2.1.length<=l.length) (n:Int):∀ (K:Nat) (x:VT) (l:List TokT) (b:Int) (y:PR),zk bin n K x l b=some y->y.2.1.length<=l.length/\(lv (sg y.2.1) < n\/lv (sg y.2.1)=0)
 | 0,_,_,_,_,h=>by cases h
 | K+1,x,l,b,y,h=>by
  unfold zk at h
  by_cases hc:lv (sg l) < n\/lv (sg l)=0
  · rw [if_pos hc] at h
    injection h with h
    subst h
    exact ⟨Nat.le_refl _,hc⟩
  · rw [if_neg hc] at h
    cases e:bin (lv (sg l)+1) (l.drop 1) b with
    | none=>rw [e] at h; cases h
    | some z=>
     rw [e] at h
     have h1:=hb _ _ _ _ e
     have h2:=zDC bin hb n K _ _ _ _ h
     rw [List.length_drop] at h1
     exact ⟨by omega,h2.2⟩
theorem bind_some {α β:Type} {o:Option α} {f:α->Option β} {y:β} (h:o.bind f=some y):∃ x,o=some x/\f x=some y:=by
 cases o with
 | none=>cases h
 | some x=>exact ⟨x,rfl,h⟩
theorem zAN (l:List TokT):(l.drop 1).length<=l.length:=by rw [List.length_drop]; omega
theorem kO:∀ m,PfLen m
 | 0=>⟨(fun _ _ _ _ h=>by cases h),(fun _ _ _ _ _ h=>by cases h),(fun _ _ _ _ h=>by cases h),(fun _ _ _ _ h=>by cases h),(fun _ _ _ _ h=>by cases h)⟩
 | m+1=>by
  have ih:=kO m
  refine ⟨fun d l b y h=>?_,fun n d l b y h=>?_,fun d l b y h=>?_,fun d l b y h=>?_,fun d l b y h=>?_⟩
  · obtain ⟨c,hc,h⟩:=bind_some h
    have h1:=ih.bin _ _ _ _ _ hc
    by_cases e:sg c.2.1=[63]
    · rw [if_pos e] at h
      obtain ⟨x,hx,h⟩:=bind_some h
      have h2:=ih.inn _ _ _ _ hx
      have h3:=zAN c.2.1
      by_cases e2:sg x.2.1=[58]
      · rw [if_pos e2] at h
        obtain ⟨z,hz,h⟩:=bind_some h
        injection h with h
        subst h
        have h4:=ih.inn _ _ _ _ hz
        have h5:=zAN x.2.1
        show z.2.1.length<=_
        omega
      · rw [if_neg e2] at h; cases h
    · rw [if_neg e] at h
      injection h with h
      subst h
      exact h1
  · obtain ⟨x,hx,h⟩:=bind_some h
    have h1:=ih.un _ _ _ _ hx
    have h2:=(zDC _ (fun n l b y h=>ih.bin n d l b y h) _ _ _ _ _ _ h).1
    omega
  · replace h:(if d=60 then none else (pf m).cho (d+1) l b)=some y:=h
    by_cases e:d=60
    · rw [if_pos e] at h; cases h
    · rw [if_neg e] at h; exact ih.cho _ _ _ _ h
  · replace h:(if isUn (sg l) then (if d=60 then none else ((pf m).un (d+1) (l.drop 1) b).bind fun x=>some (VT.un (sg l) x.1,x.2.1,x.2.2)) else (pf m).at1 d l b)=some y:=h
    by_cases e:isUn (sg l)
    · rw [if_pos e] at h
      by_cases e2:d=60
      · rw [if_pos e2] at h; cases h
      · rw [if_neg e2] at h
        obtain ⟨x,hx,h⟩:=bind_some h
        injection h with h
        subst h
        have h1:=ih.un _ _ _ _ hx
        have h5:=zAN l
        show x.2.1.length<=_
        omega
    · rw [if_neg e] at h; exact ih.at1 _ _ _ _ h
  · replace h:(if sg l=[40] then ((pf m).inn d (l.drop 1) b).bind fun x=>if sg x.2.1=[41] then some (x.1,x.2.1.drop 1,x.2.2) else none else hdA l b)=some y:=h
    by_cases e:sg l=[40]
    · rw [if_pos e] at h
      obtain ⟨x,hx,h⟩:=bind_some h
      have h1:=ih.inn _ _ _ _ hx
      have h5:=zAN l
      have h6:=zAN x.2.1
      by_cases e2:sg x.2.1=[41]
      · rw [if_pos e2] at h
        injection h with h
        subst h
        show (x.2.1.drop 1).length<=_
        omega
      · rw [if_neg e2] at h; cases h
    · rw [if_neg e] at h
      cases l with
      | nil=>cases h
      | cons t r=>
       obtain ⟨x,hx,h⟩:=bind_some h
       injection h with h
       subst h
       show r.length<=r.length+1
       omega
theorem zCu (bin:Int->List TokT->Int->Option PR) (hb:∀ n l b y,bin n l b=some y->y.2.1.length<=l.length) (n:Int):∀ (K K':Nat) (x:VT) (l:List TokT) (b:Int),l.length < K->l.length < K'->zk bin n K x l b=zk bin n K' x l b
 | 0,_,_,_,_,h,_=>by omega
 | _+1,0,_,_,_,_,h=>by omega
 | K+1,K' + 1,x,l,b,h1,h2=>by
  unfold zk
  by_cases hc:lv (sg l) < n\/lv (sg l)=0
  · rw [if_pos hc,if_pos hc]
  · rw [if_neg hc,if_neg hc]
    cases e:bin (lv (sg l)+1) (l.drop 1) b with
    | none=>rfl
    | some z=>
     have h3:=hb _ _ _ _ e
     have h4:l≠[]:=fun e=>hc (.inr (by rw [e]; decide))
     have h5:=qM h4
     exact zCu bin hb n K K' _ _ _ (by omega) (by omega)
theorem zEj (bin:Int->List TokT->Int->Option PR) (hb:∀ n l b y,bin n l b=some y->y.2.1.length<=l.length) (n:Int):∀ (K:Nat) (x:VT) (l:List TokT) (b:Int),l.length < K ->
 zk bin n K x l b=(zk bin (n+1) K x l b).bind fun y=>zk bin n (y.2.1.length+1) y.1 y.2.1 y.2.2
 | 0,_,_,_,h=>by omega
 | K+1,x,l,b,h=>by
  by_cases hc:lv (sg l) < n+1\/lv (sg l)=0
  · have e:zk bin (n+1) (K+1) x l b=some (x,l,b):=by unfold zk; rw [if_pos hc]
    rw [e]
    exact zCu bin hb n _ _ _ _ _ h (Nat.lt_succ_self _)
  · have e:zk bin (n+1) (K+1) x l b=(bin (lv (sg l)+1) (l.drop 1) b).bind fun y=>zk bin (n+1) K (.bin (sg l) x y.1) y.2.1 y.2.2:=by
     show (if lv (sg l) < n+1\/lv (sg l)=0 then _ else _)=_
     rw [if_neg hc]
    have e2:zk bin n (K+1) x l b=(bin (lv (sg l)+1) (l.drop 1) b).bind fun y=>zk bin n K (.bin (sg l) x y.1) y.2.1 y.2.2:=by
     show (if lv (sg l) < n\/lv (sg l)=0 then _ else _)=_
     rw [if_neg (fun h=>hc (by omega))]
    rw [e,e2]
    cases e3:bin (lv (sg l)+1) (l.drop 1) b with
    | none=>rfl
    | some z=>
     have h3:=hb _ _ _ _ e3
     have h4:l≠[]:=fun e=>hc (.inr (by rw [e]; decide))
     have h5:=qM h4
     exact zEj bin hb n K _ _ _ (by omega)
end
end Go.Proofs.YtonnigoiklahdaaDoor
