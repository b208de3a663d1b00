/-
  Part 6 of what the last text needs: library, runs, contracts, plain laws. No condition of its own.
-/
import Derived.Test.YtonnigoiklahdaaDoorZE5
set_option linter.unusedVariables false
set_option linter.unusedSimpArgs false
set_option linter.unusedSectionVars false
namespace Go.Proofs.YtonnigoiklahdaaDoor
section
open Go.Al Go.Den
def sh39 (fu:Nat) (nf:Nat->Bool) (x0:Int):(Option (Int×Unit)):=cond (ile 48 x0) (cond (ile x0 57) (some ((zS .u64 (isub .u8 x0 48)),())) (cond (ile 97 x0) (cond (ile x0 102) (some ((iadd .u64 (zS .u64 (isub .u8 x0 97)) 10),())) (cond (ile 65 x0) (cond (ile x0 70) (some ((iadd .u64 (zS .u64 (isub .u8 x0 65)) 10),())) (some (16,()))) (some (16,())))) (cond (ile 65 x0) (cond (ile x0 70) (some ((iadd .u64 (zS .u64 (isub .u8 x0 65)) 10),())) (some (16,()))) (some (16,()))))) (cond (ile 97 x0) (cond (ile x0 102) (some ((iadd .u64 (zS .u64 (isub .u8 x0 97)) 10),())) (cond (ile 65 x0) (cond (ile x0 70) (some ((iadd .u64 (zS .u64 (isub .u8 x0 65)) 10),())) (some (16,()))) (some (16,())))) (cond (ile 65 x0) (cond (ile x0 70) (some ((iadd .u64 (zS .u64 (isub .u8 x0 65)) 10),())) (some (16,()))) (some (16,()))))
theorem eq39:@run39 = @sh39:=by kernel_rfl
def sh41 (fu:Nat) (nf:Nat->Bool) (x0:Str):(Option (Bool×Unit)):=iter fu (fun (rec1:((Int×Unit)×Unit)->Option (Bool×Unit)) (s1:((Int×Unit)×Unit))=>cond (ilt s1.1.1 5) (cond (inB s1.1.1 5) (iter fu (fun (rec2:((Int×Unit)×Unit)->Option (Bool×Unit)) (s2:((Int×Unit)×Unit))=>cond (ilt s2.1.1 3) (cond (inB s2.1.1 3) (cond (okS ((List.length (α:=UInt8) (List.getD [[],[108],[76],[108,108],[76,76]] (Int.toNat s1.1.1) []))+(List.length (α:=UInt8) (List.getD [[],[117],[85]] (Int.toNat s2.1.1) [])))) (cond (seq x0 ((List.getD [[],[108],[76],[108,108],[76,76]] (Int.toNat s1.1.1) [])++(List.getD [[],[117],[85]] (Int.toNat s2.1.1) []))) (some (true,())) (cond (okS ((List.length (α:=UInt8) (List.getD [[],[117],[85]] (Int.toNat s2.1.1) []))+(List.length (α:=UInt8) (List.getD [[],[108],[76],[108,108],[76,76]] (Int.toNat s1.1.1) [])))) (cond (seq x0 ((List.getD [[],[117],[85]] (Int.toNat s2.1.1) [])++(List.getD [[],[108],[76],[108,108],[76,76]] (Int.toNat s1.1.1) []))) (some (true,())) (rec2 (((iadd .i64 s2.1.1 1),()),()))) (none))) (none)) (none)) (rec1 (((iadd .i64 s1.1.1 1),()),()))) ((0,()),())) (none)) (some (false,()))) ((0,()),())
theorem eq41:@run41 = @sh41:=by kernel_rfl
def sh13 (fu:Nat) (c39:(Int×Unit)->(Option (Int×Unit))) (c40:(Int×(Int×Unit))->(Option (Int×(Int×Unit)))) (c41:(Str×Unit)->(Option (Bool×Unit))) (nf:Nat->Bool) (x0:Str):(Option (Int×(Int×Unit))):=cond (ile (lenI [48,120]) (lenI x0)) (cond (inS 0 (lenI [48,120]) (List.length x0)) (cond (seq (cutL x0 0 (lenI [48,120])) [48,120]) (cond (inS 2 (lenI x0) (List.length x0)) (iter fu (fun (rec1:((Int×(Int×Unit))×Unit)->Option (Int×(Int×Unit))) (s1:((Int×(Int×Unit))×Unit))=>cond (ilt s1.1.2.1 (lenI (cutL x0 2 (lenI x0)))) (cond (inB s1.1.2.1 (List.length (cutL x0 2 (lenI x0)))) (Option.bind (c39 ((zD (cutL x0 2 (lenI x0)) s1.1.2.1),())) fun y0=>cond (ile 16 y0.1) (cond (ieq s1.1.2.1 0) (some (0,(91,()))) (cond (inS s1.1.2.1 (lenI (cutL x0 2 (lenI x0))) (List.length (cutL x0 2 (lenI x0)))) (Option.bind (c41 ((cutL (cutL x0 2 (lenI x0)) s1.1.2.1 (lenI (cutL x0 2 (lenI x0)))),())) fun y1=>cond (!y1.1) (some (0,(91,()))) (some ((zS .i64 s1.1.1),(0,())))) (none))) (Option.bind (c40 (s1.1.1,(16,()))) fun y1=>cond (ine y1.1 0) (some (0,(91,()))) (cond (ile 9223372036854775808 y1.2.1) (some (0,(91,()))) (cond (ile 9223372036854775808 (iadd .u64 y1.2.1 y0.1)) (some (0,(91,()))) (rec1 (((iadd .u64 y1.2.1 y0.1),((iadd .i64 s1.1.2.1 1),())),())))))) (none)) (cond (ieq s1.1.2.1 0) (some (0,(91,()))) (cond (inS s1.1.2.1 (lenI (cutL x0 2 (lenI x0))) (List.length (cutL x0 2 (lenI x0)))) (Option.bind (c41 ((cutL (cutL x0 2 (lenI x0)) s1.1.2.1 (lenI (cutL x0 2 (lenI x0)))),())) fun y0=>cond (!y0.1) (some (0,(91,()))) (some ((zS .i64 s1.1.1),(0,())))) (none)))) ((0,(0,())),())) (none)) (cond (ile (lenI [48,88]) (lenI x0)) (cond (inS 0 (lenI [48,88]) (List.length x0)) (cond (seq (cutL x0 0 (lenI [48,88])) [48,88]) (cond (inS 2 (lenI x0) (List.length x0)) (iter fu (fun (rec1:((Int×(Int×Unit))×Unit)->Option (Int×(Int×Unit))) (s1:((Int×(Int×Unit))×Unit))=>cond (ilt s1.1.2.1 (lenI (cutL x0 2 (lenI x0)))) (cond (inB s1.1.2.1 (List.length (cutL x0 2 (lenI x0)))) (Option.bind (c39 ((zD (cutL x0 2 (lenI x0)) s1.1.2.1),())) fun y0=>cond (ile 16 y0.1) (cond (ieq s1.1.2.1 0) (some (0,(91,()))) (cond (inS s1.1.2.1 (lenI (cutL x0 2 (lenI x0))) (List.length (cutL x0 2 (lenI x0)))) (Option.bind (c41 ((cutL (cutL x0 2 (lenI x0)) s1.1.2.1 (lenI (cutL x0 2 (lenI x0)))),())) fun y1=>cond (!y1.1) (some (0,(91,()))) (some ((zS .i64 s1.1.1),(0,())))) (none))) (Option.bind (c40 (s1.1.1,(16,()))) fun y1=>cond (ine y1.1 0) (some (0,(91,()))) (cond (ile 9223372036854775808 y1.2.1) (some (0,(91,()))) (cond (ile 9223372036854775808 (iadd .u64 y1.2.1 y0.1)) (some (0,(91,()))) (rec1 (((iadd .u64 y1.2.1 y0.1),((iadd .i64 s1.1.2.1 1),())),())))))) (none)) (cond (ieq s1.1.2.1 0) (some (0,(91,()))) (cond (inS s1.1.2.1 (lenI (cutL x0 2 (lenI x0))) (List.length (cutL x0 2 (lenI x0)))) (Option.bind (c41 ((cutL (cutL x0 2 (lenI x0)) s1.1.2.1 (lenI (cutL x0 2 (lenI x0)))),())) fun y0=>cond (!y0.1) (some (0,(91,()))) (some ((zS .i64 s1.1.1),(0,())))) (none)))) ((0,(0,())),())) (none)) (cond (ile (lenI [48]) (lenI x0)) (cond (inS 0 (lenI [48]) (List.length x0)) (cond (seq (cutL x0 0 (lenI [48])) [48]) (iter fu (fun (rec1:((Int×(Int×Unit))×Unit)->Option (Int×(Int×Unit))) (s1:((Int×(Int×Unit))×Unit))=>cond (ilt s1.1.2.1 (lenI x0)) (cond (inB s1.1.2.1 (List.length x0)) (Option.bind (c39 ((zD x0 s1.1.2.1),())) fun y0=>cond (ile 8 y0.1) (cond (ieq s1.1.2.1 0) (some (0,(91,()))) (cond (inS s1.1.2.1 (lenI x0) (List.length x0)) (Option.bind (c41 ((cutL x0 s1.1.2.1 (lenI x0)),())) fun y1=>cond (!y1.1) (some (0,(91,()))) (some ((zS .i64 s1.1.1),(0,())))) (none))) (Option.bind (c40 (s1.1.1,(8,()))) fun y1=>cond (ine y1.1 0) (some (0,(91,()))) (cond (ile 9223372036854775808 y1.2.1) (some (0,(91,()))) (cond (ile 9223372036854775808 (iadd .u64 y1.2.1 y0.1)) (some (0,(91,()))) (rec1 (((iadd .u64 y1.2.1 y0.1),((iadd .i64 s1.1.2.1 1),())),())))))) (none)) (cond (ieq s1.1.2.1 0) (some (0,(91,()))) (cond (inS s1.1.2.1 (lenI x0) (List.length x0)) (Option.bind (c41 ((cutL x0 s1.1.2.1 (lenI x0)),())) fun y0=>cond (!y0.1) (some (0,(91,()))) (some ((zS .i64 s1.1.1),(0,())))) (none)))) ((0,(0,())),())) (iter fu (fun (rec1:((Int×(Int×Unit))×Unit)->Option (Int×(Int×Unit))) (s1:((Int×(Int×Unit))×Unit))=>cond (ilt s1.1.2.1 (lenI x0)) (cond (inB s1.1.2.1 (List.length x0)) (Option.bind (c39 ((zD x0 s1.1.2.1),())) fun y0=>cond (ile 10 y0.1) (cond (ieq s1.1.2.1 0) (some (0,(91,()))) (cond (inS s1.1.2.1 (lenI x0) (List.length x0)) (Option.bind (c41 ((cutL x0 s1.1.2.1 (lenI x0)),())) fun y1=>cond (!y1.1) (some (0,(91,()))) (some ((zS .i64 s1.1.1),(0,())))) (none))) (Option.bind (c40 (s1.1.1,(10,()))) fun y1=>cond (ine y1.1 0) (some (0,(91,()))) (cond (ile 9223372036854775808 y1.2.1) (some (0,(91,()))) (cond (ile 9223372036854775808 (iadd .u64 y1.2.1 y0.1)) (some (0,(91,()))) (rec1 (((iadd .u64 y1.2.1 y0.1),((iadd .i64 s1.1.2.1 1),())),())))))) (none)) (cond (ieq s1.1.2.1 0) (some (0,(91,()))) (cond (inS s1.1.2.1 (lenI x0) (List.length x0)) (Option.bind (c41 ((cutL x0 s1.1.2.1 (lenI x0)),())) fun y0=>cond (!y0.1) (some (0,(91,()))) (some ((zS .i64 s1.1.1),(0,())))) (none)))) ((0,(0,())),()))) (none)) (iter fu (fun (rec1:((Int×(Int×Unit))×Unit)->Option (Int×(Int×Unit))) (s1:((Int×(Int×Unit))×Unit))=>cond (ilt s1.1.2.1 (lenI x0)) (cond (inB s1.1.2.1 (List.length x0)) (Option.bind (c39 ((zD x0 s1.1.2.1),())) fun y0=>cond (ile 10 y0.1) (cond (ieq s1.1.2.1 0) (some (0,(91,()))) (cond (inS s1.1.2.1 (lenI x0) (List.length x0)) (Option.bind (c41 ((cutL x0 s1.1.2.1 (lenI x0)),())) fun y1=>cond (!y1.1) (some (0,(91,()))) (some ((zS .i64 s1.1.1),(0,())))) (none))) (Option.bind (c40 (s1.1.1,(10,()))) fun y1=>cond (ine y1.1 0) (some (0,(91,()))) (cond (ile 9223372036854775808 y1.2.1) (some (0,(91,()))) (cond (ile 9223372036854775808 (iadd .u64 y1.2.1 y0.1)) (some (0,(91,()))) (rec1 (((iadd .u64 y1.2.1 y0.1),((iadd .i64 s1.1.2.1 1),())),())))))) (none)) (cond (ieq s1.1.2.1 0) (some (0,(91,()))) (cond (inS s1.1.2.1 (lenI x0) (List.length x0)) (Option.bind (c41 ((cutL x0 s1.1.2.1 (lenI x0)),())) fun y0=>cond (!y0.1) (some (0,(91,()))) (some ((zS .i64 s1.1.1),(0,())))) (none)))) ((0,(0,())),())))) (none)) (cond (ile (lenI [48]) (lenI x0)) (cond (inS 0 (lenI [48]) (List.length x0)) (cond (seq (cutL x0 0 (lenI [48])) [48]) (iter fu (fun (rec1:((Int×(Int×Unit))×Unit)->Option (Int×(Int×Unit))) (s1:((Int×(Int×Unit))×Unit))=>cond (ilt s1.1.2.1 (lenI x0)) (cond (inB s1.1.2.1 (List.length x0)) (Option.bind (c39 ((zD x0 s1.1.2.1),())) fun y0=>cond (ile 8 y0.1) (cond (ieq s1.1.2.1 0) (some (0,(91,()))) (cond (inS s1.1.2.1 (lenI x0) (List.length x0)) (Option.bind (c41 ((cutL x0 s1.1.2.1 (lenI x0)),())) fun y1=>cond (!y1.1) (some (0,(91,()))) (some ((zS .i64 s1.1.1),(0,())))) (none))) (Option.bind (c40 (s1.1.1,(8,()))) fun y1=>cond (ine y1.1 0) (some (0,(91,()))) (cond (ile 9223372036854775808 y1.2.1) (some (0,(91,()))) (cond (ile 9223372036854775808 (iadd .u64 y1.2.1 y0.1)) (some (0,(91,()))) (rec1 (((iadd .u64 y1.2.1 y0.1),((iadd .i64 s1.1.2.1 1),())),())))))) (none)) (cond (ieq s1.1.2.1 0) (some (0,(91,()))) (cond (inS s1.1.2.1 (lenI x0) (List.length x0)) (Option.bind (c41 ((cutL x0 s1.1.2.1 (lenI x0)),())) fun y0=>cond (!y0.1) (some (0,(91,()))) (some ((zS .i64 s1.1.1),(0,())))) (none)))) ((0,(0,())),())) (iter fu (fun (rec1:((Int×(Int×Unit))×Unit)->Option (Int×(Int×Unit))) (s1:((Int×(Int×Unit))×Unit))=>cond (ilt s1.1.2.1 (lenI x0)) (cond (inB s1.1.2.1 (List.length x0)) (Option.bind (c39 ((zD x0 s1.1.2.1),())) fun y0=>cond (ile 10 y0.1) (cond (ieq s1.1.2.1 0) (some (0,(91,()))) (cond (inS s1.1.2.1 (lenI x0) (List.length x0)) (Option.bind (c41 ((cutL x0 s1.1.2.1 (lenI x0)),())) fun y1=>cond (!y1.1) (some (0,(91,()))) (some ((zS .i64 s1.1.1),(0,())))) (none))) (Option.bind (c40 (s1.1.1,(10,()))) fun y1=>cond (ine y1.1 0) (some (0,(91,()))) (cond (ile 9223372036854775808 y1.2.1) (some (0,(91,()))) (cond (ile 9223372036854775808 (iadd .u64 y1.2.1 y0.1)) (some (0,(91,()))) (rec1 (((iadd .u64 y1.2.1 y0.1),((iadd .i64 s1.1.2.1 1),())),())))))) (none)) (cond (ieq s1.1.2.1 0) (some (0,(91,()))) (cond (inS s1.1.2.1 (lenI x0) (List.length x0)) (Option.bind (c41 ((cutL x0 s1.1.2.1 (lenI x0)),())) fun y0=>cond (!y0.1) (some (0,(91,()))) (some ((zS .i64 s1.1.1),(0,())))) (none)))) ((0,(0,())),()))) (none)) (iter fu (fun (rec1:((Int×(Int×Unit))×Unit)->Option (Int×(Int×Unit))) (s1:((Int×(Int×Unit))×Unit))=>cond (ilt s1.1.2.1 (lenI x0)) (cond (inB s1.1.2.1 (List.length x0)) (Option.bind (c39 ((zD x0 s1.1.2.1),())) fun y0=>cond (ile 10 y0.1) (cond (ieq s1.1.2.1 0) (some (0,(91,()))) (cond (inS s1.1.2.1 (lenI x0) (List.length x0)) (Option.bind (c41 ((cutL x0 s1.1.2.1 (lenI x0)),())) fun y1=>cond (!y1.1) (some (0,(91,()))) (some ((zS .i64 s1.1.1),(0,())))) (none))) (Option.bind (c40 (s1.1.1,(10,()))) fun y1=>cond (ine y1.1 0) (some (0,(91,()))) (cond (ile 9223372036854775808 y1.2.1) (some (0,(91,()))) (cond (ile 9223372036854775808 (iadd .u64 y1.2.1 y0.1)) (some (0,(91,()))) (rec1 (((iadd .u64 y1.2.1 y0.1),((iadd .i64 s1.1.2.1 1),())),())))))) (none)) (cond (ieq s1.1.2.1 0) (some (0,(91,()))) (cond (inS s1.1.2.1 (lenI x0) (List.length x0)) (Option.bind (c41 ((cutL x0 s1.1.2.1 (lenI x0)),())) fun y0=>cond (!y0.1) (some (0,(91,()))) (some ((zS .i64 s1.1.1),(0,())))) (none)))) ((0,(0,())),()))))) (none)) (cond (ile (lenI [48,88]) (lenI x0)) (cond (inS 0 (lenI [48,88]) (List.length x0)) (cond (seq (cutL x0 0 (lenI [48,88])) [48,88]) (cond (inS 2 (lenI x0) (List.length x0)) (iter fu (fun (rec1:((Int×(Int×Unit))×Unit)->Option (Int×(Int×Unit))) (s1:((Int×(Int×Unit))×Unit))=>cond (ilt s1.1.2.1 (lenI (cutL x0 2 (lenI x0)))) (cond (inB s1.1.2.1 (List.length (cutL x0 2 (lenI x0)))) (Option.bind (c39 ((zD (cutL x0 2 (lenI x0)) s1.1.2.1),())) fun y0=>cond (ile 16 y0.1) (cond (ieq s1.1.2.1 0) (some (0,(91,()))) (cond (inS s1.1.2.1 (lenI (cutL x0 2 (lenI x0))) (List.length (cutL x0 2 (lenI x0)))) (Option.bind (c41 ((cutL (cutL x0 2 (lenI x0)) s1.1.2.1 (lenI (cutL x0 2 (lenI x0)))),())) fun y1=>cond (!y1.1) (some (0,(91,()))) (some ((zS .i64 s1.1.1),(0,())))) (none))) (Option.bind (c40 (s1.1.1,(16,()))) fun y1=>cond (ine y1.1 0) (some (0,(91,()))) (cond (ile 9223372036854775808 y1.2.1) (some (0,(91,()))) (cond (ile 9223372036854775808 (iadd .u64 y1.2.1 y0.1)) (some (0,(91,()))) (rec1 (((iadd .u64 y1.2.1 y0.1),((iadd .i64 s1.1.2.1 1),())),())))))) (none)) (cond (ieq s1.1.2.1 0) (some (0,(91,()))) (cond (inS s1.1.2.1 (lenI (cutL x0 2 (lenI x0))) (List.length (cutL x0 2 (lenI x0)))) (Option.bind (c41 ((cutL (cutL x0 2 (lenI x0)) s1.1.2.1 (lenI (cutL x0 2 (lenI x0)))),())) fun y0=>cond (!y0.1) (some (0,(91,()))) (some ((zS .i64 s1.1.1),(0,())))) (none)))) ((0,(0,())),())) (none)) (cond (ile (lenI [48]) (lenI x0)) (cond (inS 0 (lenI [48]) (List.length x0)) (cond (seq (cutL x0 0 (lenI [48])) [48]) (iter fu (fun (rec1:((Int×(Int×Unit))×Unit)->Option (Int×(Int×Unit))) (s1:((Int×(Int×Unit))×Unit))=>cond (ilt s1.1.2.1 (lenI x0)) (cond (inB s1.1.2.1 (List.length x0)) (Option.bind (c39 ((zD x0 s1.1.2.1),())) fun y0=>cond (ile 8 y0.1) (cond (ieq s1.1.2.1 0) (some (0,(91,()))) (cond (inS s1.1.2.1 (lenI x0) (List.length x0)) (Option.bind (c41 ((cutL x0 s1.1.2.1 (lenI x0)),())) fun y1=>cond (!y1.1) (some (0,(91,()))) (some ((zS .i64 s1.1.1),(0,())))) (none))) (Option.bind (c40 (s1.1.1,(8,()))) fun y1=>cond (ine y1.1 0) (some (0,(91,()))) (cond (ile 9223372036854775808 y1.2.1) (some (0,(91,()))) (cond (ile 9223372036854775808 (iadd .u64 y1.2.1 y0.1)) (some (0,(91,()))) (rec1 (((iadd .u64 y1.2.1 y0.1),((iadd .i64 s1.1.2.1 1),())),())))))) (none)) (cond (ieq s1.1.2.1 0) (some (0,(91,()))) (cond (inS s1.1.2.1 (lenI x0) (List.length x0)) (Option.bind (c41 ((cutL x0 s1.1.2.1 (lenI x0)),())) fun y0=>cond (!y0.1) (some (0,(91,()))) (some ((zS .i64 s1.1.1),(0,())))) (none)))) ((0,(0,())),())) (iter fu (fun (rec1:((Int×(Int×Unit))×Unit)->Option (Int×(Int×Unit))) (s1:((Int×(Int×Unit))×Unit))=>cond (ilt s1.1.2.1 (lenI x0)) (cond (inB s1.1.2.1 (List.length x0)) (Option.bind (c39 ((zD x0 s1.1.2.1),())) fun y0=>cond (ile 10 y0.1) (cond (ieq s1.1.2.1 0) (some (0,(91,()))) (cond (inS s1.1.2.1 (lenI x0) (List.length x0)) (Option.bind (c41 ((cutL x0 s1.1.2.1 (lenI x0)),())) fun y1=>cond (!y1.1) (some (0,(91,()))) (some ((zS .i64 s1.1.1),(0,())))) (none))) (Option.bind (c40 (s1.1.1,(10,()))) fun y1=>cond (ine y1.1 0) (some (0,(91,()))) (cond (ile 9223372036854775808 y1.2.1) (some (0,(91,()))) (cond (ile 9223372036854775808 (iadd .u64 y1.2.1 y0.1)) (some (0,(91,()))) (rec1 (((iadd .u64 y1.2.1 y0.1),((iadd .i64 s1.1.2.1 1),())),())))))) (none)) (cond (ieq s1.1.2.1 0) (some (0,(91,()))) (cond (inS s1.1.2.1 (lenI x0) (List.length x0)) (Option.bind (c41 ((cutL x0 s1.1.2.1 (lenI x0)),())) fun y0=>cond (!y0.1) (some (0,(91,()))) (some ((zS .i64 s1.1.1),(0,())))) (none)))) ((0,(0,())),()))) (none)) (iter fu (fun (rec1:((Int×(Int×Unit))×Unit)->Option (Int×(Int×Unit))) (s1:((Int×(Int×Unit))×Unit))=>cond (ilt s1.1.2.1 (lenI x0)) (cond (inB s1.1.2.1 (List.length x0)) (Option.bind (c39 ((zD x0 s1.1.2.1),())) fun y0=>cond (ile 10 y0.1) (cond (ieq s1.1.2.1 0) (some (0,(91,()))) (cond (inS s1.1.2.1 (lenI x0) (List.length x0)) (Option.bind (c41 ((cutL x0 s1.1.2.1 (lenI x0)),())) fun y1=>cond (!y1.1) (some (0,(91,()))) (some ((zS .i64 s1.1.1),(0,())))) (none))) (Option.bind (c40 (s1.1.1,(10,()))) fun y1=>cond (ine y1.1 0) (some (0,(91,()))) (cond (ile 9223372036854775808 y1.2.1) (some (0,(91,()))) (cond (ile 9223372036854775808 (iadd .u64 y1.2.1 y0.1)) (some (0,(91,()))) (rec1 (((iadd .u64 y1.2.1 y0.1),((iadd .i64 s1.1.2.1 1),())),())))))) (none)) (cond (ieq s1.1.2.1 0) (some (0,(91,()))) (cond (inS s1.1.2.1 (lenI x0) (List.length x0)) (Option.bind (c41 ((cutL x0 s1.1.2.1 (lenI x0)),())) fun y0=>cond (!y0.1) (some (0,(91,()))) (some ((zS .i64 s1.1.1),(0,())))) (none)))) ((0,(0,())),())))) (none)) (cond (ile (lenI [48]) (lenI x0)) (cond (inS 0 (lenI [48]) (List.length x0)) (cond (seq (cutL x0 0 (lenI [48])) [48]) (iter fu (fun (rec1:((Int×(Int×Unit))×Unit)->Option (Int×(Int×Unit))) (s1:((Int×(Int×Unit))×Unit))=>cond (ilt s1.1.2.1 (lenI x0)) (cond (inB s1.1.2.1 (List.length x0)) (Option.bind (c39 ((zD x0 s1.1.2.1),())) fun y0=>cond (ile 8 y0.1) (cond (ieq s1.1.2.1 0) (some (0,(91,()))) (cond (inS s1.1.2.1 (lenI x0) (List.length x0)) (Option.bind (c41 ((cutL x0 s1.1.2.1 (lenI x0)),())) fun y1=>cond (!y1.1) (some (0,(91,()))) (some ((zS .i64 s1.1.1),(0,())))) (none))) (Option.bind (c40 (s1.1.1,(8,()))) fun y1=>cond (ine y1.1 0) (some (0,(91,()))) (cond (ile 9223372036854775808 y1.2.1) (some (0,(91,()))) (cond (ile 9223372036854775808 (iadd .u64 y1.2.1 y0.1)) (some (0,(91,()))) (rec1 (((iadd .u64 y1.2.1 y0.1),((iadd .i64 s1.1.2.1 1),())),())))))) (none)) (cond (ieq s1.1.2.1 0) (some (0,(91,()))) (cond (inS s1.1.2.1 (lenI x0) (List.length x0)) (Option.bind (c41 ((cutL x0 s1.1.2.1 (lenI x0)),())) fun y0=>cond (!y0.1) (some (0,(91,()))) (some ((zS .i64 s1.1.1),(0,())))) (none)))) ((0,(0,())),())) (iter fu (fun (rec1:((Int×(Int×Unit))×Unit)->Option (Int×(Int×Unit))) (s1:((Int×(Int×Unit))×Unit))=>cond (ilt s1.1.2.1 (lenI x0)) (cond (inB s1.1.2.1 (List.length x0)) (Option.bind (c39 ((zD x0 s1.1.2.1),())) fun y0=>cond (ile 10 y0.1) (cond (ieq s1.1.2.1 0) (some (0,(91,()))) (cond (inS s1.1.2.1 (lenI x0) (List.length x0)) (Option.bind (c41 ((cutL x0 s1.1.2.1 (lenI x0)),())) fun y1=>cond (!y1.1) (some (0,(91,()))) (some ((zS .i64 s1.1.1),(0,())))) (none))) (Option.bind (c40 (s1.1.1,(10,()))) fun y1=>cond (ine y1.1 0) (some (0,(91,()))) (cond (ile 9223372036854775808 y1.2.1) (some (0,(91,()))) (cond (ile 9223372036854775808 (iadd .u64 y1.2.1 y0.1)) (some (0,(91,()))) (rec1 (((iadd .u64 y1.2.1 y0.1),((iadd .i64 s1.1.2.1 1),())),())))))) (none)) (cond (ieq s1.1.2.1 0) (some (0,(91,()))) (cond (inS s1.1.2.1 (lenI x0) (List.length x0)) (Option.bind (c41 ((cutL x0 s1.1.2.1 (lenI x0)),())) fun y0=>cond (!y0.1) (some (0,(91,()))) (some ((zS .i64 s1.1.1),(0,())))) (none)))) ((0,(0,())),()))) (none)) (iter fu (fun (rec1:((Int×(Int×Unit))×Unit)->Option (Int×(Int×Unit))) (s1:((Int×(Int×Unit))×Unit))=>cond (ilt s1.1.2.1 (lenI x0)) (cond (inB s1.1.2.1 (List.length x0)) (Option.bind (c39 ((zD x0 s1.1.2.1),())) fun y0=>cond (ile 10 y0.1) (cond (ieq s1.1.2.1 0) (some (0,(91,()))) (cond (inS s1.1.2.1 (lenI x0) (List.length x0)) (Option.bind (c41 ((cutL x0 s1.1.2.1 (lenI x0)),())) fun y1=>cond (!y1.1) (some (0,(91,()))) (some ((zS .i64 s1.1.1),(0,())))) (none))) (Option.bind (c40 (s1.1.1,(10,()))) fun y1=>cond (ine y1.1 0) (some (0,(91,()))) (cond (ile 9223372036854775808 y1.2.1) (some (0,(91,()))) (cond (ile 9223372036854775808 (iadd .u64 y1.2.1 y0.1)) (some (0,(91,()))) (rec1 (((iadd .u64 y1.2.1 y0.1),((iadd .i64 s1.1.2.1 1),())),())))))) (none)) (cond (ieq s1.1.2.1 0) (some (0,(91,()))) (cond (inS s1.1.2.1 (lenI x0) (List.length x0)) (Option.bind (c41 ((cutL x0 s1.1.2.1 (lenI x0)),())) fun y0=>cond (!y0.1) (some (0,(91,()))) (some ((zS .i64 s1.1.1),(0,())))) (none)))) ((0,(0,())),()))))
theorem eq13:@run13 = @sh13:=by kernel_rfl
def sh15 (fu:Nat) (c44:(Str×(Int×Unit))->(Option (Int×Unit))) (nf:Nat->Bool) (x0:Str):(Option (Int×(Int×Unit))):=cond (ilt (lenI x0) 3) (some (0,(91,()))) (cond (inB 0 (List.length x0)) (cond (ine (zD x0 0) 39) (some (0,(91,()))) (cond (inB (isub .i64 (lenI x0) 1) (List.length x0)) (cond (ine (zD x0 (isub .i64 (lenI x0) 1)) 39) (some (0,(91,()))) (cond (inS 1 (isub .i64 (lenI x0) 1) (List.length x0)) (cond (ieq (lenI (cutL x0 1 (isub .i64 (lenI x0) 1))) 1) (cond (inB 0 (List.length (cutL x0 1 (isub .i64 (lenI x0) 1)))) (cond (ine (zD (cutL x0 1 (isub .i64 (lenI x0) 1)) 0) 92) (cond (inB 0 (List.length (cutL x0 1 (isub .i64 (lenI x0) 1)))) (some ((zS .i64 (zD (cutL x0 1 (isub .i64 (lenI x0) 1)) 0)),(0,()))) (none)) (cond (ine (lenI (cutL x0 1 (isub .i64 (lenI x0) 1))) 2) (some (0,(91,()))) (cond (inB 0 (List.length (cutL x0 1 (isub .i64 (lenI x0) 1)))) (cond (ine (zD (cutL x0 1 (isub .i64 (lenI x0) 1)) 0) 92) (some (0,(91,()))) (cond (inB 1 (List.length (cutL x0 1 (isub .i64 (lenI x0) 1)))) (Option.bind (c44 ([110,116,114,48,97,98,102,118],((zD (cutL x0 1 (isub .i64 (lenI x0) 1)) 1),()))) fun y0=>cond (ile 0 y0.1) (cond (inB y0.1 8) (some ((zS .i64 (zD [10,9,13,0,7,8,12,11] y0.1)),(0,()))) (none)) (cond (inB 1 (List.length (cutL x0 1 (isub .i64 (lenI x0) 1)))) (Option.bind (c44 ([92,39,34,63],((zD (cutL x0 1 (isub .i64 (lenI x0) 1)) 1),()))) fun y1=>cond (ilt y1.1 0) (some (0,(91,()))) (cond (inB 1 (List.length (cutL x0 1 (isub .i64 (lenI x0) 1)))) (some ((zS .i64 (zD (cutL x0 1 (isub .i64 (lenI x0) 1)) 1)),(0,()))) (none))) (none))) (none))) (none)))) (none)) (cond (ine (lenI (cutL x0 1 (isub .i64 (lenI x0) 1))) 2) (some (0,(91,()))) (cond (inB 0 (List.length (cutL x0 1 (isub .i64 (lenI x0) 1)))) (cond (ine (zD (cutL x0 1 (isub .i64 (lenI x0) 1)) 0) 92) (some (0,(91,()))) (cond (inB 1 (List.length (cutL x0 1 (isub .i64 (lenI x0) 1)))) (Option.bind (c44 ([110,116,114,48,97,98,102,118],((zD (cutL x0 1 (isub .i64 (lenI x0) 1)) 1),()))) fun y0=>cond (ile 0 y0.1) (cond (inB y0.1 8) (some ((zS .i64 (zD [10,9,13,0,7,8,12,11] y0.1)),(0,()))) (none)) (cond (inB 1 (List.length (cutL x0 1 (isub .i64 (lenI x0) 1)))) (Option.bind (c44 ([92,39,34,63],((zD (cutL x0 1 (isub .i64 (lenI x0) 1)) 1),()))) fun y1=>cond (ilt y1.1 0) (some (0,(91,()))) (cond (inB 1 (List.length (cutL x0 1 (isub .i64 (lenI x0) 1)))) (some ((zS .i64 (zD (cutL x0 1 (isub .i64 (lenI x0) 1)) 1)),(0,()))) (none))) (none))) (none))) (none)))) (none))) (none))) (none))
theorem eq15:@run15 = @sh15:=by kernel_rfl
def sh113 (fu:Nat) (nf:Nat->Bool) (x0:Str) (x1:Int) (x2:Int):(Option (Int×Unit)):=cond (seq x0 [124]) (some ((jor .i64 x1 x2),())) (cond (seq x0 [94]) (some ((jxor .i64 x1 x2),())) (cond (seq x0 [38]) (some ((jand .i64 x1 x2),())) (cond (seq x0 [43]) (some ((iadd .i64 x1 x2),())) (cond (seq x0 [45]) (some ((isub .i64 x1 x2),())) (cond (seq x0 [42]) (some ((imul .i64 x1 x2),())) (cond (seq x0 [61,61]) (cond (ieq x1 x2) (some (1,())) (some (0,()))) (cond (seq x0 [33,61]) (cond (ine x1 x2) (some (1,())) (some (0,()))) (cond (seq x0 [60]) (cond (ilt x1 x2) (some (1,())) (some (0,()))) (cond (seq x0 [62]) (cond (ilt x2 x1) (some (1,())) (some (0,()))) (cond (seq x0 [60,61]) (cond (ile x1 x2) (some (1,())) (some (0,()))) (cond (ile x2 x1) (some (1,())) (some (0,())))))))))))))
theorem eq113:@run113 = @sh113:=by kernel_rfl
def sh111 (fu:Nat) (c113:(Str×(Int×(Int×Unit)))->(Option (Int×Unit))) (nf:Nat->Bool) (x0:Str) (x1:Int) (x2:Int):(Option (Int×(Int×Unit))):=cond (seq x0 [47]) (cond (ieq x2 0) (some (0,(92,()))) (cond (ieq x2 (Neg.neg 1)) (cond (seq x0 [47]) (some ((imul .i64 (isub .i64 0 x1) 1),(0,()))) (some ((imul .i64 (isub .i64 0 x1) 0),(0,())))) (cond (seq x0 [47]) (cond (ine x2 0) (some ((iquo .i64 x1 x2),(0,()))) (none)) (cond (ine x2 0) (some ((irem x1 x2),(0,()))) (none))))) (cond (seq x0 [37]) (cond (ieq x2 0) (some (0,(92,()))) (cond (ieq x2 (Neg.neg 1)) (cond (seq x0 [47]) (some ((imul .i64 (isub .i64 0 x1) 1),(0,()))) (some ((imul .i64 (isub .i64 0 x1) 0),(0,())))) (cond (seq x0 [47]) (cond (ine x2 0) (some ((iquo .i64 x1 x2),(0,()))) (none)) (cond (ine x2 0) (some ((irem x1 x2),(0,()))) (none))))) (cond (seq x0 [60,60]) (cond (ilt x2 0) (some (0,(93,()))) (cond (ilt 63 x2) (some (0,(93,()))) (cond (seq x0 [60,60]) (cond (ile 0 x2) (some ((jshl .i64 x1 x2),(0,()))) (none)) (cond (ile 0 x2) (some ((jshr .i64 x1 x2),(0,()))) (none))))) (cond (seq x0 [62,62]) (cond (ilt x2 0) (some (0,(93,()))) (cond (ilt 63 x2) (some (0,(93,()))) (cond (seq x0 [60,60]) (cond (ile 0 x2) (some ((jshl .i64 x1 x2),(0,()))) (none)) (cond (ile 0 x2) (some ((jshr .i64 x1 x2),(0,()))) (none))))) (cond (seq x0 [124,124]) (cond (ine x2 0) (some (1,(0,()))) (some (0,(0,())))) (cond (seq x0 [38,38]) (cond (ine x2 0) (some (1,(0,()))) (some (0,(0,())))) (Option.bind (c113 (x0,(x1,(x2,())))) fun y0=>some (y0.1,(0,()))))))))
theorem eq111:@run111 = @sh111:=by kernel_rfl
def sh74 (fu:Nat) (c83:(Str×Unit)->(Option ((List Str)×Unit))) (nf:Nat->Bool) (x0:Str):(Option (Int×Unit)):=iter fu (fun (rec1:((Int×Unit)×Unit)->Option (Int×Unit)) (s1:((Int×Unit)×Unit))=>cond (ilt s1.1.1 10) (cond (inB s1.1.1 10) (Option.bind (c83 ((List.getD [[124,124],[38,38],[124],[94],[38],[61,61,32,33,61],[60,32,62,32,60,61,32,62,61],[60,60,32,62,62],[43,32,45],[42,32,47,32,37]] (Int.toNat s1.1.1) []),())) fun y0=>iter fu (fun (rec2:((Int×Unit)×Unit)->Option (Int×Unit)) (s2:((Int×Unit)×Unit))=>cond (ilt s2.1.1 (lenI y0.1)) (cond (inB s2.1.1 (List.length y0.1)) (cond (seq x0 (List.getD y0.1 (Int.toNat s2.1.1) [])) (cond (ile 0 s2.1.1) (some ((iadd .i64 s1.1.1 1),())) (rec1 (((iadd .i64 s1.1.1 1),()),()))) (rec2 (((iadd .i64 s2.1.1 1),()),()))) (none)) (cond (ile 0 (Neg.neg 1)) (some ((iadd .i64 s1.1.1 1),())) (rec1 (((iadd .i64 s1.1.1 1),()),())))) ((0,()),())) (none)) (some (0,()))) ((0,()),())
theorem eq74:@run74 = @sh74:=by kernel_rfl
def sh114 (fu:Nat) (nf:Nat->Bool) (x0:Int):(Option (Int×(Int×Unit))):=some (x0,(0,()))
theorem eq114:@run114 = @sh114:=by kernel_rfl
def sh115 (fu:Nat) (c1000000:(VT×Unit)->(Option (Int×(Int×Unit)))) (nf:Nat->Bool) (x0:UnT):(Option (Int×(Int×Unit))):=Option.bind (c1000000 ((UnT.x x0),())) fun y0=>cond (seq (UnT.sign x0) [45]) (cond (ine y0.2.1 0) (some (0,(y0.2.1,()))) (some ((isub .i64 0 y0.1),(0,())))) (cond (seq (UnT.sign x0) [33]) (cond (ieq y0.1 0) (cond (ine y0.2.1 0) (some (0,(y0.2.1,()))) (some (1,(0,())))) (cond (ine y0.2.1 0) (some (0,(y0.2.1,()))) (some (0,(0,()))))) (cond (seq (UnT.sign x0) [126]) (cond (ine y0.2.1 0) (some (0,(y0.2.1,()))) (some ((jnot .i64 y0.1),(0,())))) (cond (ine y0.2.1 0) (some (0,(y0.2.1,()))) (some (y0.1,(0,()))))))
theorem eq115:@run115 = @sh115:=by kernel_rfl
def sh110 (fu:Nat) (c111:(Str×(Int×(Int×Unit)))->(Option (Int×(Int×Unit)))) (c1000000:(VT×Unit)->(Option (Int×(Int×Unit)))) (nf:Nat->Bool) (x0:BinT):(Option (Int×(Int×Unit))):=Option.bind (c1000000 ((BinT.x x0),())) fun y0=>cond (ine y0.2.1 0) (some (0,(y0.2.1,()))) (cond (seq (BinT.sign x0) [124,124]) (cond (ine y0.1 0) (some (1,(0,()))) (cond (seq (BinT.sign x0) [38,38]) (cond (ieq y0.1 0) (some (0,(0,()))) (Option.bind (c1000000 ((BinT.y x0),())) fun y1=>cond (ine y1.2.1 0) (some (0,(y1.2.1,()))) (Option.bind (c111 ((BinT.sign x0),(y0.1,(y1.1,())))) fun y2=>some (y2.1,(y2.2.1,()))))) (Option.bind (c1000000 ((BinT.y x0),())) fun y1=>cond (ine y1.2.1 0) (some (0,(y1.2.1,()))) (Option.bind (c111 ((BinT.sign x0),(y0.1,(y1.1,())))) fun y2=>some (y2.1,(y2.2.1,())))))) (cond (seq (BinT.sign x0) [38,38]) (cond (ieq y0.1 0) (some (0,(0,()))) (Option.bind (c1000000 ((BinT.y x0),())) fun y1=>cond (ine y1.2.1 0) (some (0,(y1.2.1,()))) (Option.bind (c111 ((BinT.sign x0),(y0.1,(y1.1,())))) fun y2=>some (y2.1,(y2.2.1,()))))) (Option.bind (c1000000 ((BinT.y x0),())) fun y1=>cond (ine y1.2.1 0) (some (0,(y1.2.1,()))) (Option.bind (c111 ((BinT.sign x0),(y0.1,(y1.1,())))) fun y2=>some (y2.1,(y2.2.1,()))))))
theorem eq110:@run110 = @sh110:=by kernel_rfl
def sh109 (fu:Nat) (c1000000:(VT×Unit)->(Option (Int×(Int×Unit)))) (nf:Nat->Bool) (x0:ChoT):(Option (Int×(Int×Unit))):=Option.bind (c1000000 ((ChoT.c x0),())) fun y0=>cond (ine y0.2.1 0) (some (0,(y0.2.1,()))) (cond (ine y0.1 0) (Option.bind (c1000000 ((ChoT.x x0),())) fun y1=>some (y1.1,(y1.2.1,()))) (Option.bind (c1000000 ((ChoT.y x0),())) fun y1=>some (y1.1,(y1.2.1,()))))
theorem eq109:@run109 = @sh109:=by kernel_rfl
def sh52 (fu:Nat) (x:(((Bool×LT)×(Bool×(Int×Unit)))×Unit)) (a:Unit):(Option (Option ((((Bool×LT)×(Bool×(Int×Unit)))×Unit)×(Str×Unit)))):=cond (ieq (lenI x.1.1.2) 0) (some (some ((((x.1.1.1,x.1.1.2),(x.1.2.1,(x.1.2.2.1,()))),()),([],())))) (cond (inB 0 (List.length x.1.1.2)) (cond (ine (TokT.kind (List.getD x.1.1.2 0 tokD)) 5) (some (some ((((x.1.1.1,x.1.1.2),(x.1.2.1,(x.1.2.2.1,()))),()),([],())))) (cond (inB 0 (List.length x.1.1.2)) (some (some ((((x.1.1.1,x.1.1.2),(x.1.2.1,(x.1.2.2.1,()))),()),((TokT.text (List.getD x.1.1.2 0 tokD)),())))) (none))) (none))
theorem eq52:@run52 = @sh52:=by kernel_rfl
def sh53 (fu:Nat) (c52:Unit->((Bool×LT)×(Bool×Int))->(Option ((Str×Unit)×((Bool×LT)×(Bool×Int))))) (x:(((Bool×LT)×(Bool×(Int×Unit)))×Unit)) (a:(Str×Unit)):(Option (Option ((((Bool×LT)×(Bool×(Int×Unit)))×Unit)×Unit))):=Option.bind (c52 () ((x.1.1.1,x.1.1.2),(x.1.2.1,x.1.2.2.1))) fun y0=>cond (!(seq y0.1.1 a.1)) (some (some ((((y0.2.1.1,y0.2.1.2),(true,(y0.2.2.2,()))),()),()))) (cond (inS 1 (lenI y0.2.1.2) (List.length y0.2.1.2)) (some (some ((((y0.2.1.1,(cutL y0.2.1.2 1 (lenI y0.2.1.2))),(y0.2.2.1,(y0.2.2.2,()))),()),()))) (none))
theorem eq53:@run53 = @sh53:=by kernel_rfl
def sh54 (fu:Nat) (c26:(Int×Unit)->((Bool×LT)×(Bool×Int))->(Option ((VT×Unit)×((Bool×LT)×(Bool×Int))))) (x:(((Bool×LT)×(Bool×(Int×Unit)))×Unit)) (a:(Int×Unit)):(Option (Option ((((Bool×LT)×(Bool×(Int×Unit)))×Unit)×(VT×Unit)))):=cond (ieq a.1 60) (some (some ((((x.1.1.1,x.1.1.2),(true,(x.1.2.2.1,()))),()),((VT.num 0),())))) (cond x.1.2.1 (some (some ((((x.1.1.1,x.1.1.2),(true,(x.1.2.2.1,()))),()),((VT.num 0),())))) (Option.bind (c26 ((iadd .i64 a.1 1),()) ((x.1.1.1,x.1.1.2),(x.1.2.1,x.1.2.2.1))) fun y0=>some (some ((((y0.2.1.1,y0.2.1.2),(y0.2.2.1,(y0.2.2.2,()))),()),(y0.1.1,())))))
theorem eq54:@run54 = @sh54:=by kernel_rfl
def sh26 (fu:Nat) (c51:(Int×(Int×Unit))->((Bool×LT)×(Bool×Int))->(Option ((VT×Unit)×((Bool×LT)×(Bool×Int))))) (c52:Unit->((Bool×LT)×(Bool×Int))->(Option ((Str×Unit)×((Bool×LT)×(Bool×Int))))) (c53:(Str×Unit)->((Bool×LT)×(Bool×Int))->(Option (Unit×((Bool×LT)×(Bool×Int))))) (c54:(Int×Unit)->((Bool×LT)×(Bool×Int))->(Option ((VT×Unit)×((Bool×LT)×(Bool×Int))))) (x:(((Bool×LT)×(Bool×(Int×Unit)))×Unit)) (a:(Int×Unit)):(Option (Option ((((Bool×LT)×(Bool×(Int×Unit)))×Unit)×(VT×Unit)))):=Option.bind (c51 (1,(a.1,())) ((x.1.1.1,x.1.1.2),(x.1.2.1,x.1.2.2.1))) fun y0=>cond y0.2.2.1 (some (some ((((y0.2.1.1,y0.2.1.2),(y0.2.2.1,(y0.2.2.2,()))),()),(y0.1.1,())))) (Option.bind (c52 () ((y0.2.1.1,y0.2.1.2),(y0.2.2.1,y0.2.2.2))) fun y1=>cond (!(seq y1.1.1 [63])) (some (some ((((y1.2.1.1,y1.2.1.2),(y1.2.2.1,(y1.2.2.2,()))),()),(y0.1.1,())))) (Option.bind (c53 ([63],()) ((y1.2.1.1,y1.2.1.2),(y1.2.2.1,y1.2.2.2))) fun y2=>Option.bind (c54 (a.1,()) ((y2.2.1.1,y2.2.1.2),(y2.2.2.1,y2.2.2.2))) fun y3=>Option.bind (c53 ([58],()) ((y3.2.1.1,y3.2.1.2),(y3.2.2.1,y3.2.2.2))) fun y4=>Option.bind (c54 (a.1,()) ((y4.2.1.1,y4.2.1.2),(y4.2.2.1,y4.2.2.2))) fun y5=>some (some ((((y5.2.1.1,y5.2.1.2),(y5.2.2.1,(y5.2.2.2,()))),()),((VT.cho (ChoT.c (ChoT.mk y0.1.1 y3.1.1 y5.1.1)) (ChoT.x (ChoT.mk y0.1.1 y3.1.1 y5.1.1)) (ChoT.y (ChoT.mk y0.1.1 y3.1.1 y5.1.1))),())))))
theorem eq26:@run26 = @sh26:=by kernel_rfl
def sh51 (fu:Nat) (c74:(Str×Unit)->(Option (Int×Unit))) (c51:(Int×(Int×Unit))->((Bool×LT)×(Bool×Int))->(Option ((VT×Unit)×((Bool×LT)×(Bool×Int))))) (c52:Unit->((Bool×LT)×(Bool×Int))->(Option ((Str×Unit)×((Bool×LT)×(Bool×Int))))) (c53:(Str×Unit)->((Bool×LT)×(Bool×Int))->(Option (Unit×((Bool×LT)×(Bool×Int))))) (c73:(Int×Unit)->((Bool×LT)×(Bool×Int))->(Option ((VT×Unit)×((Bool×LT)×(Bool×Int))))) (x:(((Bool×LT)×(Bool×(Int×Unit)))×Unit)) (a:(Int×(Int×Unit))):(Option (Option ((((Bool×LT)×(Bool×(Int×Unit)))×Unit)×(VT×Unit)))):=Option.bind (c73 (a.2.1,()) ((x.1.1.1,x.1.1.2),(x.1.2.1,x.1.2.2.1))) fun y0=>iter fu (fun (rec1:((VT×Unit)×(((Bool×LT)×(Bool×(Int×Unit)))×Unit))->Option (Option ((((Bool×LT)×(Bool×(Int×Unit)))×Unit)×(VT×Unit)))) (s1:((VT×Unit)×(((Bool×LT)×(Bool×(Int×Unit)))×Unit)))=>cond (!s1.2.1.2.1) (Option.bind (c52 () ((s1.2.1.1.1,s1.2.1.1.2),(s1.2.1.2.1,s1.2.1.2.2.1))) fun y1=>Option.bind (c74 (y1.1.1,())) fun y2=>cond (ilt y2.1 a.1) (some (some ((((y1.2.1.1,y1.2.1.2),(y1.2.2.1,(y1.2.2.2,()))),()),(s1.1.1,())))) (cond (ieq y2.1 0) (some (some ((((y1.2.1.1,y1.2.1.2),(y1.2.2.1,(y1.2.2.2,()))),()),(s1.1.1,())))) (Option.bind (c53 (y1.1.1,()) ((y1.2.1.1,y1.2.1.2),(y1.2.2.1,y1.2.2.2))) fun y3=>Option.bind (c51 ((iadd .i64 y2.1 1),(a.2.1,())) ((y3.2.1.1,y3.2.1.2),(y3.2.2.1,y3.2.2.2))) fun y4=>rec1 (((VT.bin (BinT.sign (BinT.mk y1.1.1 s1.1.1 y4.1.1)) (BinT.x (BinT.mk y1.1.1 s1.1.1 y4.1.1)) (BinT.y (BinT.mk y1.1.1 s1.1.1 y4.1.1))),()),(((y4.2.1.1,y4.2.1.2),(y4.2.2.1,(y4.2.2.2,()))),()))))) (some (some ((((s1.2.1.1.1,s1.2.1.1.2),(s1.2.1.2.1,(s1.2.1.2.2.1,()))),()),(s1.1.1,()))))) ((y0.1.1,()),(((y0.2.1.1,y0.2.1.2),(y0.2.2.1,(y0.2.2.2,()))),()))
theorem eq51:@run51 = @sh51:=by kernel_rfl
def sh73 (fu:Nat) (c52:Unit->((Bool×LT)×(Bool×Int))->(Option ((Str×Unit)×((Bool×LT)×(Bool×Int))))) (c53:(Str×Unit)->((Bool×LT)×(Bool×Int))->(Option (Unit×((Bool×LT)×(Bool×Int))))) (c73:(Int×Unit)->((Bool×LT)×(Bool×Int))->(Option ((VT×Unit)×((Bool×LT)×(Bool×Int))))) (c82:(Int×Unit)->((Bool×LT)×(Bool×Int))->(Option ((VT×Unit)×((Bool×LT)×(Bool×Int))))) (x:(((Bool×LT)×(Bool×(Int×Unit)))×Unit)) (a:(Int×Unit)):(Option (Option ((((Bool×LT)×(Bool×(Int×Unit)))×Unit)×(VT×Unit)))):=Option.bind (c52 () ((x.1.1.1,x.1.1.2),(x.1.2.1,x.1.2.2.1))) fun y0=>cond (!(seq y0.1.1 [43])) (cond (!(seq y0.1.1 [45])) (cond (!(seq y0.1.1 [33])) (cond (!(seq y0.1.1 [126])) (Option.bind (c82 (a.1,()) ((y0.2.1.1,y0.2.1.2),(y0.2.2.1,y0.2.2.2))) fun y1=>some (some ((((y1.2.1.1,y1.2.1.2),(y1.2.2.1,(y1.2.2.2,()))),()),(y1.1.1,())))) (cond (ieq a.1 60) (some (some ((((y0.2.1.1,y0.2.1.2),(true,(y0.2.2.2,()))),()),((VT.num 0),())))) (Option.bind (c53 (y0.1.1,()) ((y0.2.1.1,y0.2.1.2),(y0.2.2.1,y0.2.2.2))) fun y1=>Option.bind (c73 ((iadd .i64 a.1 1),()) ((y1.2.1.1,y1.2.1.2),(y1.2.2.1,y1.2.2.2))) fun y2=>some (some ((((y2.2.1.1,y2.2.1.2),(y2.2.2.1,(y2.2.2.2,()))),()),((VT.un (UnT.sign (UnT.mk y0.1.1 y2.1.1)) (UnT.x (UnT.mk y0.1.1 y2.1.1))),())))))) (cond (ieq a.1 60) (some (some ((((y0.2.1.1,y0.2.1.2),(true,(y0.2.2.2,()))),()),((VT.num 0),())))) (Option.bind (c53 (y0.1.1,()) ((y0.2.1.1,y0.2.1.2),(y0.2.2.1,y0.2.2.2))) fun y1=>Option.bind (c73 ((iadd .i64 a.1 1),()) ((y1.2.1.1,y1.2.1.2),(y1.2.2.1,y1.2.2.2))) fun y2=>some (some ((((y2.2.1.1,y2.2.1.2),(y2.2.2.1,(y2.2.2.2,()))),()),((VT.un (UnT.sign (UnT.mk y0.1.1 y2.1.1)) (UnT.x (UnT.mk y0.1.1 y2.1.1))),())))))) (cond (ieq a.1 60) (some (some ((((y0.2.1.1,y0.2.1.2),(true,(y0.2.2.2,()))),()),((VT.num 0),())))) (Option.bind (c53 (y0.1.1,()) ((y0.2.1.1,y0.2.1.2),(y0.2.2.1,y0.2.2.2))) fun y1=>Option.bind (c73 ((iadd .i64 a.1 1),()) ((y1.2.1.1,y1.2.1.2),(y1.2.2.1,y1.2.2.2))) fun y2=>some (some ((((y2.2.1.1,y2.2.1.2),(y2.2.2.1,(y2.2.2.2,()))),()),((VT.un (UnT.sign (UnT.mk y0.1.1 y2.1.1)) (UnT.x (UnT.mk y0.1.1 y2.1.1))),())))))) (cond (ieq a.1 60) (some (some ((((y0.2.1.1,y0.2.1.2),(true,(y0.2.2.2,()))),()),((VT.num 0),())))) (Option.bind (c53 (y0.1.1,()) ((y0.2.1.1,y0.2.1.2),(y0.2.2.1,y0.2.2.2))) fun y1=>Option.bind (c73 ((iadd .i64 a.1 1),()) ((y1.2.1.1,y1.2.1.2),(y1.2.2.1,y1.2.2.2))) fun y2=>some (some ((((y2.2.1.1,y2.2.1.2),(y2.2.2.1,(y2.2.2.2,()))),()),((VT.un (UnT.sign (UnT.mk y0.1.1 y2.1.1)) (UnT.x (UnT.mk y0.1.1 y2.1.1))),())))))
theorem eq73:@run73 = @sh73:=by kernel_rfl
def sh82 (fu:Nat) (c13:(Str×Unit)->(Option (Int×(Int×Unit)))) (c15:(Str×Unit)->(Option (Int×(Int×Unit)))) (c52:Unit->((Bool×LT)×(Bool×Int))->(Option ((Str×Unit)×((Bool×LT)×(Bool×Int))))) (c53:(Str×Unit)->((Bool×LT)×(Bool×Int))->(Option (Unit×((Bool×LT)×(Bool×Int))))) (c54:(Int×Unit)->((Bool×LT)×(Bool×Int))->(Option ((VT×Unit)×((Bool×LT)×(Bool×Int))))) (x:(((Bool×LT)×(Bool×(Int×Unit)))×Unit)) (a:(Int×Unit)):(Option (Option ((((Bool×LT)×(Bool×(Int×Unit)))×Unit)×(VT×Unit)))):=Option.bind (c52 () ((x.1.1.1,x.1.1.2),(x.1.2.1,x.1.2.2.1))) fun y0=>cond (seq y0.1.1 [40]) (Option.bind (c53 ([40],()) ((y0.2.1.1,y0.2.1.2),(y0.2.2.1,y0.2.2.2))) fun y1=>Option.bind (c54 (a.1,()) ((y1.2.1.1,y1.2.1.2),(y1.2.2.1,y1.2.2.2))) fun y2=>Option.bind (c53 ([41],()) ((y2.2.1.1,y2.2.1.2),(y2.2.2.1,y2.2.2.2))) fun y3=>some (some ((((y3.2.1.1,y3.2.1.2),(y3.2.2.1,(y3.2.2.2,()))),()),(y2.1.1,())))) (cond (ieq (lenI y0.2.1.2) 0) (some (some ((((y0.2.1.1,y0.2.1.2),(true,(y0.2.2.2,()))),()),((VT.num 0),())))) (cond (inB 0 (List.length y0.2.1.2)) (cond (inS 1 (lenI y0.2.1.2) (List.length y0.2.1.2)) (zAb (fun (join0:((Int×(Int×Unit))×(((Bool×LT)×(Bool×(Int×Unit)))×Unit))->Option (Option ((((Bool×LT)×(Bool×(Int×Unit)))×Unit)×(VT×Unit))))=>cond (ieq (TokT.kind (List.getD y0.2.1.2 0 tokD)) 2) (Option.bind (c13 ((TokT.text (List.getD y0.2.1.2 0 tokD)),())) fun y1=>join0 ((y1.1,(y1.2.1,())),(((y0.2.1.1,(cutL y0.2.1.2 1 (lenI y0.2.1.2))),(y0.2.2.1,(y0.2.2.2,()))),()))) (cond (ieq (TokT.kind (List.getD y0.2.1.2 0 tokD)) 3) (Option.bind (c15 ((TokT.text (List.getD y0.2.1.2 0 tokD)),())) fun y1=>join0 ((y1.1,(y1.2.1,())),(((y0.2.1.1,(cutL y0.2.1.2 1 (lenI y0.2.1.2))),(y0.2.2.1,(y0.2.2.2,()))),()))) (cond (ieq (TokT.kind (List.getD y0.2.1.2 0 tokD)) 1) (join0 ((0,(0,())),(((y0.2.1.1,(cutL y0.2.1.2 1 (lenI y0.2.1.2))),(y0.2.2.1,(y0.2.2.2,()))),()))) (join0 ((0,(0,())),(((y0.2.1.1,(cutL y0.2.1.2 1 (lenI y0.2.1.2))),(true,(y0.2.2.2,()))),())))))) (fun (t0:((Int×(Int×Unit))×(((Bool×LT)×(Bool×(Int×Unit)))×Unit)))=>cond (ieq t0.2.1.2.2.1 0) (some (some ((((t0.2.1.1.1,t0.2.1.1.2),(t0.2.1.2.1,(t0.1.2.1,()))),()),((VT.num t0.1.1),())))) (some (some ((((t0.2.1.1.1,t0.2.1.1.2),(t0.2.1.2.1,(t0.2.1.2.2.1,()))),()),((VT.num t0.1.1),())))))) (none)) (none)))
theorem eq82:@run82 = @sh82:=by kernel_rfl
def sh23 (fu:Nat) (x:Unit) (a:((Option LT)×(Unit×Unit))):(Option (Option (Unit×((Bool×LT)×Unit)))):=zu a.1 (iter fu (fun (rec1:((Int×Unit)×((Option LT)×Unit))->Option (Option (Unit×((Bool×LT)×Unit)))) (s1:((Int×Unit)×((Option LT)×Unit)))=>zu s1.2.1 (cond (ilt s1.1.1 0) (none) (cond (ieq (Neg.neg 1) (Neg.neg 1)) (some (some ((),((true,[]),())))) (iter fu (fun (rec2:((Int×(Int×Unit))×((Option LT)×Unit))->Option (Option (Unit×((Bool×LT)×Unit)))) (s2:((Int×(Int×Unit))×((Option LT)×Unit)))=>zu s2.2.1 (cond (ilt s2.1.2.1 0) (none) (none)) fun y0=>none) (((Neg.neg 1),((iadd .i64 (Neg.neg 1) 1),())),(none,()))))) fun y0=>none) ((0,()),(none,()))) fun y0=>cond (eqN (List.length y0) (List.length (zW (List.length y0) y0))) (iter fu (fun (rec1:((Int×Unit)×((Option LT)×Unit))->Option (Option (Unit×((Bool×LT)×Unit)))) (s1:((Int×Unit)×((Option LT)×Unit)))=>zu s1.2.1 (none) fun y1=>cond (ilt s1.1.1 (Int.ofNat (List.length y0))) (cond (inB s1.1.1 (List.length y0)) (cond (Nat.blt (Int.toNat s1.1.1) (List.length y1)) (cond (ieq (TokT.kind (List.getD y1 (Int.toNat s1.1.1) tokD)) 7) (cond (ieq s1.1.1 (Neg.neg 1)) (cond (Nat.ble (List.length y0) (List.length y1)) (some (some ((),((false,(zW (List.length y0) y1)),())))) (none)) (cond (eqN (List.length y0) (List.length (zW (List.length y0) y1))) (iter fu (fun (rec2:((Int×(Int×Unit))×((Option LT)×Unit))->Option (Option (Unit×((Bool×LT)×Unit)))) (s2:((Int×(Int×Unit))×((Option LT)×Unit)))=>zu s2.2.1 (none) fun y2=>cond (ilt s2.1.2.1 (Int.ofNat (List.length y0))) (cond (inB s2.1.2.1 (List.length y0)) (cond (Nat.blt (Int.toNat s2.1.2.1) (List.length y2)) (cond (!(ieq (TokT.kind (List.getD y2 (Int.toNat s2.1.2.1) tokD)) 7)) (cond (inB s2.1.1 (List.length y0)) (cond (Nat.blt (Int.toNat s2.1.1) (List.length y2)) (cond (eqN (List.length y0) (List.length (zW (List.length y0) (List.set y2 (Int.toNat s2.1.1) (TokT.mk (TokT.kind (List.getD y2 (Int.toNat s2.1.2.1) tokD)) (TokT.text (List.getD y2 (Int.toNat s2.1.2.1) tokD)) (TokT.file (List.getD y2 (Int.toNat s2.1.2.1) tokD)) (TokT.ffrom (List.getD y2 (Int.toNat s2.1.2.1) tokD)) (TokT.fto (List.getD y2 (Int.toNat s2.1.2.1) tokD)) (TokT.blank (List.getD y2 (Int.toNat s2.1.2.1) tokD))))))) (rec2 (((iadd .i64 s2.1.1 1),((iadd .i64 s2.1.2.1 1),())),((some (zW (List.length y0) (List.set y2 (Int.toNat s2.1.1) (TokT.mk (TokT.kind (List.getD y2 (Int.toNat s2.1.2.1) tokD)) (TokT.text (List.getD y2 (Int.toNat s2.1.2.1) tokD)) (TokT.file (List.getD y2 (Int.toNat s2.1.2.1) tokD)) (TokT.ffrom (List.getD y2 (Int.toNat s2.1.2.1) tokD)) (TokT.fto (List.getD y2 (Int.toNat s2.1.2.1) tokD)) (TokT.blank (List.getD y2 (Int.toNat s2.1.2.1) tokD)))))),()))) (none)) (none)) (none)) (cond (eqN (List.length y0) (List.length (zW (List.length y0) y2))) (rec2 ((s2.1.1,((iadd .i64 s2.1.2.1 1),())),((some (zW (List.length y0) y2)),()))) (none))) (none)) (none)) (cond (inS s2.1.1 (Int.ofNat (List.length y0)) (List.length y2)) (cond (Nat.ble ((Int.toNat s2.1.1)+((Int.toNat (Int.ofNat (List.length y0))) - (Int.toNat s2.1.1))) (List.length y2)) (cond (Nat.beq ((Int.toNat (Int.ofNat (List.length y0))) - (Int.toNat s2.1.1)) 0) (cond (inS 0 s2.1.1 (List.length y2)) (cond (Nat.ble (Int.toNat s2.1.1) (List.length y2)) (some (some ((),((false,(zW (Int.toNat s2.1.1) y2)),())))) (none)) (none)) (cond (inS 0 s2.1.1 (List.length (zW (Int.toNat s2.1.1) y2))) (cond (Nat.ble (Int.toNat s2.1.1) (List.length (zW (Int.toNat s2.1.1) y2))) (some (some ((),((false,(zW (Int.toNat s2.1.1) (zW (Int.toNat s2.1.1) y2))),())))) (none)) (none))) (none)) (none))) ((s1.1.1,((iadd .i64 s1.1.1 1),())),((some (zW (List.length y0) y1)),()))) (none))) (cond (eqN (List.length y0) (List.length (zW (List.length y0) y1))) (rec1 (((iadd .i64 s1.1.1 1),()),((some (zW (List.length y0) y1)),()))) (none))) (none)) (none)) (cond (ieq (Neg.neg 1) (Neg.neg 1)) (cond (Nat.ble (List.length y0) (List.length y1)) (some (some ((),((false,(zW (List.length y0) y1)),())))) (none)) (cond (eqN (List.length y0) (List.length (zW (List.length y0) y1))) (iter fu (fun (rec2:((Int×(Int×Unit))×((Option LT)×Unit))->Option (Option (Unit×((Bool×LT)×Unit)))) (s2:((Int×(Int×Unit))×((Option LT)×Unit)))=>zu s2.2.1 (none) fun y2=>cond (ilt s2.1.2.1 (Int.ofNat (List.length y0))) (cond (inB s2.1.2.1 (List.length y0)) (cond (Nat.blt (Int.toNat s2.1.2.1) (List.length y2)) (cond (!(ieq (TokT.kind (List.getD y2 (Int.toNat s2.1.2.1) tokD)) 7)) (cond (inB s2.1.1 (List.length y0)) (cond (Nat.blt (Int.toNat s2.1.1) (List.length y2)) (cond (eqN (List.length y0) (List.length (zW (List.length y0) (List.set y2 (Int.toNat s2.1.1) (TokT.mk (TokT.kind (List.getD y2 (Int.toNat s2.1.2.1) tokD)) (TokT.text (List.getD y2 (Int.toNat s2.1.2.1) tokD)) (TokT.file (List.getD y2 (Int.toNat s2.1.2.1) tokD)) (TokT.ffrom (List.getD y2 (Int.toNat s2.1.2.1) tokD)) (TokT.fto (List.getD y2 (Int.toNat s2.1.2.1) tokD)) (TokT.blank (List.getD y2 (Int.toNat s2.1.2.1) tokD))))))) (rec2 (((iadd .i64 s2.1.1 1),((iadd .i64 s2.1.2.1 1),())),((some (zW (List.length y0) (List.set y2 (Int.toNat s2.1.1) (TokT.mk (TokT.kind (List.getD y2 (Int.toNat s2.1.2.1) tokD)) (TokT.text (List.getD y2 (Int.toNat s2.1.2.1) tokD)) (TokT.file (List.getD y2 (Int.toNat s2.1.2.1) tokD)) (TokT.ffrom (List.getD y2 (Int.toNat s2.1.2.1) tokD)) (TokT.fto (List.getD y2 (Int.toNat s2.1.2.1) tokD)) (TokT.blank (List.getD y2 (Int.toNat s2.1.2.1) tokD)))))),()))) (none)) (none)) (none)) (cond (eqN (List.length y0) (List.length (zW (List.length y0) y2))) (rec2 ((s2.1.1,((iadd .i64 s2.1.2.1 1),())),((some (zW (List.length y0) y2)),()))) (none))) (none)) (none)) (cond (inS s2.1.1 (Int.ofNat (List.length y0)) (List.length y2)) (cond (Nat.ble ((Int.toNat s2.1.1)+((Int.toNat (Int.ofNat (List.length y0))) - (Int.toNat s2.1.1))) (List.length y2)) (cond (Nat.beq ((Int.toNat (Int.ofNat (List.length y0))) - (Int.toNat s2.1.1)) 0) (cond (inS 0 s2.1.1 (List.length y2)) (cond (Nat.ble (Int.toNat s2.1.1) (List.length y2)) (some (some ((),((false,(zW (Int.toNat s2.1.1) y2)),())))) (none)) (none)) (cond (inS 0 s2.1.1 (List.length (zW (Int.toNat s2.1.1) y2))) (cond (Nat.ble (Int.toNat s2.1.1) (List.length (zW (Int.toNat s2.1.1) y2))) (some (some ((),((false,(zW (Int.toNat s2.1.1) (zW (Int.toNat s2.1.1) y2))),())))) (none)) (none))) (none)) (none))) (((Neg.neg 1),((iadd .i64 (Neg.neg 1) 1),())),((some (zW (List.length y0) y1)),()))) (none)))) ((0,()),((some (zW (List.length y0) y0)),()))) (none)
theorem eq23:@run23 = @sh23:=by kernel_rfl
def sh9 (fu:Nat) (c1000000:(VT×Unit)->(Option (Int×(Int×Unit)))) (c23:((Option LT)×(Unit×Unit))->(Option ((Bool×LT)×Unit))) (c26:(Int×Unit)->((Bool×LT)×(Bool×Int))->(Option ((VT×Unit)×((Bool×LT)×(Bool×Int))))) (nf:Nat->Bool) (x0:LT):(Option (Int×(Int×Unit))):=cond (nilT TM.dl x0) (Option.bind (c23 (none,((),()))) fun y0=>Option.bind (c26 (0,()) ((y0.1.1,y0.1.2),(false,0))) fun y1=>cond y1.2.2.1 (some (0,(90,()))) (cond (ilt 0 (lenI y1.2.1.2)) (some (0,(90,()))) (cond (ine y1.2.2.2 0) (some (0,(y1.2.2.2,()))) (Option.bind (c1000000 (y1.1.1,())) fun y2=>some (y2.1,(y2.2.1,())))))) (cond (okN 56 (0+(List.length x0))) (cond (eqN (0+(List.length x0)) (List.length ((List.take 0 [])++x0))) (Option.bind (c23 ((some ((List.take 0 [])++x0)),((),()))) fun y0=>Option.bind (c26 (0,()) ((y0.1.1,y0.1.2),(false,0))) fun y1=>cond y1.2.2.1 (some (0,(90,()))) (cond (ilt 0 (lenI y1.2.1.2)) (some (0,(90,()))) (cond (ine y1.2.2.2 0) (some (0,(y1.2.2.2,()))) (Option.bind (c1000000 (y1.1.1,())) fun y2=>some (y2.1,(y2.2.1,())))))) (none)) (none))
theorem eq9:@run9 = @sh9:=by kernel_rfl
def sh18 (fu:Nat) (c9:(LT×Unit)->(Option (Int×(Int×Unit)))) (c10:(Int×(Str×Unit))->(Option (LT×Unit))) (nf:Nat->Bool) (x0:Str):(Option (Int×Unit)):=Option.bind (c10 (0,(x0,()))) fun y0=>Option.bind (c9 (y0.1,())) fun y1=>cond (ine y1.2.1 0) (some ((isub .i64 (Neg.neg 1000) y1.2.1),())) (some (y1.1,()))
theorem eq18:@run18 = @sh18:=by kernel_rfl
def sh10 (fu:Nat) (c27:(Str×Unit)->(Option ((List CharT)×Unit))) (c28:((List CharT)×Unit)->(Option (Str×Unit))) (c29:Unit->Str->Int->(Option ((Bool×Unit)×Int))) (c30:Unit->Str->Int->(Option ((Int×(Int×Unit))×Int))) (nf:Nat->Bool) (x0:Int) (x1:Str):(Option (LT×Unit)):=Option.bind (c27 (x1,())) fun y0=>Option.bind (c28 (y0.1,())) fun y1=>iter fu (fun (rec1:((LT×Unit)×((Str×(Int×Unit))×Unit))->Option (LT×Unit)) (s1:((LT×Unit)×((Str×(Int×Unit))×Unit)))=>iter fu (fun (rec2:((LT×Unit)×((Str×(Int×Unit))×((Int×(Str×(Int×(Int×(Int×(Bool×Unit))))))×Unit)))->Option (LT×Unit)) (s2:((LT×Unit)×((Str×(Int×Unit))×((Int×(Str×(Int×(Int×(Int×(Bool×Unit))))))×Unit))))=>cond (ilt s2.2.1.2.1 (lenI s2.2.1.1)) (Option.bind (c29 () s2.2.1.1 s2.2.1.2.1) fun y2=>cond y2.1.1 (rec2 ((s2.1.1,()),((s2.2.1.1,(y2.2,())),((s2.2.2.1.1,(s2.2.2.1.2.1,(s2.2.2.1.2.2.1,(s2.2.2.1.2.2.2.1,(s2.2.2.1.2.2.2.2.1,(true,())))))),())))) (cond (ile (lenI s2.2.1.1) y2.2) (some (s2.1.1,())) (Option.bind (c30 () s2.2.1.1 y2.2) fun y3=>cond (inS y3.2 (iadd .i64 y3.2 y3.1.2.1) (List.length s2.2.1.1)) (cond (inB y3.2 (List.length y0.1)) (cond (inB (isub .i64 (iadd .i64 y3.2 y3.1.2.1) 1) (List.length y0.1)) (cond (okN 56 ((List.length s2.1.1)+(List.length [(TokT.mk y3.1.1 (cutL s2.2.1.1 y3.2 (iadd .i64 y3.2 y3.1.2.1)) s2.2.2.1.2.2.1 (CharT.fat (List.getD y0.1 (Int.toNat y3.2) yM)) (iadd .i64 (CharT.fat (List.getD y0.1 (Int.toNat (isub .i64 (iadd .i64 y3.2 y3.1.2.1) 1)) yM)) 1) s2.2.2.1.2.2.2.2.2.1)]))) (rec1 (((s2.1.1++[(TokT.mk y3.1.1 (cutL s2.2.1.1 y3.2 (iadd .i64 y3.2 y3.1.2.1)) s2.2.2.1.2.2.1 (CharT.fat (List.getD y0.1 (Int.toNat y3.2) yM)) (iadd .i64 (CharT.fat (List.getD y0.1 (Int.toNat (isub .i64 (iadd .i64 y3.2 y3.1.2.1) 1)) yM)) 1) s2.2.2.1.2.2.2.2.2.1)]),()),((s2.2.1.1,((iadd .i64 y3.2 y3.1.2.1),())),()))) (none)) (none)) (none)) (none)))) (cond (ile (lenI s2.2.1.1) s2.2.1.2.1) (some (s2.1.1,())) (Option.bind (c30 () s2.2.1.1 s2.2.1.2.1) fun y2=>cond (inS y2.2 (iadd .i64 y2.2 y2.1.2.1) (List.length s2.2.1.1)) (cond (inB y2.2 (List.length y0.1)) (cond (inB (isub .i64 (iadd .i64 y2.2 y2.1.2.1) 1) (List.length y0.1)) (cond (okN 56 ((List.length s2.1.1)+(List.length [(TokT.mk y2.1.1 (cutL s2.2.1.1 y2.2 (iadd .i64 y2.2 y2.1.2.1)) s2.2.2.1.2.2.1 (CharT.fat (List.getD y0.1 (Int.toNat y2.2) yM)) (iadd .i64 (CharT.fat (List.getD y0.1 (Int.toNat (isub .i64 (iadd .i64 y2.2 y2.1.2.1) 1)) yM)) 1) s2.2.2.1.2.2.2.2.2.1)]))) (rec1 (((s2.1.1++[(TokT.mk y2.1.1 (cutL s2.2.1.1 y2.2 (iadd .i64 y2.2 y2.1.2.1)) s2.2.2.1.2.2.1 (CharT.fat (List.getD y0.1 (Int.toNat y2.2) yM)) (iadd .i64 (CharT.fat (List.getD y0.1 (Int.toNat (isub .i64 (iadd .i64 y2.2 y2.1.2.1) 1)) yM)) 1) s2.2.2.1.2.2.2.2.2.1)]),()),((s2.2.1.1,((iadd .i64 y2.2 y2.1.2.1),())),()))) (none)) (none)) (none)) (none)))) ((s1.1.1,()),((s1.2.1.1,(s1.2.1.2.1,())),((0,([],(x0,(0,(0,(false,())))))),())))) (([],()),((y1.1,(0,())),()))
theorem eq10:@run10 = @sh10:=by kernel_rfl
theorem con39 (fu:Nat) :ConOk CC Tryd.prog 39 ⟨as39,rs39,fun x=>sh39 fu (fun _=>false) x.1⟩:=
 zV (c:=⟨as39,rs39,fun x=>sh39 fu (fun _=>false) x.1⟩) (syn:=syn) (fu:=fu) (d:=2) (inl:=zA []) (orc:=zA []) (orr:=zA []) (orp:=zA []) (pf:=hasN []) (rf:=hasN []) zX CCok mixed (fun g=>(zE (α:=Con UU) (l:=[]) g).symm) (fun g=>(zE (α:=CR UU) (l:=[]) g).symm) (zC) (zC) (zC) (zC) fdok39 (by show 1<=35; decide) (zQ rfl) (fun nf x=>by show run39 fu nf x.1=_; rw [eq39]; rfl)
theorem con41 (fu:Nat) :ConOk CC Tryd.prog 41 ⟨as41,rs41,fun x=>sh41 fu (fun _=>false) x.1⟩:=
 zV (c:=⟨as41,rs41,fun x=>sh41 fu (fun _=>false) x.1⟩) (syn:=syn) (fu:=fu) (d:=2) (inl:=zA []) (orc:=zA []) (orr:=zA []) (orp:=zA []) (pf:=hasN []) (rf:=hasN []) zX CCok mixed (fun g=>(zE (α:=Con UU) (l:=[]) g).symm) (fun g=>(zE (α:=CR UU) (l:=[]) g).symm) (zC) (zC) (zC) (zC) fdok41 (by show 1<=29; decide) (zQ rfl) (fun nf x=>by show run41 fu nf x.1=_; rw [eq41]; rfl)
theorem con13 (fu:Nat) (c39:zI as39->Option (zI rs39)) (h39:ConOk CC Tryd.prog 39 ⟨as39,rs39,c39⟩) (c40:zI as40->Option (zI rs40)) (h40:ConOk CC Tryd.prog 40 ⟨as40,rs40,c40⟩) (c41:zI as41->Option (zI rs41)) (h41:ConOk CC Tryd.prog 41 ⟨as41,rs41,c41⟩):ConOk CC Tryd.prog 13 ⟨as13,rs13,fun x=>sh13 fu c39 c40 c41 (fun _=>false) x.1⟩:=
 zV (c:=⟨as13,rs13,fun x=>sh13 fu c39 c40 c41 (fun _=>false) x.1⟩) (syn:=syn) (fu:=fu) (d:=4) (inl:=zA [(38,fd38),(70,fd70)]) (orc:=zA [(39,(⟨as39,rs39,c39⟩:Con UU)),(40,(⟨as40,rs40,c40⟩:Con UU)),(41,(⟨as41,rs41,c41⟩:Con UU))]) (orr:=zA []) (orp:=zA []) (pf:=hasN [39,40,41]) (rf:=hasN []) zX CCok mixed (fun g=>(zE (α:=Con UU) (l:=[(39,(⟨as39,rs39,c39⟩:Con UU)),(40,(⟨as40,rs40,c40⟩:Con UU)),(41,(⟨as41,rs41,c41⟩:Con UU))]) g).symm) (fun g=>(zE (α:=CR UU) (l:=[]) g).symm) (zF zLh (zF zLt (zC))) (zF (OrcOk.of ⟨code39,h39⟩ rfl) (zF (OrcOk.of ⟨code40,h40⟩ rfl) (zF (OrcOk.of ⟨code41,h41⟩ rfl) (zC)))) (zC) (zC) fdok13 (by show 1<=69; decide) (zQ rfl) (fun nf x=>by show run13 fu c39 c40 c41 nf x.1=_; rw [eq13]; rfl)
theorem con15 (fu:Nat) (c44:zI as44->Option (zI rs44)) (h44:ConOk CC Tryd.prog 44 ⟨as44,rs44,c44⟩):ConOk CC Tryd.prog 15 ⟨as15,rs15,fun x=>sh15 fu c44 (fun _=>false) x.1⟩:=
 zV (c:=⟨as15,rs15,fun x=>sh15 fu c44 (fun _=>false) x.1⟩) (syn:=syn) (fu:=fu) (d:=2) (inl:=zA []) (orc:=zA [(44,(⟨as44,rs44,c44⟩:Con UU))]) (orr:=zA []) (orp:=zA []) (pf:=hasN [44]) (rf:=hasN []) zX CCok mixed (fun g=>(zE (α:=Con UU) (l:=[(44,(⟨as44,rs44,c44⟩:Con UU))]) g).symm) (fun g=>(zE (α:=CR UU) (l:=[]) g).symm) (zC) (zF (OrcOk.of ⟨zIV,h44⟩ rfl) (zC)) (zC) (zC) fdok15 (by show 1<=63; decide) (zQ rfl) (fun nf x=>by show run15 fu c44 nf x.1=_; rw [eq15]; rfl)
theorem con113 (fu:Nat) :ConOk CC Tryd.prog 113 ⟨jh,jI,fun x=>sh113 fu (fun _=>false) x.1 x.2.1 x.2.2.1⟩:=
 zV (c:=⟨jh,jI,fun x=>sh113 fu (fun _=>false) x.1 x.2.1 x.2.2.1⟩) (syn:=syn) (fu:=fu) (d:=3) (inl:=zA [(112,kK)]) (orc:=zA []) (orr:=zA []) (orp:=zA []) (pf:=hasN []) (rf:=hasN []) zX CCok mixed (fun g=>(zE (α:=Con UU) (l:=[]) g).symm) (fun g=>(zE (α:=CR UU) (l:=[]) g).symm) (zF zJE (zC)) (zC) (zC) (zC) zNj (by show 3<=72; decide) (zQ rfl) (fun nf x=>by show run113 fu nf x.1 x.2.1 x.2.2.1=_; rw [eq113]; rfl)
theorem con111 (fu:Nat) (c113:zI jh->Option (zI jI)) (h113:ConOk CC Tryd.prog 113 ⟨jh,jI,c113⟩):ConOk CC Tryd.prog 111 ⟨jc,qq,fun x=>sh111 fu c113 (fun _=>false) x.1 x.2.1 x.2.2.1⟩:=
 zV (c:=⟨jc,qq,fun x=>sh111 fu c113 (fun _=>false) x.1 x.2.1 x.2.2.1⟩) (syn:=syn) (fu:=fu) (d:=3) (inl:=zA [(112,kK)]) (orc:=zA [(113,(⟨jh,jI,c113⟩:Con UU))]) (orr:=zA []) (orp:=zA []) (pf:=hasN [113]) (rf:=hasN []) zX CCok mixed (fun g=>(zE (α:=Con UU) (l:=[(113,(⟨jh,jI,c113⟩:Con UU))]) g).symm) (fun g=>(zE (α:=CR UU) (l:=[]) g).symm) (zF zJR (zC)) (zF (OrcOk.of ⟨zOP,h113⟩ rfl) (zC)) (zC) (zC) zOS (by show 3<=57; decide) (zQ rfl) (fun nf x=>by show run111 fu c113 nf x.1 x.2.1 x.2.2.1=_; rw [eq111]; rfl)
theorem con74 (fu:Nat) (c83:zI as83->Option (zI rs83)) (h83:ConOk CC Tryd.prog 83 ⟨as83,rs83,c83⟩):ConOk CC Tryd.prog 74 ⟨as74,rs74,fun x=>sh74 fu c83 (fun _=>false) x.1⟩:=
 zV (c:=⟨as74,rs74,fun x=>sh74 fu c83 (fun _=>false) x.1⟩) (syn:=syn) (fu:=fu) (d:=4) (inl:=zA [(48,fd48),(72,fd72)]) (orc:=zA [(83,(⟨as83,rs83,c83⟩:Con UU))]) (orr:=zA []) (orp:=zA []) (pf:=hasN [83]) (rf:=hasN []) zX CCok mixed (fun g=>(zE (α:=Con UU) (l:=[(83,(⟨as83,rs83,c83⟩:Con UU))]) g).symm) (fun g=>(zE (α:=CR UU) (l:=[]) g).symm) (zF zLd (zF zMG (zC))) (zF (OrcOk.of ⟨code83,h83⟩ rfl) (zC)) (zC) (zC) fdok74 (by show 1<=17; decide) (zQ rfl) (fun nf x=>by show run74 fu c83 nf x.1=_; rw [eq74]; rfl)
theorem con114 (fu:Nat) :ConOk CC Tryd.prog 114 ⟨zKH,zGy,fun x=>sh114 fu (fun _=>false) x.1⟩:=
 zV (c:=⟨zKH,zGy,fun x=>sh114 fu (fun _=>false) x.1⟩) (syn:=syn) (fu:=fu) (d:=2) (inl:=zA []) (orc:=zA []) (orr:=zA []) (orp:=zA []) (pf:=hasN []) (rf:=hasN []) zX CCok mixed (fun g=>(zE (α:=Con UU) (l:=[]) g).symm) (fun g=>(zE (α:=CR UU) (l:=[]) g).symm) (zC) (zC) (zC) (zC) zOc (by show 1<=5; decide) (zQ rfl) (fun nf x=>by show run114 fu nf x.1=_; rw [eq114]; rfl)
theorem con115 (fu:Nat) (c1000000:zI zf->Option (zI ze)) (h1000000:OrcOk CC Tryd.prog 1000000 ⟨zf,ze,c1000000⟩):ConOk CC Tryd.prog 115 ⟨zKg,zG4,fun x=>sh115 fu c1000000 (fun _=>false) x.1⟩:=
 zV (c:=⟨zKg,zG4,fun x=>sh115 fu c1000000 (fun _=>false) x.1⟩) (syn:=syn) (fu:=fu) (d:=3) (inl:=zA [(112,kK)]) (orc:=zA [(1000000,(⟨zf,ze,c1000000⟩:Con UU))]) (orr:=zA []) (orp:=zA []) (pf:=hasN [1000000]) (rf:=hasN []) zX CCok mixed (fun g=>(zE (α:=Con UU) (l:=[(1000000,(⟨zf,ze,c1000000⟩:Con UU))]) g).symm) (fun g=>(zE (α:=CR UU) (l:=[]) g).symm) (zF zI4 (zC)) (zF h1000000 (zC)) (zC) (zC) zOG (by show 1<=31; decide) (zQ rfl) (fun nf x=>by show run115 fu c1000000 nf x.1=_; rw [eq115]; rfl)
theorem con110 (fu:Nat) (c111:zI jc->Option (zI qq)) (h111:ConOk CC Tryd.prog 111 ⟨jc,qq,c111⟩) (c1000000:zI zf->Option (zI ze)) (h1000000:OrcOk CC Tryd.prog 1000000 ⟨zf,ze,c1000000⟩):ConOk CC Tryd.prog 110 ⟨zKN,zG6,fun x=>sh110 fu c111 c1000000 (fun _=>false) x.1⟩:=
 zV (c:=⟨zKN,zG6,fun x=>sh110 fu c111 c1000000 (fun _=>false) x.1⟩) (syn:=syn) (fu:=fu) (d:=2) (inl:=zA []) (orc:=zA [(111,(⟨jc,qq,c111⟩:Con UU)),(1000000,(⟨zf,ze,c1000000⟩:Con UU))]) (orr:=zA []) (orp:=zA []) (pf:=hasN [111,1000000]) (rf:=hasN []) zX CCok mixed (fun g=>(zE (α:=Con UU) (l:=[(111,(⟨jc,qq,c111⟩:Con UU)),(1000000,(⟨zf,ze,c1000000⟩:Con UU))]) g).symm) (fun g=>(zE (α:=CR UU) (l:=[]) g).symm) (zC) (zF (OrcOk.of ⟨zOA,h111⟩ rfl) (zF h1000000 (zC))) (zC) (zC) zOZ (by show 1<=49; decide) (zQ rfl) (fun nf x=>by show run110 fu c111 c1000000 nf x.1=_; rw [eq110]; rfl)
theorem con109 (fu:Nat) (c1000000:zI zf->Option (zI ze)) (h1000000:OrcOk CC Tryd.prog 1000000 ⟨zf,ze,c1000000⟩):ConOk CC Tryd.prog 109 ⟨zKd,zG7,fun x=>sh109 fu c1000000 (fun _=>false) x.1⟩:=
 zV (c:=⟨zKd,zG7,fun x=>sh109 fu c1000000 (fun _=>false) x.1⟩) (syn:=syn) (fu:=fu) (d:=2) (inl:=zA []) (orc:=zA [(1000000,(⟨zf,ze,c1000000⟩:Con UU))]) (orr:=zA []) (orp:=zA []) (pf:=hasN [1000000]) (rf:=hasN []) zX CCok mixed (fun g=>(zE (α:=Con UU) (l:=[(1000000,(⟨zf,ze,c1000000⟩:Con UU))]) g).symm) (fun g=>(zE (α:=CR UU) (l:=[]) g).symm) (zC) (zF h1000000 (zC)) (zC) (zC) zNx (by show 1<=29; decide) (zQ rfl) (fun nf x=>by show run109 fu c1000000 nf x.1=_; rw [eq109]; rfl)
theorem con52 (fu:Nat) :CQ 52 (cE k0 kS (mE (sh52 fu))):=
 zBv (yj (syn:=syn) (fu:=fu) (d:=2) (inl:=zA []) (orc:=zA []) (orr:=zA []) (orp:=zA []) (pf:=hasN []) (rf:=hasN []) zX CCok mixed (fun g=>(zE (α:=Con UU) (l:=[]) g).symm) (fun g=>(zE (α:=CR UU) (l:=[]) g).symm) (zC) (zC) (zC) (zC) fdok52 (by show ([exK]:LK).length+(k0:LK).length<=26; decide) (fun x a=>by show run52 fu x a=sh52 fu x a; rw [eq52]))
theorem con53 (fu:Nat) (c52:zB k0->EE (zB kS)) (h52:CQ 52 (cE k0 kS c52)):CQ 53 (cE kS k0 (mE (sh53 fu c52))):=
 zBv (yj (syn:=syn) (fu:=fu) (d:=2) (inl:=zA []) (orc:=zA []) (orr:=zA []) (orp:=zA [(52,cE k0 kS c52)]) (pf:=hasN []) (rf:=hasN []) zX CCok mixed (fun g=>(zE (α:=Con UU) (l:=[]) g).symm) (fun g=>(zE (α:=CR UU) (l:=[]) g).symm) (zC) (zC) (zC) (zF ⟨zDR,h52⟩ (zC)) fdok53 (by show ([exK]:LK).length+(kS:LK).length<=19; decide) (fun x a=>by show run53 fu c52 x a=sh53 fu c52 x a; rw [eq53]))
theorem con54 (fu:Nat) (c26:zB kI->EE (zB kN)) (h26:CQ 26 (cE kI kN c26)):CQ 54 (cE kI kN (mE (sh54 fu c26))):=
 zBv (yj (syn:=syn) (fu:=fu) (d:=2) (inl:=zA []) (orc:=zA []) (orr:=zA []) (orp:=zA [(26,cE kI kN c26)]) (pf:=hasN []) (rf:=hasN []) zX CCok mixed (fun g=>(zE (α:=Con UU) (l:=[]) g).symm) (fun g=>(zE (α:=CR UU) (l:=[]) g).symm) (zC) (zC) (zC) (zF ⟨zLE,h26⟩ (zC)) fdok54 (by show ([exK]:LK).length+(kI:LK).length<=21; decide) (fun x a=>by show run54 fu c26 x a=sh54 fu c26 x a; rw [eq54]))
theorem con26 (fu:Nat) (c51:zB ([.int .i64,.int .i64]:LK)->EE (zB kN)) (h51:CQ 51 (cE ([.int .i64,.int .i64]:LK) kN c51)) (c52:zB k0->EE (zB kS)) (h52:CQ 52 (cE k0 kS c52)) (c53:zB kS->EE (zB k0)) (h53:CQ 53 (cE kS k0 c53)) (c54:zB kI->EE (zB kN)) (h54:CQ 54 (cE kI kN c54)):CQ 26 (cE kI kN (mE (sh26 fu c51 c52 c53 c54))):=
 zBv (yj (syn:=syn) (fu:=fu) (d:=2) (inl:=zA []) (orc:=zA []) (orr:=zA []) (orp:=zA [(51,cE ([.int .i64,.int .i64]:LK) kN c51),(52,cE k0 kS c52),(53,cE kS k0 c53),(54,cE kI kN c54)]) (pf:=hasN []) (rf:=hasN []) zX CCok mixed (fun g=>(zE (α:=Con UU) (l:=[]) g).symm) (fun g=>(zE (α:=CR UU) (l:=[]) g).symm) (zC) (zC) (zC) (zF ⟨zLV,h51⟩ (zF ⟨zDR,h52⟩ (zF ⟨zFR,h53⟩ (zF ⟨zMJ,h54⟩ (zC))))) fdok26 (by show ([exK]:LK).length+(kI:LK).length<=34; decide) (fun x a=>by show run26 fu c51 c52 c53 c54 x a=sh26 fu c51 c52 c53 c54 x a; rw [eq26]))
theorem con51 (fu:Nat) (c74:zI as74->Option (zI rs74)) (h74:ConOk CC Tryd.prog 74 ⟨as74,rs74,c74⟩) (c51:zB ([.int .i64,.int .i64]:LK)->EE (zB kN)) (h51:CQ 51 (cE ([.int .i64,.int .i64]:LK) kN c51)) (c52:zB k0->EE (zB kS)) (h52:CQ 52 (cE k0 kS c52)) (c53:zB kS->EE (zB k0)) (h53:CQ 53 (cE kS k0 c53)) (c73:zB kI->EE (zB kN)) (h73:CQ 73 (cE kI kN c73)):CQ 51 (cE ([.int .i64,.int .i64]:LK) kN (mE (sh51 fu c74 c51 c52 c53 c73))):=
 zBv (yj (syn:=syn) (fu:=fu) (d:=2) (inl:=zA []) (orc:=zA [(74,(⟨as74,rs74,c74⟩:Con UU))]) (orr:=zA []) (orp:=zA [(51,cE ([.int .i64,.int .i64]:LK) kN c51),(52,cE k0 kS c52),(53,cE kS k0 c53),(73,cE kI kN c73)]) (pf:=hasN [74]) (rf:=hasN []) zX CCok mixed (fun g=>(zE (α:=Con UU) (l:=[(74,(⟨as74,rs74,c74⟩:Con UU))]) g).symm) (fun g=>(zE (α:=CR UU) (l:=[]) g).symm) (zC) (zF (OrcOk.of ⟨code74,h74⟩ rfl) (zC)) (zC) (zF ⟨zLV,h51⟩ (zF ⟨zDR,h52⟩ (zF ⟨zFR,h53⟩ (zF ⟨zLk,h73⟩ (zC))))) fdok51 (by show ([exK]:LK).length+(([.int .i64,.int .i64]:LK):LK).length<=43; decide) (fun x a=>by show run51 fu c74 c51 c52 c53 c73 x a=sh51 fu c74 c51 c52 c53 c73 x a; rw [eq51]))
theorem con73 (fu:Nat) (c52:zB k0->EE (zB kS)) (h52:CQ 52 (cE k0 kS c52)) (c53:zB kS->EE (zB k0)) (h53:CQ 53 (cE kS k0 c53)) (c73:zB kI->EE (zB kN)) (h73:CQ 73 (cE kI kN c73)) (c82:zB kI->EE (zB kN)) (h82:CQ 82 (cE kI kN c82)):CQ 73 (cE kI kN (mE (sh73 fu c52 c53 c73 c82))):=
 zBv (yj (syn:=syn) (fu:=fu) (d:=2) (inl:=zA []) (orc:=zA []) (orr:=zA []) (orp:=zA [(52,cE k0 kS c52),(53,cE kS k0 c53),(73,cE kI kN c73),(82,cE kI kN c82)]) (pf:=hasN []) (rf:=hasN []) zX CCok mixed (fun g=>(zE (α:=Con UU) (l:=[]) g).symm) (fun g=>(zE (α:=CR UU) (l:=[]) g).symm) (zC) (zC) (zC) (zF ⟨zDR,h52⟩ (zF ⟨zFR,h53⟩ (zF ⟨zLk,h73⟩ (zF ⟨code82,h82⟩ (zC))))) fdok73 (by show ([exK]:LK).length+(kI:LK).length<=41; decide) (fun x a=>by show run73 fu c52 c53 c73 c82 x a=sh73 fu c52 c53 c73 c82 x a; rw [eq73]))
theorem con82 (fu:Nat) (c13:zI as13->Option (zI rs13)) (h13:ConOk CC Tryd.prog 13 ⟨as13,rs13,c13⟩) (c15:zI as15->Option (zI rs15)) (h15:ConOk CC Tryd.prog 15 ⟨as15,rs15,c15⟩) (c52:zB k0->EE (zB kS)) (h52:CQ 52 (cE k0 kS c52)) (c53:zB kS->EE (zB k0)) (h53:CQ 53 (cE kS k0 c53)) (c54:zB kI->EE (zB kN)) (h54:CQ 54 (cE kI kN c54)):CQ 82 (cE kI kN (mE (sh82 fu c13 c15 c52 c53 c54))):=
 zBv (yj (syn:=syn) (fu:=fu) (d:=2) (inl:=zA []) (orc:=zA [(13,(⟨as13,rs13,c13⟩:Con UU)),(15,(⟨as15,rs15,c15⟩:Con UU))]) (orr:=zA []) (orp:=zA [(52,cE k0 kS c52),(53,cE kS k0 c53),(54,cE kI kN c54)]) (pf:=hasN [13,15]) (rf:=hasN []) zX CCok mixed (fun g=>(zE (α:=Con UU) (l:=[(13,(⟨as13,rs13,c13⟩:Con UU)),(15,(⟨as15,rs15,c15⟩:Con UU))]) g).symm) (fun g=>(zE (α:=CR UU) (l:=[]) g).symm) (zC) (zF (OrcOk.of ⟨code13,h13⟩ rfl) (zF (OrcOk.of ⟨code15,h15⟩ rfl) (zC))) (zC) (zF ⟨zDR,h52⟩ (zF ⟨zFR,h53⟩ (zF ⟨zMJ,h54⟩ (zC)))) fdok82 (by show ([exK]:LK).length+(kI:LK).length<=78; decide) (fun x a=>by show run82 fu c13 c15 c52 c53 c54 x a=sh82 fu c13 c15 c52 c53 c54 x a; rw [eq82]))
theorem con23 (fu:Nat) :CQ 23 (cF ([.arr TI.tok,.fn 25]:LK) ([.bl TI.tok]:LK) (mF (sh23 fu))):=
 cF_of (zNA (syn:=syn) (fu:=fu) (d:=4) (inl:=zA [(25,fd25),(50,fd50)]) (orc:=zA []) (orr:=zA []) (orp:=zA []) (pf:=hasN []) (rf:=hasN []) zX CCok mixed (fun g=>(zE (α:=Con UU) (l:=[]) g).symm) (fun g=>(zE (α:=CR UU) (l:=[]) g).symm) (zF zLf (zF zLT (zC))) (zC) (zC) (zC) fdok23 (by show (k0:LK).length+(([.arr TI.tok,.fn 25]:LK):LK).length<=42; decide) (fun x a=>by show run23 fu x a=sh23 fu x a; rw [eq23]))
theorem con9 (fu:Nat) (c1000000:zI zf->Option (zI ze)) (h1000000:OrcOk CC Tryd.prog 1000000 ⟨zf,ze,c1000000⟩) (c23:zB ([.arr TI.tok,.fn 25]:LK)->Option (zB ([.bl TI.tok]:LK))) (h23:CQ 23 (cF ([.arr TI.tok,.fn 25]:LK) ([.bl TI.tok]:LK) c23)) (c26:zB kI->EE (zB kN)) (h26:CQ 26 (cE kI kN c26)):ConOk CC Tryd.prog 9 ⟨as9,rs9,fun x=>sh9 fu c1000000 c23 c26 (fun _=>false) x.1⟩:=
 zV (c:=⟨as9,rs9,fun x=>sh9 fu c1000000 c23 c26 (fun _=>false) x.1⟩) (syn:=syn) (fu:=fu) (d:=3) (inl:=zA [(24,fd24)]) (orc:=zA [(1000000,(⟨zf,ze,c1000000⟩:Con UU))]) (orr:=zA []) (orp:=zA [(23,cF ([.arr TI.tok,.fn 25]:LK) ([.bl TI.tok]:LK) c23),(26,cE kI kN c26)]) (pf:=hasN [1000000]) (rf:=hasN []) zX CCok mixed (fun g=>(zE (α:=Con UU) (l:=[(1000000,(⟨zf,ze,c1000000⟩:Con UU))]) g).symm) (fun g=>(zE (α:=CR UU) (l:=[]) g).symm) (zF zMe (zC)) (zF h1000000 (zC)) (zC) (zF ⟨code23,h23⟩ (zF ⟨zLE,h26⟩ (zC))) fdok9 (by show 1<=40; decide) (zQ rfl) (fun nf x=>by show run9 fu c1000000 c23 c26 nf x.1=_; rw [eq9]; rfl)
theorem con18 (fu:Nat) (c9:zI as9->Option (zI rs9)) (h9:ConOk CC Tryd.prog 9 ⟨as9,rs9,c9⟩) (c10:zI as10->Option (zI rs10)) (h10:ConOk CC Tryd.prog 10 ⟨as10,rs10,c10⟩):ConOk CC Tryd.prog 18 ⟨as18,rs18,fun x=>sh18 fu c9 c10 (fun _=>false) x.1⟩:=
 zV (c:=⟨as18,rs18,fun x=>sh18 fu c9 c10 (fun _=>false) x.1⟩) (syn:=syn) (fu:=fu) (d:=2) (inl:=zA []) (orc:=zA [(9,(⟨as9,rs9,c9⟩:Con UU)),(10,(⟨as10,rs10,c10⟩:Con UU))]) (orr:=zA []) (orp:=zA []) (pf:=hasN [9,10]) (rf:=hasN []) zX CCok mixed (fun g=>(zE (α:=Con UU) (l:=[(9,(⟨as9,rs9,c9⟩:Con UU)),(10,(⟨as10,rs10,c10⟩:Con UU))]) g).symm) (fun g=>(zE (α:=CR UU) (l:=[]) g).symm) (zC) (zF (OrcOk.of ⟨code9,h9⟩ rfl) (zF (OrcOk.of ⟨zL9,h10⟩ rfl) (zC))) (zC) (zC) fdok18 (by show 1<=16; decide) (zQ rfl) (fun nf x=>by show run18 fu c9 c10 nf x.1=_; rw [eq18]; rfl)
theorem con10 (fu:Nat) (c27:zI as27->Option (zI rs27)) (h27:ConOk CC Tryd.prog 27 ⟨as27,rs27,c27⟩) (c28:zI as28->Option (zI rs28)) (h28:ConOk CC Tryd.prog 28 ⟨as28,rs28,c28⟩) (c29:zB k0->DD (zB kB)) (h29:CQ 29 (cD k0 kB c29)) (c30:zB k0->DD (zB ([.int .i64,.int .i64]:LK))) (h30:CQ 30 (cD k0 ([.int .i64,.int .i64]:LK) c30)):ConOk CC Tryd.prog 10 ⟨as10,rs10,fun x=>sh10 fu c27 c28 c29 c30 (fun _=>false) x.1 x.2.1⟩:=
 zV (c:=⟨as10,rs10,fun x=>sh10 fu c27 c28 c29 c30 (fun _=>false) x.1 x.2.1⟩) (syn:=syn) (fu:=fu) (d:=2) (inl:=zA []) (orc:=zA [(27,(⟨as27,rs27,c27⟩:Con UU)),(28,(⟨as28,rs28,c28⟩:Con UU))]) (orr:=zA []) (orp:=zA [(29,cD k0 kB c29),(30,cD k0 ([.int .i64,.int .i64]:LK) c30)]) (pf:=hasN [27,28]) (rf:=hasN []) zX CCok mixed (fun g=>(zE (α:=Con UU) (l:=[(27,(⟨as27,rs27,c27⟩:Con UU)),(28,(⟨as28,rs28,c28⟩:Con UU))]) g).symm) (fun g=>(zE (α:=CR UU) (l:=[]) g).symm) (zC) (zF (OrcOk.of ⟨code27,h27⟩ rfl) (zF (OrcOk.of ⟨code28,h28⟩ rfl) (zC))) (zC) (zF ⟨code29,h29⟩ (zF ⟨code30,h30⟩ (zC))) fdok10 (by show 2<=102; decide) (zQ rfl) (fun nf x=>by show run10 fu c27 c28 c29 c30 nf x.1 x.2.1=_; rw [eq10]; rfl)
end
section
open Go.Al Go.Den
def c40 (x:Int×Int×Unit):Option (Int×Int×Unit):=
 if 0<=x.1/\x.1 < 18446744073709551616/\0<=x.2.1/\x.2.1 < 18446744073709551616 then some (((x.1.toNat * x.2.1.toNat / 18446744073709551616:Nat):Int),((x.1.toNat * x.2.1.toNat % 18446744073709551616:Nat):Int),()) else none
theorem ok40:ConOk CC Tryd.prog 40 ⟨as40,rs40,c40⟩:=fun x y hx vs hvs=>by
 obtain ⟨a,b,u⟩:=x
 change Int at a b
 obtain ⟨v,vs',rfl,hv,v2,vs2,rfl,hv2,hvs⟩:=hvs
 replace hvs:vs2=[]:=hvs
 subst hvs
 replace hv:v = .at (.int .u64 a):=hv
 replace hv2:v2 = .at (.int .u64 b):=hv2
 subst hv hv2
 by_cases h:0<=a/\a < 18446744073709551616/\0<=b/\b < 18446744073709551616
 · have hx2:c40 (a,b,u)=some (((a.toNat * b.toNat / 18446744073709551616:Nat):Int),((a.toNat * b.toNat % 18446744073709551616:Nat):Int),()):=if_pos h
   replace hx:c40 (a,b,u)=some y:=hx
   rw [hx2] at hx
   injection hx with hx
   subst hx
   obtain ⟨h1,h2,h3,h4⟩:=h
   have e1:((Int.toNat a:Nat):Int)=a:=Int.toNat_of_nonneg h1
   have e2:((Int.toNat b:Nat):Int)=b:=Int.toNat_of_nonneg h3
   have:=pure40 (Int.toNat a) (Int.toNat b) (by omega) (by omega)
   rw [e1,e2] at this
   exact this
 · have hx2:c40 (a,b,u)=none:=if_neg h
   replace hx:c40 (a,b,u)=some y:=hx
   rw [hx2] at hx
   cases hx
def c83 (x:Str×Unit):Option (List Str×Unit):=
 if x.1.length < 4294967281/\(x.1.all fun b=>decide (b.toNat < 128))=true/\(Lib.fields x.1).isEmpty=false then some (Lib.fields x.1,()) else none
theorem ok83:ConOk CC Tryd.prog 83 ⟨as83,rs83,c83⟩:=fun x y hx vs hvs=>by
 obtain ⟨s,u⟩:=x
 change Str at s
 obtain ⟨v,vs',rfl,hv,hvs⟩:=hvs
 replace hvs:vs' = []:=hvs
 subst hvs
 replace hv:v = .at (.string ⟨List.toArray s⟩):=hv
 subst hv
 by_cases h:s.length < 4294967281/\(s.all fun b=>decide (b.toNat < 128))=true/\(Lib.fields s).isEmpty=false
 · have hx2:c83 (s,u)=some (Lib.fields s,()):=if_pos h
   replace hx:c83 (s,u)=some y:=hx
   rw [hx2] at hx
   injection hx with hx
   subst hx
   have h1:=pure83 s h.1 (fun b hb=>by simpa using List.all_eq_true.1 h.2.1 b hb)
   have h2:zz ((Lib.fields s).map fun s=>V.at (.string ⟨s.toArray⟩)) = .no:=by
    have h3:=h.2.2
    cases hf:Lib.fields s with
    | nil=>rw [hf] at h3; cases h3
    | cons a r=>rfl
   show xc _ 83 _ (.lst (zz ((Lib.fields s).map fun s=>V.at (.string ⟨s.toArray⟩))) ((Lib.fields s).map fun s=>V.at (.string ⟨s.toArray⟩)))
   rw [h2]
   exact h1
 · have hx2:c83 (s,u)=none:=if_neg h
   replace hx:c83 (s,u)=some y:=hx
   rw [hx2] at hx
   cases hx
noncomputable def c39:zI as39->Option (zI rs39):=fun x=>sh39 0 (fun _=>false) x.1
theorem ok39:ConOk CC Tryd.prog 39 ⟨as39,rs39,c39⟩:=con39 0
noncomputable def c41:zI as41->Option (zI rs41):=fun x=>sh41 20 (fun _=>false) x.1
theorem ok41:ConOk CC Tryd.prog 41 ⟨as41,rs41,c41⟩:=con41 20
noncomputable def c13 (fu:Nat):zI as13->Option (zI rs13):=fun x=>sh13 fu c39 c40 c41 (fun _=>false) x.1
theorem ok13 (fu:Nat):ConOk CC Tryd.prog 13 ⟨as13,rs13,c13 fu⟩:=con13 fu c39 ok39 c40 ok40 c41 ok41
noncomputable def c15:zI as15->Option (zI rs15):=fun x=>sh15 0 c44 (fun _=>false) x.1
theorem ok15:ConOk CC Tryd.prog 15 ⟨as15,rs15,c15⟩:=con15 0 c44 ok44
noncomputable def c113:zI jh->Option (zI jI):=fun x=>sh113 0 (fun _=>false) x.1 x.2.1 x.2.2.1
theorem ok113:ConOk CC Tryd.prog 113 ⟨jh,jI,c113⟩:=con113 0
noncomputable def c111:zI jc->Option (zI qq):=fun x=>sh111 0 c113 (fun _=>false) x.1 x.2.1 x.2.2.1
theorem ok111:ConOk CC Tryd.prog 111 ⟨jc,qq,c111⟩:=con111 0 c113 ok113
noncomputable def c74:zI as74->Option (zI rs74):=fun x=>sh74 20 c83 (fun _=>false) x.1
theorem ok74:ConOk CC Tryd.prog 74 ⟨as74,rs74,c74⟩:=con74 20 c83 ok83
noncomputable def cm:Nat->zI zf->Option (zI ze)
 | 0=>fun _=>none
 | n+1=>fun x=>match (show VT from x.1) with
  | .num k=>sh114 0 (fun _=>false) k
  | .un s y=>sh115 0 (cm n) (fun _=>false) ⟨s,y⟩
  | .bin s y z=>sh110 0 c111 (cm n) (fun _=>false) ⟨s,y,z⟩
  | .cho c y z=>sh109 0 (cm n) (fun _=>false) ⟨c,y,z⟩
theorem zMH {m:String} (h:mIx m=1000000):m = "emend/ifexpr.comes":=by
 unfold mIx at h
 cases hd:decide (m = "emend/ifexpr.comes") with
 | true=>exact of_decide_eq_true hd
 | false=>rw [hd] at h; simp at h
theorem zOL:resM Tryd.prog 105 "emend/ifexpr.comes" = some 114:=by kernel_rfl
theorem zOT:resM Tryd.prog 110 "emend/ifexpr.comes" = some 115:=by kernel_rfl
theorem zOM:resM Tryd.prog 104 "emend/ifexpr.comes" = some 110:=by kernel_rfl
theorem resM88:resM Tryd.prog 88 "emend/ifexpr.comes" = some 109:=by kernel_rfl
theorem cmok:∀ n,OrcOk CC Tryd.prog 1000000 ⟨zf,ze,cm n⟩
 | 0=>⟨fun h=>absurd h (by decide),fun m _ x y hx=>by cases hx⟩
 | n+1=>⟨fun h=>absurd h (by decide),fun m hm x y hx v vs hvs=>by
  have ih:=cmok n
  rw [zMH hm]
  obtain ⟨t,u⟩:=x
  obtain ⟨v',vs',hv0,hv,hvs⟩:=hvs
  injection hv0 with e1 e2
  subst e1 e2
  replace hvs:vs=[]:=hvs
  subst hvs
  replace hv:v = .at (VT.enc t):=hv
  subst hv
  replace hx:(match (show VT from t) with
   | .num k=>sh114 0 (fun _=>false) k
   | .un s y=>sh115 0 (cm n) (fun _=>false) ⟨s,y⟩
   | .bin s y z=>sh110 0 c111 (cm n) (fun _=>false) ⟨s,y,z⟩
   | .cho c y z=>sh109 0 (cm n) (fun _=>false) ⟨c,y,z⟩)=some y:=hx
  revert hx
  cases (show VT from t) with
  | num k=>exact fun hx=>⟨105,.int .i64 k,114,rfl,zOL,zNk,rfl,con114 0 (k,()) y hx _ ⟨_,_,rfl,rfl,rfl⟩⟩
  | un s z=>exact fun hx=>⟨110,_,115,rfl,zOT,zNu,(by cases z <;> rfl),con115 0 (cm n) ih ((⟨s,z⟩:UnT),()) y hx _ ⟨_,_,rfl,(by cases z <;> rfl),rfl⟩⟩
  | bin s z1 z2=>exact fun hx=>⟨104,_,110,rfl,zOM,zOI,(by cases z1 <;> cases z2 <;> rfl),con110 0 c111 ok111 (cm n) ih ((⟨s,z1,z2⟩:BinT),()) y hx _ ⟨_,_,rfl,(by cases z1 <;> cases z2 <;> rfl),rfl⟩⟩
  | cho c z1 z2=>exact fun hx=>⟨88,_,109,rfl,resM88,zNh,(by cases c <;> cases z1 <;> cases z2 <;> rfl),con109 0 (cm n) ih ((⟨c,z1,z2⟩:ChoT),()) y hx _ ⟨_,_,rfl,(by cases c <;> cases z1 <;> cases z2 <;> rfl),rfl⟩⟩⟩
end
section
open Go.Al Go.Den
def sh29 (fu:Nat) (c44:(Str×(Int×Unit))->(Option (Int×Unit))) (c58:(Str×(Str×Unit))->(Option (Int×Unit))) (c56:(Int×Unit)->Str->Int->(Option (Int×Unit))) (c57:(Str×Unit)->Str->Int->(Option ((Bool×Unit)×Int))) (x:((Str×(Int×Unit))×Unit)) (a:Unit):(Option (Option (((Str×(Int×Unit))×Unit)×(Bool×Unit)))):=zAb (fun (join0:(Unit×((Str×(Int×Unit))×Unit))->Option (Option (((Str×(Int×Unit))×Unit)×(Bool×Unit))))=>Option.bind (c56 (0,()) x.1.1 x.1.2.1) fun y0=>zAb (fun (join1:((Bool×Unit)×((Str×(Int×Unit))×Unit))->Option (Option (((Str×(Int×Unit))×Unit)×(Bool×Unit))))=>cond (ieq y0.1 32) (join1 ((true,()),((x.1.1,(x.1.2.1,())),()))) (cond (ieq y0.1 9) (join1 ((true,()),((x.1.1,(x.1.2.1,())),()))) (cond (ieq y0.1 11) (join1 ((true,()),((x.1.1,(x.1.2.1,())),()))) (cond (ieq y0.1 12) (join1 ((true,()),((x.1.1,(x.1.2.1,())),()))) (join1 (((ieq y0.1 13),()),((x.1.1,(x.1.2.1,())),()))))))) (fun (t0:((Bool×Unit)×((Str×(Int×Unit))×Unit)))=>cond t0.1.1 (some (some (((t0.2.1.1,((iadd .i64 t0.2.1.2.1 1),())),()),(true,())))) (join0 ((),((t0.2.1.1,(t0.2.1.2.1,())),()))))) (fun (t0:(Unit×((Str×(Int×Unit))×Unit)))=>Option.bind (c57 ([47,47],()) t0.2.1.1 t0.2.1.2.1) fun y0=>cond y0.1.1 (cond (inS y0.2 (lenI t0.2.1.1) (List.length t0.2.1.1)) (Option.bind (c44 ((cutL t0.2.1.1 y0.2 (lenI t0.2.1.1)),(10,()))) fun y1=>zAb (fun (join0:((Int×Unit)×((Str×(Int×Unit))×Unit))->Option (Option (((Str×(Int×Unit))×Unit)×(Bool×Unit))))=>cond (ilt y1.1 0) (join0 (((isub .i64 (lenI t0.2.1.1) y0.2),()),((t0.2.1.1,(y0.2,())),()))) (join0 ((y1.1,()),((t0.2.1.1,(y0.2,())),())))) (fun (t1:((Int×Unit)×((Str×(Int×Unit))×Unit)))=>some (some (((t1.2.1.1,((iadd .i64 t1.2.1.2.1 t1.1.1),())),()),(true,()))))) (none)) (Option.bind (c57 ([47,42],()) t0.2.1.1 y0.2) fun y1=>cond (!y1.1.1) (some (some (((t0.2.1.1,(y1.2,())),()),(false,())))) (cond (inS (iadd .i64 y1.2 2) (lenI t0.2.1.1) (List.length t0.2.1.1)) (Option.bind (c58 ((cutL t0.2.1.1 (iadd .i64 y1.2 2) (lenI t0.2.1.1)),([42,47],()))) fun y2=>cond (ilt y2.1 0) (some (some (((t0.2.1.1,(y1.2,())),()),(false,())))) (some (some (((t0.2.1.1,((iadd .i64 y1.2 (iadd .i64 y2.1 4)),())),()),(true,()))))) (none))))
theorem eq29:@run29 = @sh29:=by kernel_rfl
def sh57 (fu:Nat) (x:((Str×(Int×Unit))×Unit)) (a:(Str×Unit)):(Option (Option (((Str×(Int×Unit))×Unit)×(Bool×Unit)))):=cond (inS x.1.2.1 (lenI x.1.1) (List.length x.1.1)) (cond (ile (lenI a.1) (lenI (cutL x.1.1 x.1.2.1 (lenI x.1.1)))) (cond (inS 0 (lenI a.1) (List.length (cutL x.1.1 x.1.2.1 (lenI x.1.1)))) (some (some (((x.1.1,(x.1.2.1,())),()),((seq (cutL (cutL x.1.1 x.1.2.1 (lenI x.1.1)) 0 (lenI a.1)) a.1),())))) (none)) (some (some (((x.1.1,(x.1.2.1,())),()),(false,()))))) (none)
theorem eq57:@run57 = @sh57:=by kernel_rfl
def sh30 (fu:Nat) (c57:(Str×Unit)->Str->Int->(Option ((Bool×Unit)×Int))) (c59:Unit->Str->Int->(Option ((Int×Unit)×Int))) (c60:Unit->Str->Int->(Option ((Int×Unit)×Int))) (c61:(Int×Unit)->Str->Int->(Option ((Int×Unit)×Int))) (c62:Unit->Str->Int->(Option ((Int×Unit)×Int))) (x:((Str×(Int×Unit))×Unit)) (a:Unit):(Option (Option (((Str×(Int×Unit))×Unit)×(Int×(Int×Unit))))):=Option.bind (c57 ([10],()) x.1.1 x.1.2.1) fun y0=>cond y0.1.1 (some (some (((x.1.1,(y0.2,())),()),(7,(1,()))))) (Option.bind (c59 () x.1.1 y0.2) fun y1=>cond (ilt 0 y1.1.1) (some (some (((x.1.1,(y1.2,())),()),(1,(y1.1.1,()))))) (Option.bind (c60 () x.1.1 y1.2) fun y2=>cond (ilt 0 y2.1.1) (some (some (((x.1.1,(y2.2,())),()),(2,(y2.1.1,()))))) (Option.bind (c61 (34,()) x.1.1 y2.2) fun y3=>cond (ilt 0 y3.1.1) (some (some (((x.1.1,(y3.2,())),()),(4,(y3.1.1,()))))) (Option.bind (c61 (39,()) x.1.1 y3.2) fun y4=>cond (ilt 0 y4.1.1) (some (some (((x.1.1,(y4.2,())),()),(3,(y4.1.1,()))))) (Option.bind (c62 () x.1.1 y4.2) fun y5=>cond (ilt 0 y5.1.1) (some (some (((x.1.1,(y5.2,())),()),(5,(y5.1.1,()))))) (some (some (((x.1.1,(y5.2,())),()),(6,(1,()))))))))))
theorem eq30:@run30 = @sh30:=by kernel_rfl
def sh59 (fu:Nat) (c56:(Int×Unit)->Str->Int->(Option (Int×Unit))) (x:((Str×(Int×Unit))×Unit)) (a:Unit):(Option (Option (((Str×(Int×Unit))×Unit)×(Int×Unit)))):=iter fu (fun (rec1:((Int×Unit)×((Str×(Int×Unit))×Unit))->Option (Option (((Str×(Int×Unit))×Unit)×(Int×Unit)))) (s1:((Int×Unit)×((Str×(Int×Unit))×Unit)))=>Option.bind (c56 (s1.1.1,()) s1.2.1.1 s1.2.1.2.1) fun y0=>cond (ieq y0.1 95) (rec1 (((iadd .i64 s1.1.1 1),()),((s1.2.1.1,(s1.2.1.2.1,())),()))) (cond (ile 97 y0.1) (cond (ile y0.1 122) (rec1 (((iadd .i64 s1.1.1 1),()),((s1.2.1.1,(s1.2.1.2.1,())),()))) (cond (ile 65 y0.1) (cond (ile y0.1 90) (rec1 (((iadd .i64 s1.1.1 1),()),((s1.2.1.1,(s1.2.1.2.1,())),()))) (cond (ilt 0 s1.1.1) (Option.bind (c56 (s1.1.1,()) s1.2.1.1 s1.2.1.2.1) fun y1=>cond (ile 48 y1.1) (cond (ile y1.1 57) (rec1 (((iadd .i64 s1.1.1 1),()),((s1.2.1.1,(s1.2.1.2.1,())),()))) (some (some (((s1.2.1.1,(s1.2.1.2.1,())),()),(s1.1.1,()))))) (some (some (((s1.2.1.1,(s1.2.1.2.1,())),()),(s1.1.1,()))))) (some (some (((s1.2.1.1,(s1.2.1.2.1,())),()),(s1.1.1,())))))) (cond (ilt 0 s1.1.1) (Option.bind (c56 (s1.1.1,()) s1.2.1.1 s1.2.1.2.1) fun y1=>cond (ile 48 y1.1) (cond (ile y1.1 57) (rec1 (((iadd .i64 s1.1.1 1),()),((s1.2.1.1,(s1.2.1.2.1,())),()))) (some (some (((s1.2.1.1,(s1.2.1.2.1,())),()),(s1.1.1,()))))) (some (some (((s1.2.1.1,(s1.2.1.2.1,())),()),(s1.1.1,()))))) (some (some (((s1.2.1.1,(s1.2.1.2.1,())),()),(s1.1.1,()))))))) (cond (ile 65 y0.1) (cond (ile y0.1 90) (rec1 (((iadd .i64 s1.1.1 1),()),((s1.2.1.1,(s1.2.1.2.1,())),()))) (cond (ilt 0 s1.1.1) (Option.bind (c56 (s1.1.1,()) s1.2.1.1 s1.2.1.2.1) fun y1=>cond (ile 48 y1.1) (cond (ile y1.1 57) (rec1 (((iadd .i64 s1.1.1 1),()),((s1.2.1.1,(s1.2.1.2.1,())),()))) (some (some (((s1.2.1.1,(s1.2.1.2.1,())),()),(s1.1.1,()))))) (some (some (((s1.2.1.1,(s1.2.1.2.1,())),()),(s1.1.1,()))))) (some (some (((s1.2.1.1,(s1.2.1.2.1,())),()),(s1.1.1,())))))) (cond (ilt 0 s1.1.1) (Option.bind (c56 (s1.1.1,()) s1.2.1.1 s1.2.1.2.1) fun y1=>cond (ile 48 y1.1) (cond (ile y1.1 57) (rec1 (((iadd .i64 s1.1.1 1),()),((s1.2.1.1,(s1.2.1.2.1,())),()))) (some (some (((s1.2.1.1,(s1.2.1.2.1,())),()),(s1.1.1,()))))) (some (some (((s1.2.1.1,(s1.2.1.2.1,())),()),(s1.1.1,()))))) (some (some (((s1.2.1.1,(s1.2.1.2.1,())),()),(s1.1.1,())))))))) ((0,()),((x.1.1,(x.1.2.1,())),()))
theorem eq59:@run59 = @sh59:=by kernel_rfl
def sh60 (fu:Nat) (c44:(Str×(Int×Unit))->(Option (Int×Unit))) (c56:(Int×Unit)->Str->Int->(Option (Int×Unit))) (x:((Str×(Int×Unit))×Unit)) (a:Unit):(Option (Option (((Str×(Int×Unit))×Unit)×(Int×Unit)))):=Option.bind (c56 (0,()) x.1.1 x.1.2.1) fun y0=>cond (ile 48 y0.1) (cond (!(ile y0.1 57)) (Option.bind (c56 (0,()) x.1.1 x.1.2.1) fun y1=>cond (ine y1.1 46) (some (some (((x.1.1,(x.1.2.1,())),()),(0,())))) (Option.bind (c56 (1,()) x.1.1 x.1.2.1) fun y2=>cond (ile 48 y2.1) (cond (!(ile y2.1 57)) (some (some (((x.1.1,(x.1.2.1,())),()),(0,())))) (iter fu (fun (rec1:((Int×Unit)×((Str×(Int×Unit))×Unit))->Option (Option (((Str×(Int×Unit))×Unit)×(Int×Unit)))) (s1:((Int×Unit)×((Str×(Int×Unit))×Unit)))=>Option.bind (c56 (s1.1.1,()) s1.2.1.1 s1.2.1.2.1) fun y3=>Option.bind (c56 ((iadd .i64 s1.1.1 1),()) s1.2.1.1 s1.2.1.2.1) fun y4=>Option.bind (c44 ([101,69,112,80],(y3.1,()))) fun y5=>cond (ile 0 y5.1) (cond (ieq y4.1 43) (rec1 (((iadd .i64 s1.1.1 2),()),((s1.2.1.1,(s1.2.1.2.1,())),()))) (cond (ieq y4.1 45) (rec1 (((iadd .i64 s1.1.1 2),()),((s1.2.1.1,(s1.2.1.2.1,())),()))) (cond (ieq y3.1 95) (rec1 (((iadd .i64 s1.1.1 1),()),((s1.2.1.1,(s1.2.1.2.1,())),()))) (cond (ile 97 y3.1) (cond (ile y3.1 122) (rec1 (((iadd .i64 s1.1.1 1),()),((s1.2.1.1,(s1.2.1.2.1,())),()))) (cond (ile 65 y3.1) (cond (ile y3.1 90) (rec1 (((iadd .i64 s1.1.1 1),()),((s1.2.1.1,(s1.2.1.2.1,())),()))) (cond (ile 48 y3.1) (cond (ile y3.1 57) (rec1 (((iadd .i64 s1.1.1 1),()),((s1.2.1.1,(s1.2.1.2.1,())),()))) (cond (ieq y3.1 46) (rec1 (((iadd .i64 s1.1.1 1),()),((s1.2.1.1,(s1.2.1.2.1,())),()))) (some (some (((s1.2.1.1,(s1.2.1.2.1,())),()),(s1.1.1,())))))) (cond (ieq y3.1 46) (rec1 (((iadd .i64 s1.1.1 1),()),((s1.2.1.1,(s1.2.1.2.1,())),()))) (some (some (((s1.2.1.1,(s1.2.1.2.1,())),()),(s1.1.1,()))))))) (cond (ile 48 y3.1) (cond (ile y3.1 57) (rec1 (((iadd .i64 s1.1.1 1),()),((s1.2.1.1,(s1.2.1.2.1,())),()))) (cond (ieq y3.1 46) (rec1 (((iadd .i64 s1.1.1 1),()),((s1.2.1.1,(s1.2.1.2.1,())),()))) (some (some (((s1.2.1.1,(s1.2.1.2.1,())),()),(s1.1.1,())))))) (cond (ieq y3.1 46) (rec1 (((iadd .i64 s1.1.1 1),()),((s1.2.1.1,(s1.2.1.2.1,())),()))) (some (some (((s1.2.1.1,(s1.2.1.2.1,())),()),(s1.1.1,())))))))) (cond (ile 65 y3.1) (cond (ile y3.1 90) (rec1 (((iadd .i64 s1.1.1 1),()),((s1.2.1.1,(s1.2.1.2.1,())),()))) (cond (ile 48 y3.1) (cond (ile y3.1 57) (rec1 (((iadd .i64 s1.1.1 1),()),((s1.2.1.1,(s1.2.1.2.1,())),()))) (cond (ieq y3.1 46) (rec1 (((iadd .i64 s1.1.1 1),()),((s1.2.1.1,(s1.2.1.2.1,())),()))) (some (some (((s1.2.1.1,(s1.2.1.2.1,())),()),(s1.1.1,())))))) (cond (ieq y3.1 46) (rec1 (((iadd .i64 s1.1.1 1),()),((s1.2.1.1,(s1.2.1.2.1,())),()))) (some (some (((s1.2.1.1,(s1.2.1.2.1,())),()),(s1.1.1,()))))))) (cond (ile 48 y3.1) (cond (ile y3.1 57) (rec1 (((iadd .i64 s1.1.1 1),()),((s1.2.1.1,(s1.2.1.2.1,())),()))) (cond (ieq y3.1 46) (rec1 (((iadd .i64 s1.1.1 1),()),((s1.2.1.1,(s1.2.1.2.1,())),()))) (some (some (((s1.2.1.1,(s1.2.1.2.1,())),()),(s1.1.1,())))))) (cond (ieq y3.1 46) (rec1 (((iadd .i64 s1.1.1 1),()),((s1.2.1.1,(s1.2.1.2.1,())),()))) (some (some (((s1.2.1.1,(s1.2.1.2.1,())),()),(s1.1.1,()))))))))))) (cond (ieq y3.1 95) (rec1 (((iadd .i64 s1.1.1 1),()),((s1.2.1.1,(s1.2.1.2.1,())),()))) (cond (ile 97 y3.1) (cond (ile y3.1 122) (rec1 (((iadd .i64 s1.1.1 1),()),((s1.2.1.1,(s1.2.1.2.1,())),()))) (cond (ile 65 y3.1) (cond (ile y3.1 90) (rec1 (((iadd .i64 s1.1.1 1),()),((s1.2.1.1,(s1.2.1.2.1,())),()))) (cond (ile 48 y3.1) (cond (ile y3.1 57) (rec1 (((iadd .i64 s1.1.1 1),()),((s1.2.1.1,(s1.2.1.2.1,())),()))) (cond (ieq y3.1 46) (rec1 (((iadd .i64 s1.1.1 1),()),((s1.2.1.1,(s1.2.1.2.1,())),()))) (some (some (((s1.2.1.1,(s1.2.1.2.1,())),()),(s1.1.1,())))))) (cond (ieq y3.1 46) (rec1 (((iadd .i64 s1.1.1 1),()),((s1.2.1.1,(s1.2.1.2.1,())),()))) (some (some (((s1.2.1.1,(s1.2.1.2.1,())),()),(s1.1.1,()))))))) (cond (ile 48 y3.1) (cond (ile y3.1 57) (rec1 (((iadd .i64 s1.1.1 1),()),((s1.2.1.1,(s1.2.1.2.1,())),()))) (cond (ieq y3.1 46) (rec1 (((iadd .i64 s1.1.1 1),()),((s1.2.1.1,(s1.2.1.2.1,())),()))) (some (some (((s1.2.1.1,(s1.2.1.2.1,())),()),(s1.1.1,())))))) (cond (ieq y3.1 46) (rec1 (((iadd .i64 s1.1.1 1),()),((s1.2.1.1,(s1.2.1.2.1,())),()))) (some (some (((s1.2.1.1,(s1.2.1.2.1,())),()),(s1.1.1,())))))))) (cond (ile 65 y3.1) (cond (ile y3.1 90) (rec1 (((iadd .i64 s1.1.1 1),()),((s1.2.1.1,(s1.2.1.2.1,())),()))) (cond (ile 48 y3.1) (cond (ile y3.1 57) (rec1 (((iadd .i64 s1.1.1 1),()),((s1.2.1.1,(s1.2.1.2.1,())),()))) (cond (ieq y3.1 46) (rec1 (((iadd .i64 s1.1.1 1),()),((s1.2.1.1,(s1.2.1.2.1,())),()))) (some (some (((s1.2.1.1,(s1.2.1.2.1,())),()),(s1.1.1,())))))) (cond (ieq y3.1 46) (rec1 (((iadd .i64 s1.1.1 1),()),((s1.2.1.1,(s1.2.1.2.1,())),()))) (some (some (((s1.2.1.1,(s1.2.1.2.1,())),()),(s1.1.1,()))))))) (cond (ile 48 y3.1) (cond (ile y3.1 57) (rec1 (((iadd .i64 s1.1.1 1),()),((s1.2.1.1,(s1.2.1.2.1,())),()))) (cond (ieq y3.1 46) (rec1 (((iadd .i64 s1.1.1 1),()),((s1.2.1.1,(s1.2.1.2.1,())),()))) (some (some (((s1.2.1.1,(s1.2.1.2.1,())),()),(s1.1.1,())))))) (cond (ieq y3.1 46) (rec1 (((iadd .i64 s1.1.1 1),()),((s1.2.1.1,(s1.2.1.2.1,())),()))) (some (some (((s1.2.1.1,(s1.2.1.2.1,())),()),(s1.1.1,())))))))))) ((1,()),((x.1.1,(x.1.2.1,())),())))) (some (some (((x.1.1,(x.1.2.1,())),()),(0,())))))) (iter fu (fun (rec1:((Int×Unit)×((Str×(Int×Unit))×Unit))->Option (Option (((Str×(Int×Unit))×Unit)×(Int×Unit)))) (s1:((Int×Unit)×((Str×(Int×Unit))×Unit)))=>Option.bind (c56 (s1.1.1,()) s1.2.1.1 s1.2.1.2.1) fun y1=>Option.bind (c56 ((iadd .i64 s1.1.1 1),()) s1.2.1.1 s1.2.1.2.1) fun y2=>Option.bind (c44 ([101,69,112,80],(y1.1,()))) fun y3=>cond (ile 0 y3.1) (cond (ieq y2.1 43) (rec1 (((iadd .i64 s1.1.1 2),()),((s1.2.1.1,(s1.2.1.2.1,())),()))) (cond (ieq y2.1 45) (rec1 (((iadd .i64 s1.1.1 2),()),((s1.2.1.1,(s1.2.1.2.1,())),()))) (cond (ieq y1.1 95) (rec1 (((iadd .i64 s1.1.1 1),()),((s1.2.1.1,(s1.2.1.2.1,())),()))) (cond (ile 97 y1.1) (cond (ile y1.1 122) (rec1 (((iadd .i64 s1.1.1 1),()),((s1.2.1.1,(s1.2.1.2.1,())),()))) (cond (ile 65 y1.1) (cond (ile y1.1 90) (rec1 (((iadd .i64 s1.1.1 1),()),((s1.2.1.1,(s1.2.1.2.1,())),()))) (cond (ile 48 y1.1) (cond (ile y1.1 57) (rec1 (((iadd .i64 s1.1.1 1),()),((s1.2.1.1,(s1.2.1.2.1,())),()))) (cond (ieq y1.1 46) (rec1 (((iadd .i64 s1.1.1 1),()),((s1.2.1.1,(s1.2.1.2.1,())),()))) (some (some (((s1.2.1.1,(s1.2.1.2.1,())),()),(s1.1.1,())))))) (cond (ieq y1.1 46) (rec1 (((iadd .i64 s1.1.1 1),()),((s1.2.1.1,(s1.2.1.2.1,())),()))) (some (some (((s1.2.1.1,(s1.2.1.2.1,())),()),(s1.1.1,()))))))) (cond (ile 48 y1.1) (cond (ile y1.1 57) (rec1 (((iadd .i64 s1.1.1 1),()),((s1.2.1.1,(s1.2.1.2.1,())),()))) (cond (ieq y1.1 46) (rec1 (((iadd .i64 s1.1.1 1),()),((s1.2.1.1,(s1.2.1.2.1,())),()))) (some (some (((s1.2.1.1,(s1.2.1.2.1,())),()),(s1.1.1,())))))) (cond (ieq y1.1 46) (rec1 (((iadd .i64 s1.1.1 1),()),((s1.2.1.1,(s1.2.1.2.1,())),()))) (some (some (((s1.2.1.1,(s1.2.1.2.1,())),()),(s1.1.1,())))))))) (cond (ile 65 y1.1) (cond (ile y1.1 90) (rec1 (((iadd .i64 s1.1.1 1),()),((s1.2.1.1,(s1.2.1.2.1,())),()))) (cond (ile 48 y1.1) (cond (ile y1.1 57) (rec1 (((iadd .i64 s1.1.1 1),()),((s1.2.1.1,(s1.2.1.2.1,())),()))) (cond (ieq y1.1 46) (rec1 (((iadd .i64 s1.1.1 1),()),((s1.2.1.1,(s1.2.1.2.1,())),()))) (some (some (((s1.2.1.1,(s1.2.1.2.1,())),()),(s1.1.1,())))))) (cond (ieq y1.1 46) (rec1 (((iadd .i64 s1.1.1 1),()),((s1.2.1.1,(s1.2.1.2.1,())),()))) (some (some (((s1.2.1.1,(s1.2.1.2.1,())),()),(s1.1.1,()))))))) (cond (ile 48 y1.1) (cond (ile y1.1 57) (rec1 (((iadd .i64 s1.1.1 1),()),((s1.2.1.1,(s1.2.1.2.1,())),()))) (cond (ieq y1.1 46) (rec1 (((iadd .i64 s1.1.1 1),()),((s1.2.1.1,(s1.2.1.2.1,())),()))) (some (some (((s1.2.1.1,(s1.2.1.2.1,())),()),(s1.1.1,())))))) (cond (ieq y1.1 46) (rec1 (((iadd .i64 s1.1.1 1),()),((s1.2.1.1,(s1.2.1.2.1,())),()))) (some (some (((s1.2.1.1,(s1.2.1.2.1,())),()),(s1.1.1,()))))))))))) (cond (ieq y1.1 95) (rec1 (((iadd .i64 s1.1.1 1),()),((s1.2.1.1,(s1.2.1.2.1,())),()))) (cond (ile 97 y1.1) (cond (ile y1.1 122) (rec1 (((iadd .i64 s1.1.1 1),()),((s1.2.1.1,(s1.2.1.2.1,())),()))) (cond (ile 65 y1.1) (cond (ile y1.1 90) (rec1 (((iadd .i64 s1.1.1 1),()),((s1.2.1.1,(s1.2.1.2.1,())),()))) (cond (ile 48 y1.1) (cond (ile y1.1 57) (rec1 (((iadd .i64 s1.1.1 1),()),((s1.2.1.1,(s1.2.1.2.1,())),()))) (cond (ieq y1.1 46) (rec1 (((iadd .i64 s1.1.1 1),()),((s1.2.1.1,(s1.2.1.2.1,())),()))) (some (some (((s1.2.1.1,(s1.2.1.2.1,())),()),(s1.1.1,())))))) (cond (ieq y1.1 46) (rec1 (((iadd .i64 s1.1.1 1),()),((s1.2.1.1,(s1.2.1.2.1,())),()))) (some (some (((s1.2.1.1,(s1.2.1.2.1,())),()),(s1.1.1,()))))))) (cond (ile 48 y1.1) (cond (ile y1.1 57) (rec1 (((iadd .i64 s1.1.1 1),()),((s1.2.1.1,(s1.2.1.2.1,())),()))) (cond (ieq y1.1 46) (rec1 (((iadd .i64 s1.1.1 1),()),((s1.2.1.1,(s1.2.1.2.1,())),()))) (some (some (((s1.2.1.1,(s1.2.1.2.1,())),()),(s1.1.1,())))))) (cond (ieq y1.1 46) (rec1 (((iadd .i64 s1.1.1 1),()),((s1.2.1.1,(s1.2.1.2.1,())),()))) (some (some (((s1.2.1.1,(s1.2.1.2.1,())),()),(s1.1.1,())))))))) (cond (ile 65 y1.1) (cond (ile y1.1 90) (rec1 (((iadd .i64 s1.1.1 1),()),((s1.2.1.1,(s1.2.1.2.1,())),()))) (cond (ile 48 y1.1) (cond (ile y1.1 57) (rec1 (((iadd .i64 s1.1.1 1),()),((s1.2.1.1,(s1.2.1.2.1,())),()))) (cond (ieq y1.1 46) (rec1 (((iadd .i64 s1.1.1 1),()),((s1.2.1.1,(s1.2.1.2.1,())),()))) (some (some (((s1.2.1.1,(s1.2.1.2.1,())),()),(s1.1.1,())))))) (cond (ieq y1.1 46) (rec1 (((iadd .i64 s1.1.1 1),()),((s1.2.1.1,(s1.2.1.2.1,())),()))) (some (some (((s1.2.1.1,(s1.2.1.2.1,())),()),(s1.1.1,()))))))) (cond (ile 48 y1.1) (cond (ile y1.1 57) (rec1 (((iadd .i64 s1.1.1 1),()),((s1.2.1.1,(s1.2.1.2.1,())),()))) (cond (ieq y1.1 46) (rec1 (((iadd .i64 s1.1.1 1),()),((s1.2.1.1,(s1.2.1.2.1,())),()))) (some (some (((s1.2.1.1,(s1.2.1.2.1,())),()),(s1.1.1,())))))) (cond (ieq y1.1 46) (rec1 (((iadd .i64 s1.1.1 1),()),((s1.2.1.1,(s1.2.1.2.1,())),()))) (some (some (((s1.2.1.1,(s1.2.1.2.1,())),()),(s1.1.1,())))))))))) ((1,()),((x.1.1,(x.1.2.1,())),())))) (Option.bind (c56 (0,()) x.1.1 x.1.2.1) fun y1=>cond (ine y1.1 46) (some (some (((x.1.1,(x.1.2.1,())),()),(0,())))) (Option.bind (c56 (1,()) x.1.1 x.1.2.1) fun y2=>cond (ile 48 y2.1) (cond (!(ile y2.1 57)) (some (some (((x.1.1,(x.1.2.1,())),()),(0,())))) (iter fu (fun (rec1:((Int×Unit)×((Str×(Int×Unit))×Unit))->Option (Option (((Str×(Int×Unit))×Unit)×(Int×Unit)))) (s1:((Int×Unit)×((Str×(Int×Unit))×Unit)))=>Option.bind (c56 (s1.1.1,()) s1.2.1.1 s1.2.1.2.1) fun y3=>Option.bind (c56 ((iadd .i64 s1.1.1 1),()) s1.2.1.1 s1.2.1.2.1) fun y4=>Option.bind (c44 ([101,69,112,80],(y3.1,()))) fun y5=>cond (ile 0 y5.1) (cond (ieq y4.1 43) (rec1 (((iadd .i64 s1.1.1 2),()),((s1.2.1.1,(s1.2.1.2.1,())),()))) (cond (ieq y4.1 45) (rec1 (((iadd .i64 s1.1.1 2),()),((s1.2.1.1,(s1.2.1.2.1,())),()))) (cond (ieq y3.1 95) (rec1 (((iadd .i64 s1.1.1 1),()),((s1.2.1.1,(s1.2.1.2.1,())),()))) (cond (ile 97 y3.1) (cond (ile y3.1 122) (rec1 (((iadd .i64 s1.1.1 1),()),((s1.2.1.1,(s1.2.1.2.1,())),()))) (cond (ile 65 y3.1) (cond (ile y3.1 90) (rec1 (((iadd .i64 s1.1.1 1),()),((s1.2.1.1,(s1.2.1.2.1,())),()))) (cond (ile 48 y3.1) (cond (ile y3.1 57) (rec1 (((iadd .i64 s1.1.1 1),()),((s1.2.1.1,(s1.2.1.2.1,())),()))) (cond (ieq y3.1 46) (rec1 (((iadd .i64 s1.1.1 1),()),((s1.2.1.1,(s1.2.1.2.1,())),()))) (some (some (((s1.2.1.1,(s1.2.1.2.1,())),()),(s1.1.1,())))))) (cond (ieq y3.1 46) (rec1 (((iadd .i64 s1.1.1 1),()),((s1.2.1.1,(s1.2.1.2.1,())),()))) (some (some (((s1.2.1.1,(s1.2.1.2.1,())),()),(s1.1.1,()))))))) (cond (ile 48 y3.1) (cond (ile y3.1 57) (rec1 (((iadd .i64 s1.1.1 1),()),((s1.2.1.1,(s1.2.1.2.1,())),()))) (cond (ieq y3.1 46) (rec1 (((iadd .i64 s1.1.1 1),()),((s1.2.1.1,(s1.2.1.2.1,())),()))) (some (some (((s1.2.1.1,(s1.2.1.2.1,())),()),(s1.1.1,())))))) (cond (ieq y3.1 46) (rec1 (((iadd .i64 s1.1.1 1),()),((s1.2.1.1,(s1.2.1.2.1,())),()))) (some (some (((s1.2.1.1,(s1.2.1.2.1,())),()),(s1.1.1,())))))))) (cond (ile 65 y3.1) (cond (ile y3.1 90) (rec1 (((iadd .i64 s1.1.1 1),()),((s1.2.1.1,(s1.2.1.2.1,())),()))) (cond (ile 48 y3.1) (cond (ile y3.1 57) (rec1 (((iadd .i64 s1.1.1 1),()),((s1.2.1.1,(s1.2.1.2.1,())),()))) (cond (ieq y3.1 46) (rec1 (((iadd .i64 s1.1.1 1),()),((s1.2.1.1,(s1.2.1.2.1,())),()))) (some (some (((s1.2.1.1,(s1.2.1.2.1,())),()),(s1.1.1,())))))) (cond (ieq y3.1 46) (rec1 (((iadd .i64 s1.1.1 1),()),((s1.2.1.1,(s1.2.1.2.1,())),()))) (some (some (((s1.2.1.1,(s1.2.1.2.1,())),()),(s1.1.1,()))))))) (cond (ile 48 y3.1) (cond (ile y3.1 57) (rec1 (((iadd .i64 s1.1.1 1),()),((s1.2.1.1,(s1.2.1.2.1,())),()))) (cond (ieq y3.1 46) (rec1 (((iadd .i64 s1.1.1 1),()),((s1.2.1.1,(s1.2.1.2.1,())),()))) (some (some (((s1.2.1.1,(s1.2.1.2.1,())),()),(s1.1.1,())))))) (cond (ieq y3.1 46) (rec1 (((iadd .i64 s1.1.1 1),()),((s1.2.1.1,(s1.2.1.2.1,())),()))) (some (some (((s1.2.1.1,(s1.2.1.2.1,())),()),(s1.1.1,()))))))))))) (cond (ieq y3.1 95) (rec1 (((iadd .i64 s1.1.1 1),()),((s1.2.1.1,(s1.2.1.2.1,())),()))) (cond (ile 97 y3.1) (cond (ile y3.1 122) (rec1 (((iadd .i64 s1.1.1 1),()),((s1.2.1.1,(s1.2.1.2.1,())),()))) (cond (ile 65 y3.1) (cond (ile y3.1 90) (rec1 (((iadd .i64 s1.1.1 1),()),((s1.2.1.1,(s1.2.1.2.1,())),()))) (cond (ile 48 y3.1) (cond (ile y3.1 57) (rec1 (((iadd .i64 s1.1.1 1),()),((s1.2.1.1,(s1.2.1.2.1,())),()))) (cond (ieq y3.1 46) (rec1 (((iadd .i64 s1.1.1 1),()),((s1.2.1.1,(s1.2.1.2.1,())),()))) (some (some (((s1.2.1.1,(s1.2.1.2.1,())),()),(s1.1.1,())))))) (cond (ieq y3.1 46) (rec1 (((iadd .i64 s1.1.1 1),()),((s1.2.1.1,(s1.2.1.2.1,())),()))) (some (some (((s1.2.1.1,(s1.2.1.2.1,())),()),(s1.1.1,()))))))) (cond (ile 48 y3.1) (cond (ile y3.1 57) (rec1 (((iadd .i64 s1.1.1 1),()),((s1.2.1.1,(s1.2.1.2.1,())),()))) (cond (ieq y3.1 46) (rec1 (((iadd .i64 s1.1.1 1),()),((s1.2.1.1,(s1.2.1.2.1,())),()))) (some (some (((s1.2.1.1,(s1.2.1.2.1,())),()),(s1.1.1,())))))) (cond (ieq y3.1 46) (rec1 (((iadd .i64 s1.1.1 1),()),((s1.2.1.1,(s1.2.1.2.1,())),()))) (some (some (((s1.2.1.1,(s1.2.1.2.1,())),()),(s1.1.1,())))))))) (cond (ile 65 y3.1) (cond (ile y3.1 90) (rec1 (((iadd .i64 s1.1.1 1),()),((s1.2.1.1,(s1.2.1.2.1,())),()))) (cond (ile 48 y3.1) (cond (ile y3.1 57) (rec1 (((iadd .i64 s1.1.1 1),()),((s1.2.1.1,(s1.2.1.2.1,())),()))) (cond (ieq y3.1 46) (rec1 (((iadd .i64 s1.1.1 1),()),((s1.2.1.1,(s1.2.1.2.1,())),()))) (some (some (((s1.2.1.1,(s1.2.1.2.1,())),()),(s1.1.1,())))))) (cond (ieq y3.1 46) (rec1 (((iadd .i64 s1.1.1 1),()),((s1.2.1.1,(s1.2.1.2.1,())),()))) (some (some (((s1.2.1.1,(s1.2.1.2.1,())),()),(s1.1.1,()))))))) (cond (ile 48 y3.1) (cond (ile y3.1 57) (rec1 (((iadd .i64 s1.1.1 1),()),((s1.2.1.1,(s1.2.1.2.1,())),()))) (cond (ieq y3.1 46) (rec1 (((iadd .i64 s1.1.1 1),()),((s1.2.1.1,(s1.2.1.2.1,())),()))) (some (some (((s1.2.1.1,(s1.2.1.2.1,())),()),(s1.1.1,())))))) (cond (ieq y3.1 46) (rec1 (((iadd .i64 s1.1.1 1),()),((s1.2.1.1,(s1.2.1.2.1,())),()))) (some (some (((s1.2.1.1,(s1.2.1.2.1,())),()),(s1.1.1,())))))))))) ((1,()),((x.1.1,(x.1.2.1,())),())))) (some (some (((x.1.1,(x.1.2.1,())),()),(0,()))))))
theorem eq60:@run60 = @sh60:=by kernel_rfl
def sh61 (fu:Nat) (c56:(Int×Unit)->Str->Int->(Option (Int×Unit))) (x:((Str×(Int×Unit))×Unit)) (a:(Int×Unit)):(Option (Option (((Str×(Int×Unit))×Unit)×(Int×Unit)))):=cond (ieq x.1.2.1 (lenI x.1.1)) (some (some (((x.1.1,(x.1.2.1,())),()),(0,())))) (Option.bind (c56 (0,()) x.1.1 x.1.2.1) fun y0=>cond (ine y0.1 a.1) (some (some (((x.1.1,(x.1.2.1,())),()),(0,())))) (iter fu (fun (rec1:((Int×Unit)×((Str×(Int×Unit))×Unit))->Option (Option (((Str×(Int×Unit))×Unit)×(Int×Unit)))) (s1:((Int×Unit)×((Str×(Int×Unit))×Unit)))=>cond (ilt (iadd .i64 s1.2.1.2.1 s1.1.1) (lenI s1.2.1.1)) (Option.bind (c56 (s1.1.1,()) s1.2.1.1 s1.2.1.2.1) fun y1=>cond (ieq y1.1 a.1) (cond (ieq a.1 39) (cond (ieq s1.1.1 1) (some (some (((s1.2.1.1,(s1.2.1.2.1,())),()),(0,())))) (some (some (((s1.2.1.1,(s1.2.1.2.1,())),()),((iadd .i64 s1.1.1 1),()))))) (some (some (((s1.2.1.1,(s1.2.1.2.1,())),()),((iadd .i64 s1.1.1 1),()))))) (cond (ieq y1.1 10) (some (some (((s1.2.1.1,(s1.2.1.2.1,())),()),(0,())))) (cond (ieq y1.1 92) (Option.bind (c56 ((iadd .i64 s1.1.1 1),()) s1.2.1.1 s1.2.1.2.1) fun y2=>cond (ieq y2.1 10) (cond (ilt (iadd .i64 s1.2.1.2.1 (iadd .i64 s1.1.1 1)) (lenI s1.2.1.1)) (some (some (((s1.2.1.1,(s1.2.1.2.1,())),()),(0,())))) (rec1 (((iadd .i64 (iadd .i64 s1.1.1 1) 1),()),((s1.2.1.1,(s1.2.1.2.1,())),())))) (rec1 (((iadd .i64 (iadd .i64 s1.1.1 1) 1),()),((s1.2.1.1,(s1.2.1.2.1,())),())))) (rec1 (((iadd .i64 s1.1.1 1),()),((s1.2.1.1,(s1.2.1.2.1,())),())))))) (some (some (((s1.2.1.1,(s1.2.1.2.1,())),()),(0,()))))) ((1,()),((x.1.1,(x.1.2.1,())),()))))
theorem eq61:@run61 = @sh61:=by kernel_rfl
def sh62 (fu:Nat) (c57:(Str×Unit)->Str->Int->(Option ((Bool×Unit)×Int))) (x:((Str×(Int×Unit))×Unit)) (a:Unit):(Option (Option (((Str×(Int×Unit))×Unit)×(Int×Unit)))):=iter fu (fun (rec1:((Int×(Int×Unit))×((Str×(Int×Unit))×Unit))->Option (Option (((Str×(Int×Unit))×Unit)×(Int×Unit)))) (s1:((Int×(Int×Unit))×((Str×(Int×Unit))×Unit)))=>cond (ilt s1.1.2.1 48) (cond (inB s1.1.2.1 48) (cond (ile (lenI (α:=UInt8) (List.getD [[46,46,46],[60,60,61],[62,62,61],[45,62],[43,43],[45,45],[60,60],[62,62],[60,61],[62,61],[61,61],[33,61],[38,38],[124,124],[42,61],[47,61],[37,61],[43,61],[45,61],[38,61],[94,61],[124,61],[35,35],[91],[93],[40],[41],[123],[125],[46],[38],[42],[43],[45],[126],[33],[47],[37],[60],[62],[94],[124],[63],[58],[59],[61],[44],[35]] (Int.toNat s1.1.2.1) [])) s1.1.1) (rec1 ((s1.1.1,((iadd .i64 s1.1.2.1 1),())),((s1.2.1.1,(s1.2.1.2.1,())),()))) (Option.bind (c57 ((List.getD [[46,46,46],[60,60,61],[62,62,61],[45,62],[43,43],[45,45],[60,60],[62,62],[60,61],[62,61],[61,61],[33,61],[38,38],[124,124],[42,61],[47,61],[37,61],[43,61],[45,61],[38,61],[94,61],[124,61],[35,35],[91],[93],[40],[41],[123],[125],[46],[38],[42],[43],[45],[126],[33],[47],[37],[60],[62],[94],[124],[63],[58],[59],[61],[44],[35]] (Int.toNat s1.1.2.1) []),()) s1.2.1.1 s1.2.1.2.1) fun y0=>cond (!y0.1.1) (rec1 ((s1.1.1,((iadd .i64 s1.1.2.1 1),())),((s1.2.1.1,(y0.2,())),()))) (rec1 (((lenI (α:=UInt8) (List.getD [[46,46,46],[60,60,61],[62,62,61],[45,62],[43,43],[45,45],[60,60],[62,62],[60,61],[62,61],[61,61],[33,61],[38,38],[124,124],[42,61],[47,61],[37,61],[43,61],[45,61],[38,61],[94,61],[124,61],[35,35],[91],[93],[40],[41],[123],[125],[46],[38],[42],[43],[45],[126],[33],[47],[37],[60],[62],[94],[124],[63],[58],[59],[61],[44],[35]] (Int.toNat s1.1.2.1) [])),((iadd .i64 s1.1.2.1 1),())),((s1.2.1.1,(y0.2,())),()))))) (none)) (some (some (((s1.2.1.1,(s1.2.1.2.1,())),()),(s1.1.1,()))))) ((0,(0,())),((x.1.1,(x.1.2.1,())),()))
theorem eq62:@run62 = @sh62:=by kernel_rfl
theorem con29 (fu:Nat) (c44:zI as44->Option (zI rs44)) (h44:ConOk CC Tryd.prog 44 ⟨as44,rs44,c44⟩) (c58:zI as58->Option (zI rs58)) (h58:ConOk CC Tryd.prog 58 ⟨as58,rs58,c58⟩) (c56:zB kI->Str->Int->Option (zB ([.int .u8]:LK))) (h56:CROk CC Tryd.prog 56 (cRD kI ([.int .u8]:LK) c56)) (c57:zB kS->DD (zB kB)) (h57:CQ 57 (cD kS kB c57)):CQ 29 (cD k0 kB (mD (sh29 fu c44 c58 c56 c57))):=
 zBd (yj (syn:=syn) (fu:=fu) (d:=2) (inl:=zA []) (orc:=zA [(44,(⟨as44,rs44,c44⟩:Con UU)),(58,(⟨as58,rs58,c58⟩:Con UU))]) (orr:=zA [(56,cRD kI ([.int .u8]:LK) c56)]) (orp:=zA [(57,cD kS kB c57)]) (pf:=hasN [44,58]) (rf:=hasN [56]) zX CCok mixed (fun g=>(zE (α:=Con UU) (l:=[(44,(⟨as44,rs44,c44⟩:Con UU)),(58,(⟨as58,rs58,c58⟩:Con UU))]) g).symm) (fun g=>(zE (α:=CR UU) (l:=[(56,cRD kI ([.int .u8]:LK) c56)]) g).symm) (zC) (zF (OrcOk.of ⟨zIV,h44⟩ rfl) (zF (OrcOk.of ⟨code58,h58⟩ rfl) (zC))) (zF ⟨zE4,h56⟩ (zC)) (zF ⟨zHa,h57⟩ (zC)) fdok29 (by show ([rdK]:LK).length+(k0:LK).length<=77; decide) (fun x a=>by show run29 fu c44 c58 c56 c57 x a=sh29 fu c44 c58 c56 c57 x a; rw [eq29]))
theorem con30 (fu:Nat) (c57:zB kS->DD (zB kB)) (h57:CQ 57 (cD kS kB c57)) (c59:zB k0->DD (zB kI)) (h59:CQ 59 (cD k0 kI c59)) (c60:zB k0->DD (zB kI)) (h60:CQ 60 (cD k0 kI c60)) (c61:zB ([.int .u8]:LK)->DD (zB kI)) (h61:CQ 61 (cD ([.int .u8]:LK) kI c61)) (c62:zB k0->DD (zB kI)) (h62:CQ 62 (cD k0 kI c62)):CQ 30 (cD k0 ([.int .i64,.int .i64]:LK) (mD (sh30 fu c57 c59 c60 c61 c62))):=
 zBd (yj (syn:=syn) (fu:=fu) (d:=2) (inl:=zA []) (orc:=zA []) (orr:=zA []) (orp:=zA [(57,cD kS kB c57),(59,cD k0 kI c59),(60,cD k0 kI c60),(61,cD ([.int .u8]:LK) kI c61),(62,cD k0 kI c62)]) (pf:=hasN []) (rf:=hasN []) zX CCok mixed (fun g=>(zE (α:=Con UU) (l:=[]) g).symm) (fun g=>(zE (α:=CR UU) (l:=[]) g).symm) (zC) (zC) (zC) (zF ⟨zHa,h57⟩ (zF ⟨code59,h59⟩ (zF ⟨code60,h60⟩ (zF ⟨code61,h61⟩ (zF ⟨code62,h62⟩ (zC)))))) fdok30 (by show ([rdK]:LK).length+(k0:LK).length<=36; decide) (fun x a=>by show run30 fu c57 c59 c60 c61 c62 x a=sh30 fu c57 c59 c60 c61 c62 x a; rw [eq30]))
theorem con57 (fu:Nat) :CQ 57 (cD kS kB (mD (sh57 fu))):=
 zBd (yj (syn:=syn) (fu:=fu) (d:=4) (inl:=zA [(38,fd38),(70,fd70)]) (orc:=zA []) (orr:=zA []) (orp:=zA []) (pf:=hasN []) (rf:=hasN []) zX CCok mixed (fun g=>(zE (α:=Con UU) (l:=[]) g).symm) (fun g=>(zE (α:=CR UU) (l:=[]) g).symm) (zF zLS (zF zLG (zC))) (zC) (zC) (zC) fdok57 (by show ([rdK]:LK).length+(kS:LK).length<=16; decide) (fun x a=>by show run57 fu x a=sh57 fu x a; rw [eq57]))
theorem con59 (fu:Nat) (c56:zB kI->Str->Int->Option (zB ([.int .u8]:LK))) (h56:CROk CC Tryd.prog 56 (cRD kI ([.int .u8]:LK) c56)):CQ 59 (cD k0 kI (mD (sh59 fu c56))):=
 zBd (yj (syn:=syn) (fu:=fu) (d:=4) (inl:=zA [(77,fd77),(78,fd78)]) (orc:=zA []) (orr:=zA [(56,cRD kI ([.int .u8]:LK) c56)]) (orp:=zA []) (pf:=hasN []) (rf:=hasN [56]) zX CCok mixed (fun g=>(zE (α:=Con UU) (l:=[]) g).symm) (fun g=>(zE (α:=CR UU) (l:=[(56,cRD kI ([.int .u8]:LK) c56)]) g).symm) (zF zLw (zF zMF (zC))) (zC) (zF ⟨zE4,h56⟩ (zC)) (zC) fdok59 (by show ([rdK]:LK).length+(k0:LK).length<=21; decide) (fun x a=>by show run59 fu c56 x a=sh59 fu c56 x a; rw [eq59]))
theorem con60 (fu:Nat) (c44:zI as44->Option (zI rs44)) (h44:ConOk CC Tryd.prog 44 ⟨as44,rs44,c44⟩) (c56:zB kI->Str->Int->Option (zB ([.int .u8]:LK))) (h56:CROk CC Tryd.prog 56 (cRD kI ([.int .u8]:LK) c56)):CQ 60 (cD k0 kI (mD (sh60 fu c44 c56))):=
 zBd (yj (syn:=syn) (fu:=fu) (d:=4) (inl:=zA [(77,fd77),(78,fd78)]) (orc:=zA [(44,(⟨as44,rs44,c44⟩:Con UU))]) (orr:=zA [(56,cRD kI ([.int .u8]:LK) c56)]) (orp:=zA []) (pf:=hasN [44]) (rf:=hasN [56]) zX CCok mixed (fun g=>(zE (α:=Con UU) (l:=[(44,(⟨as44,rs44,c44⟩:Con UU))]) g).symm) (fun g=>(zE (α:=CR UU) (l:=[(56,cRD kI ([.int .u8]:LK) c56)]) g).symm) (zF zLZ (zF zK2 (zC))) (zF (OrcOk.of ⟨zIV,h44⟩ rfl) (zC)) (zF ⟨zE4,h56⟩ (zC)) (zC) fdok60 (by show ([rdK]:LK).length+(k0:LK).length<=56; decide) (fun x a=>by show run60 fu c44 c56 x a=sh60 fu c44 c56 x a; rw [eq60]))
theorem con61 (fu:Nat) (c56:zB kI->Str->Int->Option (zB ([.int .u8]:LK))) (h56:CROk CC Tryd.prog 56 (cRD kI ([.int .u8]:LK) c56)):CQ 61 (cD ([.int .u8]:LK) kI (mD (sh61 fu c56))):=
 zBd (yj (syn:=syn) (fu:=fu) (d:=2) (inl:=zA []) (orc:=zA []) (orr:=zA [(56,cRD kI ([.int .u8]:LK) c56)]) (orp:=zA []) (pf:=hasN []) (rf:=hasN [56]) zX CCok mixed (fun g=>(zE (α:=Con UU) (l:=[]) g).symm) (fun g=>(zE (α:=CR UU) (l:=[(56,cRD kI ([.int .u8]:LK) c56)]) g).symm) (zC) (zC) (zF ⟨zE4,h56⟩ (zC)) (zC) fdok61 (by show ([rdK]:LK).length+(([.int .u8]:LK):LK).length<=74; decide) (fun x a=>by show run61 fu c56 x a=sh61 fu c56 x a; rw [eq61]))
theorem con62 (fu:Nat) (c57:zB kS->DD (zB kB)) (h57:CQ 57 (cD kS kB c57)):CQ 62 (cD k0 kI (mD (sh62 fu c57))):=
 zBd (yj (syn:=syn) (fu:=fu) (d:=2) (inl:=zA []) (orc:=zA []) (orr:=zA []) (orp:=zA [(57,cD kS kB c57)]) (pf:=hasN []) (rf:=hasN []) zX CCok mixed (fun g=>(zE (α:=Con UU) (l:=[]) g).symm) (fun g=>(zE (α:=CR UU) (l:=[]) g).symm) (zC) (zC) (zC) (zF ⟨zHa,h57⟩ (zC)) fdok62 (by show ([rdK]:LK).length+(k0:LK).length<=24; decide) (fun x a=>by show run62 fu c57 x a=sh62 fu c57 x a; rw [eq62]))
end
section
open Go.Al Go.Den
def sh42 (fu:Nat) (nf:Nat->Bool) (x0:Int):(Option (Int×Unit)):=cond (ile 48 x0) (cond (ile x0 57) (some ((zS .i64 (isub .u8 x0 48)),())) (cond (ile 97 x0) (cond (ile x0 102) (some ((zS .i64 (iadd .u8 (isub .u8 x0 97) 10)),())) (cond (ile 65 x0) (cond (ile x0 70) (some ((zS .i64 (iadd .u8 (isub .u8 x0 65) 10)),())) (some (99,()))) (some (99,())))) (cond (ile 65 x0) (cond (ile x0 70) (some ((zS .i64 (iadd .u8 (isub .u8 x0 65) 10)),())) (some (99,()))) (some (99,()))))) (cond (ile 97 x0) (cond (ile x0 102) (some ((zS .i64 (iadd .u8 (isub .u8 x0 97) 10)),())) (cond (ile 65 x0) (cond (ile x0 70) (some ((zS .i64 (iadd .u8 (isub .u8 x0 65) 10)),())) (some (99,()))) (some (99,())))) (cond (ile 65 x0) (cond (ile x0 70) (some ((zS .i64 (iadd .u8 (isub .u8 x0 65) 10)),())) (some (99,()))) (some (99,()))))
def sh43 (fu:Nat) (nf:Nat->Bool) (x0:Str):(Option (Bool×Unit)):=cond (seq x0 []) (some (true,())) (cond (seq x0 [117]) (some (true,())) (cond (seq x0 [85]) (some (true,())) (cond (seq x0 [108]) (some (true,())) (cond (seq x0 [76]) (some (true,())) (cond (seq x0 [108,108]) (some (true,())) (cond (seq x0 [76,76]) (some (true,())) (cond (seq x0 [117,108]) (some (true,())) (cond (seq x0 [117,76]) (some (true,())) (cond (seq x0 [117,108,108]) (some (true,())) (cond (seq x0 [117,76,76]) (some (true,())) (cond (seq x0 [85,108]) (some (true,())) (cond (seq x0 [85,76]) (some (true,())) (cond (seq x0 [85,108,108]) (some (true,())) (cond (seq x0 [85,76,76]) (some (true,())) (cond (seq x0 [108,117]) (some (true,())) (cond (seq x0 [108,85]) (some (true,())) (cond (seq x0 [76,117]) (some (true,())) (cond (seq x0 [76,85]) (some (true,())) (cond (seq x0 [108,108,117]) (some (true,())) (cond (seq x0 [108,108,85]) (some (true,())) (cond (seq x0 [76,76,117]) (some (true,())) (cond (seq x0 [76,76,85]) (some (true,())) (some (false,()))))))))))))))))))))))))
def sh14 (fu:Nat) (c42:(Int×Unit)->(Option (Int×Unit))) (c43:(Str×Unit)->(Option (Bool×Unit))) (nf:Nat->Bool) (x0:Str):(Option (Int×(Int×Unit))):=cond (ile 2 (lenI x0)) (cond (inB 0 (List.length x0)) (cond (ieq (zD x0 0) 48) (cond (inB 1 (List.length x0)) (cond (ieq (zD x0 1) 120) (iter fu (fun (rec1:((Int×(Int×Unit))×Unit)->Option (Int×(Int×Unit))) (s1:((Int×(Int×Unit))×Unit))=>cond (ilt s1.1.1 (lenI x0)) (cond (inB s1.1.1 (List.length x0)) (Option.bind (c42 ((zD x0 s1.1.1),())) fun y0=>cond (ile 16 y0.1) (cond (ieq s1.1.1 2) (some (0,(91,()))) (cond (inS s1.1.1 (lenI x0) (List.length x0)) (Option.bind (c43 ((cutL x0 s1.1.1 (lenI x0)),())) fun y1=>cond (!y1.1) (some (0,(91,()))) (some (s1.1.2.1,(0,())))) (none))) (cond (ine 16 0) (cond (ilt (iquo .i64 (isub .i64 9223372036854775807 y0.1) 16) s1.1.2.1) (some (0,(91,()))) (rec1 (((iadd .i64 s1.1.1 1),((iadd .i64 (imul .i64 s1.1.2.1 16) y0.1),())),()))) (none))) (none)) (cond (ieq s1.1.1 2) (some (0,(91,()))) (cond (inS s1.1.1 (lenI x0) (List.length x0)) (Option.bind (c43 ((cutL x0 s1.1.1 (lenI x0)),())) fun y0=>cond (!y0.1) (some (0,(91,()))) (some (s1.1.2.1,(0,())))) (none)))) ((2,(0,())),())) (cond (inB 1 (List.length x0)) (cond (ieq (zD x0 1) 88) (iter fu (fun (rec1:((Int×(Int×Unit))×Unit)->Option (Int×(Int×Unit))) (s1:((Int×(Int×Unit))×Unit))=>cond (ilt s1.1.1 (lenI x0)) (cond (inB s1.1.1 (List.length x0)) (Option.bind (c42 ((zD x0 s1.1.1),())) fun y0=>cond (ile 16 y0.1) (cond (ieq s1.1.1 2) (some (0,(91,()))) (cond (inS s1.1.1 (lenI x0) (List.length x0)) (Option.bind (c43 ((cutL x0 s1.1.1 (lenI x0)),())) fun y1=>cond (!y1.1) (some (0,(91,()))) (some (s1.1.2.1,(0,())))) (none))) (cond (ine 16 0) (cond (ilt (iquo .i64 (isub .i64 9223372036854775807 y0.1) 16) s1.1.2.1) (some (0,(91,()))) (rec1 (((iadd .i64 s1.1.1 1),((iadd .i64 (imul .i64 s1.1.2.1 16) y0.1),())),()))) (none))) (none)) (cond (ieq s1.1.1 2) (some (0,(91,()))) (cond (inS s1.1.1 (lenI x0) (List.length x0)) (Option.bind (c43 ((cutL x0 s1.1.1 (lenI x0)),())) fun y0=>cond (!y0.1) (some (0,(91,()))) (some (s1.1.2.1,(0,())))) (none)))) ((2,(0,())),())) (cond (ile 1 (lenI x0)) (cond (inB 0 (List.length x0)) (cond (ieq (zD x0 0) 48) (iter fu (fun (rec1:((Int×(Int×Unit))×Unit)->Option (Int×(Int×Unit))) (s1:((Int×(Int×Unit))×Unit))=>cond (ilt s1.1.1 (lenI x0)) (cond (inB s1.1.1 (List.length x0)) (Option.bind (c42 ((zD x0 s1.1.1),())) fun y0=>cond (ile 8 y0.1) (cond (ieq s1.1.1 0) (some (0,(91,()))) (cond (inS s1.1.1 (lenI x0) (List.length x0)) (Option.bind (c43 ((cutL x0 s1.1.1 (lenI x0)),())) fun y1=>cond (!y1.1) (some (0,(91,()))) (some (s1.1.2.1,(0,())))) (none))) (cond (ine 8 0) (cond (ilt (iquo .i64 (isub .i64 9223372036854775807 y0.1) 8) s1.1.2.1) (some (0,(91,()))) (rec1 (((iadd .i64 s1.1.1 1),((iadd .i64 (imul .i64 s1.1.2.1 8) y0.1),())),()))) (none))) (none)) (cond (ieq s1.1.1 0) (some (0,(91,()))) (cond (inS s1.1.1 (lenI x0) (List.length x0)) (Option.bind (c43 ((cutL x0 s1.1.1 (lenI x0)),())) fun y0=>cond (!y0.1) (some (0,(91,()))) (some (s1.1.2.1,(0,())))) (none)))) ((0,(0,())),())) (iter fu (fun (rec1:((Int×(Int×Unit))×Unit)->Option (Int×(Int×Unit))) (s1:((Int×(Int×Unit))×Unit))=>cond (ilt s1.1.1 (lenI x0)) (cond (inB s1.1.1 (List.length x0)) (Option.bind (c42 ((zD x0 s1.1.1),())) fun y0=>cond (ile 10 y0.1) (cond (ieq s1.1.1 0) (some (0,(91,()))) (cond (inS s1.1.1 (lenI x0) (List.length x0)) (Option.bind (c43 ((cutL x0 s1.1.1 (lenI x0)),())) fun y1=>cond (!y1.1) (some (0,(91,()))) (some (s1.1.2.1,(0,())))) (none))) (cond (ine 10 0) (cond (ilt (iquo .i64 (isub .i64 9223372036854775807 y0.1) 10) s1.1.2.1) (some (0,(91,()))) (rec1 (((iadd .i64 s1.1.1 1),((iadd .i64 (imul .i64 s1.1.2.1 10) y0.1),())),()))) (none))) (none)) (cond (ieq s1.1.1 0) (some (0,(91,()))) (cond (inS s1.1.1 (lenI x0) (List.length x0)) (Option.bind (c43 ((cutL x0 s1.1.1 (lenI x0)),())) fun y0=>cond (!y0.1) (some (0,(91,()))) (some (s1.1.2.1,(0,())))) (none)))) ((0,(0,())),()))) (none)) (iter fu (fun (rec1:((Int×(Int×Unit))×Unit)->Option (Int×(Int×Unit))) (s1:((Int×(Int×Unit))×Unit))=>cond (ilt s1.1.1 (lenI x0)) (cond (inB s1.1.1 (List.length x0)) (Option.bind (c42 ((zD x0 s1.1.1),())) fun y0=>cond (ile 10 y0.1) (cond (ieq s1.1.1 0) (some (0,(91,()))) (cond (inS s1.1.1 (lenI x0) (List.length x0)) (Option.bind (c43 ((cutL x0 s1.1.1 (lenI x0)),())) fun y1=>cond (!y1.1) (some (0,(91,()))) (some (s1.1.2.1,(0,())))) (none))) (cond (ine 10 0) (cond (ilt (iquo .i64 (isub .i64 9223372036854775807 y0.1) 10) s1.1.2.1) (some (0,(91,()))) (rec1 (((iadd .i64 s1.1.1 1),((iadd .i64 (imul .i64 s1.1.2.1 10) y0.1),())),()))) (none))) (none)) (cond (ieq s1.1.1 0) (some (0,(91,()))) (cond (inS s1.1.1 (lenI x0) (List.length x0)) (Option.bind (c43 ((cutL x0 s1.1.1 (lenI x0)),())) fun y0=>cond (!y0.1) (some (0,(91,()))) (some (s1.1.2.1,(0,())))) (none)))) ((0,(0,())),())))) (none))) (none)) (cond (ile 1 (lenI x0)) (cond (inB 0 (List.length x0)) (cond (ieq (zD x0 0) 48) (iter fu (fun (rec1:((Int×(Int×Unit))×Unit)->Option (Int×(Int×Unit))) (s1:((Int×(Int×Unit))×Unit))=>cond (ilt s1.1.1 (lenI x0)) (cond (inB s1.1.1 (List.length x0)) (Option.bind (c42 ((zD x0 s1.1.1),())) fun y0=>cond (ile 8 y0.1) (cond (ieq s1.1.1 0) (some (0,(91,()))) (cond (inS s1.1.1 (lenI x0) (List.length x0)) (Option.bind (c43 ((cutL x0 s1.1.1 (lenI x0)),())) fun y1=>cond (!y1.1) (some (0,(91,()))) (some (s1.1.2.1,(0,())))) (none))) (cond (ine 8 0) (cond (ilt (iquo .i64 (isub .i64 9223372036854775807 y0.1) 8) s1.1.2.1) (some (0,(91,()))) (rec1 (((iadd .i64 s1.1.1 1),((iadd .i64 (imul .i64 s1.1.2.1 8) y0.1),())),()))) (none))) (none)) (cond (ieq s1.1.1 0) (some (0,(91,()))) (cond (inS s1.1.1 (lenI x0) (List.length x0)) (Option.bind (c43 ((cutL x0 s1.1.1 (lenI x0)),())) fun y0=>cond (!y0.1) (some (0,(91,()))) (some (s1.1.2.1,(0,())))) (none)))) ((0,(0,())),())) (iter fu (fun (rec1:((Int×(Int×Unit))×Unit)->Option (Int×(Int×Unit))) (s1:((Int×(Int×Unit))×Unit))=>cond (ilt s1.1.1 (lenI x0)) (cond (inB s1.1.1 (List.length x0)) (Option.bind (c42 ((zD x0 s1.1.1),())) fun y0=>cond (ile 10 y0.1) (cond (ieq s1.1.1 0) (some (0,(91,()))) (cond (inS s1.1.1 (lenI x0) (List.length x0)) (Option.bind (c43 ((cutL x0 s1.1.1 (lenI x0)),())) fun y1=>cond (!y1.1) (some (0,(91,()))) (some (s1.1.2.1,(0,())))) (none))) (cond (ine 10 0) (cond (ilt (iquo .i64 (isub .i64 9223372036854775807 y0.1) 10) s1.1.2.1) (some (0,(91,()))) (rec1 (((iadd .i64 s1.1.1 1),((iadd .i64 (imul .i64 s1.1.2.1 10) y0.1),())),()))) (none))) (none)) (cond (ieq s1.1.1 0) (some (0,(91,()))) (cond (inS s1.1.1 (lenI x0) (List.length x0)) (Option.bind (c43 ((cutL x0 s1.1.1 (lenI x0)),())) fun y0=>cond (!y0.1) (some (0,(91,()))) (some (s1.1.2.1,(0,())))) (none)))) ((0,(0,())),()))) (none)) (iter fu (fun (rec1:((Int×(Int×Unit))×Unit)->Option (Int×(Int×Unit))) (s1:((Int×(Int×Unit))×Unit))=>cond (ilt s1.1.1 (lenI x0)) (cond (inB s1.1.1 (List.length x0)) (Option.bind (c42 ((zD x0 s1.1.1),())) fun y0=>cond (ile 10 y0.1) (cond (ieq s1.1.1 0) (some (0,(91,()))) (cond (inS s1.1.1 (lenI x0) (List.length x0)) (Option.bind (c43 ((cutL x0 s1.1.1 (lenI x0)),())) fun y1=>cond (!y1.1) (some (0,(91,()))) (some (s1.1.2.1,(0,())))) (none))) (cond (ine 10 0) (cond (ilt (iquo .i64 (isub .i64 9223372036854775807 y0.1) 10) s1.1.2.1) (some (0,(91,()))) (rec1 (((iadd .i64 s1.1.1 1),((iadd .i64 (imul .i64 s1.1.2.1 10) y0.1),())),()))) (none))) (none)) (cond (ieq s1.1.1 0) (some (0,(91,()))) (cond (inS s1.1.1 (lenI x0) (List.length x0)) (Option.bind (c43 ((cutL x0 s1.1.1 (lenI x0)),())) fun y0=>cond (!y0.1) (some (0,(91,()))) (some (s1.1.2.1,(0,())))) (none)))) ((0,(0,())),())))) (none)) (cond (ile 1 (lenI x0)) (cond (inB 0 (List.length x0)) (cond (ieq (zD x0 0) 48) (iter fu (fun (rec1:((Int×(Int×Unit))×Unit)->Option (Int×(Int×Unit))) (s1:((Int×(Int×Unit))×Unit))=>cond (ilt s1.1.1 (lenI x0)) (cond (inB s1.1.1 (List.length x0)) (Option.bind (c42 ((zD x0 s1.1.1),())) fun y0=>cond (ile 8 y0.1) (cond (ieq s1.1.1 0) (some (0,(91,()))) (cond (inS s1.1.1 (lenI x0) (List.length x0)) (Option.bind (c43 ((cutL x0 s1.1.1 (lenI x0)),())) fun y1=>cond (!y1.1) (some (0,(91,()))) (some (s1.1.2.1,(0,())))) (none))) (cond (ine 8 0) (cond (ilt (iquo .i64 (isub .i64 9223372036854775807 y0.1) 8) s1.1.2.1) (some (0,(91,()))) (rec1 (((iadd .i64 s1.1.1 1),((iadd .i64 (imul .i64 s1.1.2.1 8) y0.1),())),()))) (none))) (none)) (cond (ieq s1.1.1 0) (some (0,(91,()))) (cond (inS s1.1.1 (lenI x0) (List.length x0)) (Option.bind (c43 ((cutL x0 s1.1.1 (lenI x0)),())) fun y0=>cond (!y0.1) (some (0,(91,()))) (some (s1.1.2.1,(0,())))) (none)))) ((0,(0,())),())) (iter fu (fun (rec1:((Int×(Int×Unit))×Unit)->Option (Int×(Int×Unit))) (s1:((Int×(Int×Unit))×Unit))=>cond (ilt s1.1.1 (lenI x0)) (cond (inB s1.1.1 (List.length x0)) (Option.bind (c42 ((zD x0 s1.1.1),())) fun y0=>cond (ile 10 y0.1) (cond (ieq s1.1.1 0) (some (0,(91,()))) (cond (inS s1.1.1 (lenI x0) (List.length x0)) (Option.bind (c43 ((cutL x0 s1.1.1 (lenI x0)),())) fun y1=>cond (!y1.1) (some (0,(91,()))) (some (s1.1.2.1,(0,())))) (none))) (cond (ine 10 0) (cond (ilt (iquo .i64 (isub .i64 9223372036854775807 y0.1) 10) s1.1.2.1) (some (0,(91,()))) (rec1 (((iadd .i64 s1.1.1 1),((iadd .i64 (imul .i64 s1.1.2.1 10) y0.1),())),()))) (none))) (none)) (cond (ieq s1.1.1 0) (some (0,(91,()))) (cond (inS s1.1.1 (lenI x0) (List.length x0)) (Option.bind (c43 ((cutL x0 s1.1.1 (lenI x0)),())) fun y0=>cond (!y0.1) (some (0,(91,()))) (some (s1.1.2.1,(0,())))) (none)))) ((0,(0,())),()))) (none)) (iter fu (fun (rec1:((Int×(Int×Unit))×Unit)->Option (Int×(Int×Unit))) (s1:((Int×(Int×Unit))×Unit))=>cond (ilt s1.1.1 (lenI x0)) (cond (inB s1.1.1 (List.length x0)) (Option.bind (c42 ((zD x0 s1.1.1),())) fun y0=>cond (ile 10 y0.1) (cond (ieq s1.1.1 0) (some (0,(91,()))) (cond (inS s1.1.1 (lenI x0) (List.length x0)) (Option.bind (c43 ((cutL x0 s1.1.1 (lenI x0)),())) fun y1=>cond (!y1.1) (some (0,(91,()))) (some (s1.1.2.1,(0,())))) (none))) (cond (ine 10 0) (cond (ilt (iquo .i64 (isub .i64 9223372036854775807 y0.1) 10) s1.1.2.1) (some (0,(91,()))) (rec1 (((iadd .i64 s1.1.1 1),((iadd .i64 (imul .i64 s1.1.2.1 10) y0.1),())),()))) (none))) (none)) (cond (ieq s1.1.1 0) (some (0,(91,()))) (cond (inS s1.1.1 (lenI x0) (List.length x0)) (Option.bind (c43 ((cutL x0 s1.1.1 (lenI x0)),())) fun y0=>cond (!y0.1) (some (0,(91,()))) (some (s1.1.2.1,(0,())))) (none)))) ((0,(0,())),())))
def sh16 (fu:Nat) (nf:Nat->Bool) (x0:Str):(Option (Int×(Int×Unit))):=cond (ilt (lenI x0) 3) (some (0,(91,()))) (cond (ilt 4 (lenI x0)) (some (0,(91,()))) (cond (inB 0 (List.length x0)) (cond (ine (zD x0 0) 39) (some (0,(91,()))) (cond (inB (isub .i64 (lenI x0) 1) (List.length x0)) (cond (ine (zD x0 (isub .i64 (lenI x0) 1)) 39) (some (0,(91,()))) (cond (ieq (lenI x0) 3) (cond (inB 1 (List.length x0)) (cond (ine (zD x0 1) 92) (cond (inB 1 (List.length x0)) (some ((zS .i64 (zD x0 1)),(0,()))) (none)) (cond (ieq (lenI x0) 3) (some (0,(91,()))) (cond (inB 1 (List.length x0)) (cond (ine (zD x0 1) 92) (some (0,(91,()))) (cond (inB 2 (List.length x0)) (cond (ieq (zD x0 2) 110) (some (10,(0,()))) (cond (ieq (zD x0 2) 116) (some (9,(0,()))) (cond (ieq (zD x0 2) 114) (some (13,(0,()))) (cond (ieq (zD x0 2) 48) (some (0,(0,()))) (cond (ieq (zD x0 2) 97) (some (7,(0,()))) (cond (ieq (zD x0 2) 98) (some (8,(0,()))) (cond (ieq (zD x0 2) 102) (some (12,(0,()))) (cond (ieq (zD x0 2) 118) (some (11,(0,()))) (cond (ieq (zD x0 2) 92) (cond (inB 2 (List.length x0)) (some ((zS .i64 (zD x0 2)),(0,()))) (none)) (cond (ieq (zD x0 2) 39) (cond (inB 2 (List.length x0)) (some ((zS .i64 (zD x0 2)),(0,()))) (none)) (cond (ieq (zD x0 2) 34) (cond (inB 2 (List.length x0)) (some ((zS .i64 (zD x0 2)),(0,()))) (none)) (cond (ieq (zD x0 2) 63) (cond (inB 2 (List.length x0)) (some ((zS .i64 (zD x0 2)),(0,()))) (none)) (some (0,(91,()))))))))))))))) (none))) (none)))) (none)) (cond (ieq (lenI x0) 3) (some (0,(91,()))) (cond (inB 1 (List.length x0)) (cond (ine (zD x0 1) 92) (some (0,(91,()))) (cond (inB 2 (List.length x0)) (cond (ieq (zD x0 2) 110) (some (10,(0,()))) (cond (ieq (zD x0 2) 116) (some (9,(0,()))) (cond (ieq (zD x0 2) 114) (some (13,(0,()))) (cond (ieq (zD x0 2) 48) (some (0,(0,()))) (cond (ieq (zD x0 2) 97) (some (7,(0,()))) (cond (ieq (zD x0 2) 98) (some (8,(0,()))) (cond (ieq (zD x0 2) 102) (some (12,(0,()))) (cond (ieq (zD x0 2) 118) (some (11,(0,()))) (cond (ieq (zD x0 2) 92) (cond (inB 2 (List.length x0)) (some ((zS .i64 (zD x0 2)),(0,()))) (none)) (cond (ieq (zD x0 2) 39) (cond (inB 2 (List.length x0)) (some ((zS .i64 (zD x0 2)),(0,()))) (none)) (cond (ieq (zD x0 2) 34) (cond (inB 2 (List.length x0)) (some ((zS .i64 (zD x0 2)),(0,()))) (none)) (cond (ieq (zD x0 2) 63) (cond (inB 2 (List.length x0)) (some ((zS .i64 (zD x0 2)),(0,()))) (none)) (some (0,(91,()))))))))))))))) (none))) (none))))) (none))) (none)))
def sh8 (fu:Nat) (c18:(Str×Unit)->(Option (Int×Unit))) (nf:Nat->Bool):(Option (Bool×Unit)):=Option.bind (c18 ([49,32,43,32,50,32,42,32,51],())) fun y0=>cond (ieq y0.1 7) (Option.bind (c18 ([40,49,32,43,32,50,41,32,42,32,51],())) fun y1=>cond (ieq y1.1 9) (Option.bind (c18 ([45,55,32,47,32,50],())) fun y2=>cond (ieq y2.1 (Neg.neg 3)) (Option.bind (c18 ([45,55,32,37,32,50],())) fun y3=>Option.bind (c18 ([49,32,124,124,32,49,32,47,32,48],())) fun y4=>cond (ieq y4.1 1) (Option.bind (c18 ([49,32,47,32,48],())) fun y5=>cond (ieq y5.1 (Neg.neg 1092)) (Option.bind (c18 ([48,32,63,32,49,47,48,32,58,32,53],())) fun y6=>cond (ieq y6.1 5) (Option.bind (c18 ([88,32,61,61,32,48,32,38,38,32,39,97,39,32,61,61,32,57,55],())) fun y7=>Option.bind (c18 ([48,120,49,48,117],())) fun y8=>cond (ieq y8.1 16) (Option.bind (c18 ([48,56],())) fun y9=>cond (ieq y9.1 (Neg.neg 1091)) (Option.bind (c18 ([49,32,60,60,32,54,52],())) fun y10=>cond (ieq y10.1 (Neg.neg 1093)) (Option.bind (c18 ([49,32,43],())) fun y11=>cond (ieq y11.1 (Neg.neg 1090)) (Option.bind (c18 ([],())) fun y12=>cond (ieq y12.1 (Neg.neg 1090)) (Option.bind (c18 ([49,32,63,32,50,32,58,32,48,32,63,32,51,32,58,32,52],())) fun y13=>cond (ieq y3.1 (Neg.neg 1)) (cond (ieq y7.1 1) (some ((ieq y13.1 2),())) (some (false,()))) (some (false,()))) (cond (ieq y3.1 (Neg.neg 1)) (cond (ieq y7.1 1) (some (false,())) (some (false,()))) (some (false,())))) (cond (ieq y3.1 (Neg.neg 1)) (cond (ieq y7.1 1) (some (false,())) (some (false,()))) (some (false,())))) (cond (ieq y3.1 (Neg.neg 1)) (cond (ieq y7.1 1) (some (false,())) (some (false,()))) (some (false,())))) (cond (ieq y3.1 (Neg.neg 1)) (cond (ieq y7.1 1) (some (false,())) (some (false,()))) (some (false,())))) (cond (ieq y3.1 (Neg.neg 1)) (cond (ieq y7.1 1) (some (false,())) (some (false,()))) (some (false,())))) (Option.bind (c18 ([48,120,49,48,117],())) fun y7=>cond (ieq y7.1 16) (Option.bind (c18 ([48,56],())) fun y8=>cond (ieq y8.1 (Neg.neg 1091)) (Option.bind (c18 ([49,32,60,60,32,54,52],())) fun y9=>cond (ieq y9.1 (Neg.neg 1093)) (Option.bind (c18 ([49,32,43],())) fun y10=>cond (ieq y10.1 (Neg.neg 1090)) (Option.bind (c18 ([],())) fun y11=>cond (ieq y11.1 (Neg.neg 1090)) (Option.bind (c18 ([49,32,63,32,50,32,58,32,48,32,63,32,51,32,58,32,52],())) fun y12=>cond (ieq y3.1 (Neg.neg 1)) (some (false,())) (some (false,()))) (cond (ieq y3.1 (Neg.neg 1)) (some (false,())) (some (false,())))) (cond (ieq y3.1 (Neg.neg 1)) (some (false,())) (some (false,())))) (cond (ieq y3.1 (Neg.neg 1)) (some (false,())) (some (false,())))) (cond (ieq y3.1 (Neg.neg 1)) (some (false,())) (some (false,())))) (cond (ieq y3.1 (Neg.neg 1)) (some (false,())) (some (false,()))))) (Option.bind (c18 ([48,120,49,48,117],())) fun y6=>cond (ieq y6.1 16) (Option.bind (c18 ([48,56],())) fun y7=>cond (ieq y7.1 (Neg.neg 1091)) (Option.bind (c18 ([49,32,60,60,32,54,52],())) fun y8=>cond (ieq y8.1 (Neg.neg 1093)) (Option.bind (c18 ([49,32,43],())) fun y9=>cond (ieq y9.1 (Neg.neg 1090)) (Option.bind (c18 ([],())) fun y10=>cond (ieq y10.1 (Neg.neg 1090)) (Option.bind (c18 ([49,32,63,32,50,32,58,32,48,32,63,32,51,32,58,32,52],())) fun y11=>cond (ieq y3.1 (Neg.neg 1)) (some (false,())) (some (false,()))) (cond (ieq y3.1 (Neg.neg 1)) (some (false,())) (some (false,())))) (cond (ieq y3.1 (Neg.neg 1)) (some (false,())) (some (false,())))) (cond (ieq y3.1 (Neg.neg 1)) (some (false,())) (some (false,())))) (cond (ieq y3.1 (Neg.neg 1)) (some (false,())) (some (false,())))) (cond (ieq y3.1 (Neg.neg 1)) (some (false,())) (some (false,()))))) (Option.bind (c18 ([48,120,49,48,117],())) fun y5=>cond (ieq y5.1 16) (Option.bind (c18 ([48,56],())) fun y6=>cond (ieq y6.1 (Neg.neg 1091)) (Option.bind (c18 ([49,32,60,60,32,54,52],())) fun y7=>cond (ieq y7.1 (Neg.neg 1093)) (Option.bind (c18 ([49,32,43],())) fun y8=>cond (ieq y8.1 (Neg.neg 1090)) (Option.bind (c18 ([],())) fun y9=>cond (ieq y9.1 (Neg.neg 1090)) (Option.bind (c18 ([49,32,63,32,50,32,58,32,48,32,63,32,51,32,58,32,52],())) fun y10=>cond (ieq y3.1 (Neg.neg 1)) (some (false,())) (some (false,()))) (cond (ieq y3.1 (Neg.neg 1)) (some (false,())) (some (false,())))) (cond (ieq y3.1 (Neg.neg 1)) (some (false,())) (some (false,())))) (cond (ieq y3.1 (Neg.neg 1)) (some (false,())) (some (false,())))) (cond (ieq y3.1 (Neg.neg 1)) (some (false,())) (some (false,())))) (cond (ieq y3.1 (Neg.neg 1)) (some (false,())) (some (false,()))))) (Option.bind (c18 ([49,32,124,124,32,49,32,47,32,48],())) fun y3=>cond (ieq y3.1 1) (Option.bind (c18 ([49,32,47,32,48],())) fun y4=>cond (ieq y4.1 (Neg.neg 1092)) (Option.bind (c18 ([48,32,63,32,49,47,48,32,58,32,53],())) fun y5=>cond (ieq y5.1 5) (Option.bind (c18 ([88,32,61,61,32,48,32,38,38,32,39,97,39,32,61,61,32,57,55],())) fun y6=>Option.bind (c18 ([48,120,49,48,117],())) fun y7=>cond (ieq y7.1 16) (Option.bind (c18 ([48,56],())) fun y8=>cond (ieq y8.1 (Neg.neg 1091)) (Option.bind (c18 ([49,32,60,60,32,54,52],())) fun y9=>cond (ieq y9.1 (Neg.neg 1093)) (Option.bind (c18 ([49,32,43],())) fun y10=>cond (ieq y10.1 (Neg.neg 1090)) (Option.bind (c18 ([],())) fun y11=>cond (ieq y11.1 (Neg.neg 1090)) (Option.bind (c18 ([49,32,63,32,50,32,58,32,48,32,63,32,51,32,58,32,52],())) fun y12=>some (false,())) (some (false,()))) (some (false,()))) (some (false,()))) (some (false,()))) (some (false,()))) (Option.bind (c18 ([48,120,49,48,117],())) fun y6=>cond (ieq y6.1 16) (Option.bind (c18 ([48,56],())) fun y7=>cond (ieq y7.1 (Neg.neg 1091)) (Option.bind (c18 ([49,32,60,60,32,54,52],())) fun y8=>cond (ieq y8.1 (Neg.neg 1093)) (Option.bind (c18 ([49,32,43],())) fun y9=>cond (ieq y9.1 (Neg.neg 1090)) (Option.bind (c18 ([],())) fun y10=>cond (ieq y10.1 (Neg.neg 1090)) (Option.bind (c18 ([49,32,63,32,50,32,58,32,48,32,63,32,51,32,58,32,52],())) fun y11=>some (false,())) (some (false,()))) (some (false,()))) (some (false,()))) (some (false,()))) (some (false,())))) (Option.bind (c18 ([48,120,49,48,117],())) fun y5=>cond (ieq y5.1 16) (Option.bind (c18 ([48,56],())) fun y6=>cond (ieq y6.1 (Neg.neg 1091)) (Option.bind (c18 ([49,32,60,60,32,54,52],())) fun y7=>cond (ieq y7.1 (Neg.neg 1093)) (Option.bind (c18 ([49,32,43],())) fun y8=>cond (ieq y8.1 (Neg.neg 1090)) (Option.bind (c18 ([],())) fun y9=>cond (ieq y9.1 (Neg.neg 1090)) (Option.bind (c18 ([49,32,63,32,50,32,58,32,48,32,63,32,51,32,58,32,52],())) fun y10=>some (false,())) (some (false,()))) (some (false,()))) (some (false,()))) (some (false,()))) (some (false,())))) (Option.bind (c18 ([48,120,49,48,117],())) fun y4=>cond (ieq y4.1 16) (Option.bind (c18 ([48,56],())) fun y5=>cond (ieq y5.1 (Neg.neg 1091)) (Option.bind (c18 ([49,32,60,60,32,54,52],())) fun y6=>cond (ieq y6.1 (Neg.neg 1093)) (Option.bind (c18 ([49,32,43],())) fun y7=>cond (ieq y7.1 (Neg.neg 1090)) (Option.bind (c18 ([],())) fun y8=>cond (ieq y8.1 (Neg.neg 1090)) (Option.bind (c18 ([49,32,63,32,50,32,58,32,48,32,63,32,51,32,58,32,52],())) fun y9=>some (false,())) (some (false,()))) (some (false,()))) (some (false,()))) (some (false,()))) (some (false,()))))) (Option.bind (c18 ([49,32,124,124,32,49,32,47,32,48],())) fun y2=>cond (ieq y2.1 1) (Option.bind (c18 ([49,32,47,32,48],())) fun y3=>cond (ieq y3.1 (Neg.neg 1092)) (Option.bind (c18 ([48,32,63,32,49,47,48,32,58,32,53],())) fun y4=>cond (ieq y4.1 5) (Option.bind (c18 ([88,32,61,61,32,48,32,38,38,32,39,97,39,32,61,61,32,57,55],())) fun y5=>Option.bind (c18 ([48,120,49,48,117],())) fun y6=>cond (ieq y6.1 16) (Option.bind (c18 ([48,56],())) fun y7=>cond (ieq y7.1 (Neg.neg 1091)) (Option.bind (c18 ([49,32,60,60,32,54,52],())) fun y8=>cond (ieq y8.1 (Neg.neg 1093)) (Option.bind (c18 ([49,32,43],())) fun y9=>cond (ieq y9.1 (Neg.neg 1090)) (Option.bind (c18 ([],())) fun y10=>cond (ieq y10.1 (Neg.neg 1090)) (Option.bind (c18 ([49,32,63,32,50,32,58,32,48,32,63,32,51,32,58,32,52],())) fun y11=>some (false,())) (some (false,()))) (some (false,()))) (some (false,()))) (some (false,()))) (some (false,()))) (Option.bind (c18 ([48,120,49,48,117],())) fun y5=>cond (ieq y5.1 16) (Option.bind (c18 ([48,56],())) fun y6=>cond (ieq y6.1 (Neg.neg 1091)) (Option.bind (c18 ([49,32,60,60,32,54,52],())) fun y7=>cond (ieq y7.1 (Neg.neg 1093)) (Option.bind (c18 ([49,32,43],())) fun y8=>cond (ieq y8.1 (Neg.neg 1090)) (Option.bind (c18 ([],())) fun y9=>cond (ieq y9.1 (Neg.neg 1090)) (Option.bind (c18 ([49,32,63,32,50,32,58,32,48,32,63,32,51,32,58,32,52],())) fun y10=>some (false,())) (some (false,()))) (some (false,()))) (some (false,()))) (some (false,()))) (some (false,())))) (Option.bind (c18 ([48,120,49,48,117],())) fun y4=>cond (ieq y4.1 16) (Option.bind (c18 ([48,56],())) fun y5=>cond (ieq y5.1 (Neg.neg 1091)) (Option.bind (c18 ([49,32,60,60,32,54,52],())) fun y6=>cond (ieq y6.1 (Neg.neg 1093)) (Option.bind (c18 ([49,32,43],())) fun y7=>cond (ieq y7.1 (Neg.neg 1090)) (Option.bind (c18 ([],())) fun y8=>cond (ieq y8.1 (Neg.neg 1090)) (Option.bind (c18 ([49,32,63,32,50,32,58,32,48,32,63,32,51,32,58,32,52],())) fun y9=>some (false,())) (some (false,()))) (some (false,()))) (some (false,()))) (some (false,()))) (some (false,())))) (Option.bind (c18 ([48,120,49,48,117],())) fun y3=>cond (ieq y3.1 16) (Option.bind (c18 ([48,56],())) fun y4=>cond (ieq y4.1 (Neg.neg 1091)) (Option.bind (c18 ([49,32,60,60,32,54,52],())) fun y5=>cond (ieq y5.1 (Neg.neg 1093)) (Option.bind (c18 ([49,32,43],())) fun y6=>cond (ieq y6.1 (Neg.neg 1090)) (Option.bind (c18 ([],())) fun y7=>cond (ieq y7.1 (Neg.neg 1090)) (Option.bind (c18 ([49,32,63,32,50,32,58,32,48,32,63,32,51,32,58,32,52],())) fun y8=>some (false,())) (some (false,()))) (some (false,()))) (some (false,()))) (some (false,()))) (some (false,()))))) (Option.bind (c18 ([49,32,124,124,32,49,32,47,32,48],())) fun y1=>cond (ieq y1.1 1) (Option.bind (c18 ([49,32,47,32,48],())) fun y2=>cond (ieq y2.1 (Neg.neg 1092)) (Option.bind (c18 ([48,32,63,32,49,47,48,32,58,32,53],())) fun y3=>cond (ieq y3.1 5) (Option.bind (c18 ([88,32,61,61,32,48,32,38,38,32,39,97,39,32,61,61,32,57,55],())) fun y4=>Option.bind (c18 ([48,120,49,48,117],())) fun y5=>cond (ieq y5.1 16) (Option.bind (c18 ([48,56],())) fun y6=>cond (ieq y6.1 (Neg.neg 1091)) (Option.bind (c18 ([49,32,60,60,32,54,52],())) fun y7=>cond (ieq y7.1 (Neg.neg 1093)) (Option.bind (c18 ([49,32,43],())) fun y8=>cond (ieq y8.1 (Neg.neg 1090)) (Option.bind (c18 ([],())) fun y9=>cond (ieq y9.1 (Neg.neg 1090)) (Option.bind (c18 ([49,32,63,32,50,32,58,32,48,32,63,32,51,32,58,32,52],())) fun y10=>some (false,())) (some (false,()))) (some (false,()))) (some (false,()))) (some (false,()))) (some (false,()))) (Option.bind (c18 ([48,120,49,48,117],())) fun y4=>cond (ieq y4.1 16) (Option.bind (c18 ([48,56],())) fun y5=>cond (ieq y5.1 (Neg.neg 1091)) (Option.bind (c18 ([49,32,60,60,32,54,52],())) fun y6=>cond (ieq y6.1 (Neg.neg 1093)) (Option.bind (c18 ([49,32,43],())) fun y7=>cond (ieq y7.1 (Neg.neg 1090)) (Option.bind (c18 ([],())) fun y8=>cond (ieq y8.1 (Neg.neg 1090)) (Option.bind (c18 ([49,32,63,32,50,32,58,32,48,32,63,32,51,32,58,32,52],())) fun y9=>some (false,())) (some (false,()))) (some (false,()))) (some (false,()))) (some (false,()))) (some (false,())))) (Option.bind (c18 ([48,120,49,48,117],())) fun y3=>cond (ieq y3.1 16) (Option.bind (c18 ([48,56],())) fun y4=>cond (ieq y4.1 (Neg.neg 1091)) (Option.bind (c18 ([49,32,60,60,32,54,52],())) fun y5=>cond (ieq y5.1 (Neg.neg 1093)) (Option.bind (c18 ([49,32,43],())) fun y6=>cond (ieq y6.1 (Neg.neg 1090)) (Option.bind (c18 ([],())) fun y7=>cond (ieq y7.1 (Neg.neg 1090)) (Option.bind (c18 ([49,32,63,32,50,32,58,32,48,32,63,32,51,32,58,32,52],())) fun y8=>some (false,())) (some (false,()))) (some (false,()))) (some (false,()))) (some (false,()))) (some (false,())))) (Option.bind (c18 ([48,120,49,48,117],())) fun y2=>cond (ieq y2.1 16) (Option.bind (c18 ([48,56],())) fun y3=>cond (ieq y3.1 (Neg.neg 1091)) (Option.bind (c18 ([49,32,60,60,32,54,52],())) fun y4=>cond (ieq y4.1 (Neg.neg 1093)) (Option.bind (c18 ([49,32,43],())) fun y5=>cond (ieq y5.1 (Neg.neg 1090)) (Option.bind (c18 ([],())) fun y6=>cond (ieq y6.1 (Neg.neg 1090)) (Option.bind (c18 ([49,32,63,32,50,32,58,32,48,32,63,32,51,32,58,32,52],())) fun y7=>some (false,())) (some (false,()))) (some (false,()))) (some (false,()))) (some (false,()))) (some (false,()))))
theorem eq8:@run8 = @sh8:=by kernel_rfl
theorem con8 (fu:Nat) (c18:zI as18->Option (zI rs18)) (h18:ConOk CC Tryd.prog 18 ⟨as18,rs18,c18⟩):ConOk CC Tryd.prog 8 ⟨as8,rs8,fun x=>sh8 fu c18 (fun _=>false)⟩:=
 zV (c:=⟨as8,rs8,fun x=>sh8 fu c18 (fun _=>false)⟩) (syn:=syn) (fu:=fu) (d:=2) (inl:=zA []) (orc:=zA [(18,(⟨as18,rs18,c18⟩:Con UU))]) (orr:=zA []) (orp:=zA []) (pf:=hasN [18]) (rf:=hasN []) zX CCok mixed (fun g=>(zE (α:=Con UU) (l:=[(18,(⟨as18,rs18,c18⟩:Con UU))]) g).symm) (fun g=>(zE (α:=CR UU) (l:=[]) g).symm) (zC) (zF (OrcOk.of ⟨code18,h18⟩ rfl) (zC)) (zC) (zC) fdok8 (by show 0<=61; decide) (zQ rfl) (fun nf x=>by show run8 fu c18 nf=_; rw [eq8]; rfl)
end
section
open Go.Al Go.Den
noncomputable def c57:zB ([.str]:LK)->DD (zB ([.bool]:LK)):=mD (sh57 0)
theorem ok57:CPOk CC Tryd.prog syn 57 (cD ([.str]:LK) ([.bool]:LK) c57):=con57 0
noncomputable def c59 (fu:Nat):zB ([]:LK)->DD (zB ([.int .i64]:LK)):=mD (sh59 fu c56)
theorem ok59 (fu:Nat):CPOk CC Tryd.prog syn 59 (cD ([]:LK) ([.int .i64]:LK) (c59 fu)):=con59 fu c56 ok56
noncomputable def c60 (fu:Nat):zB ([]:LK)->DD (zB ([.int .i64]:LK)):=mD (sh60 fu c44 c56)
theorem ok60 (fu:Nat):CPOk CC Tryd.prog syn 60 (cD ([]:LK) ([.int .i64]:LK) (c60 fu)):=con60 fu c44 ok44 c56 ok56
noncomputable def c61 (fu:Nat):zB ([.int .u8]:LK)->DD (zB ([.int .i64]:LK)):=mD (sh61 fu c56)
theorem ok61 (fu:Nat):CPOk CC Tryd.prog syn 61 (cD ([.int .u8]:LK) ([.int .i64]:LK) (c61 fu)):=con61 fu c56 ok56
noncomputable def c62 (fu:Nat):zB ([]:LK)->DD (zB ([.int .i64]:LK)):=mD (sh62 fu c57)
theorem ok62 (fu:Nat):CPOk CC Tryd.prog syn 62 (cD ([]:LK) ([.int .i64]:LK) (c62 fu)):=con62 fu c57 ok57
noncomputable def c30 (fu:Nat):zB ([]:LK)->DD (zB ([.int .i64,.int .i64]:LK)):=mD (sh30 fu c57 (c59 fu) (c60 fu) (c61 fu) (c62 fu))
theorem ok30 (fu:Nat):CPOk CC Tryd.prog syn 30 (cD ([]:LK) ([.int .i64,.int .i64]:LK) (c30 fu)):=con30 fu c57 ok57 (c59 fu) (ok59 fu) (c60 fu) (ok60 fu) (c61 fu) (ok61 fu) (c62 fu) (ok62 fu)
noncomputable def c29 (fu:Nat):zB ([]:LK)->DD (zB ([.bool]:LK)):=mD (sh29 fu c44 c58 c56 c57)
theorem ok29 (fu:Nat):CPOk CC Tryd.prog syn 29 (cD ([]:LK) ([.bool]:LK) (c29 fu)):=con29 fu c44 ok44 c58 ok58 c56 ok56 c57 ok57
noncomputable def c10 (fu:Nat) (x:Int×Str×Unit):Option (List TokT×Unit):=sh10 fu c27 c28 (c29 fu) (c30 fu) (fun _=>false) x.1 x.2.1
theorem ok10 (fu:Nat):ConOk CC Tryd.prog 10 ⟨as10,rs10,c10 fu⟩:=con10 fu c27 ok27 c28 ok28 (c29 fu) (ok29 fu) (c30 fu) (ok30 fu)
noncomputable def c52:zB ([]:LK)->EE (zB ([.str]:LK)):=mE (sh52 0)
theorem ok52:CPOk CC Tryd.prog syn 52 (cE ([]:LK) ([.str]:LK) c52):=con52 0
noncomputable def c53:zB ([.str]:LK)->EE (zB ([]:LK)):=mE (sh53 0 c52)
theorem ok53:CPOk CC Tryd.prog syn 53 (cE ([.str]:LK) ([]:LK) c53):=con53 0 c52 ok52
structure RF where
 c26:zB ([.int .i64]:LK)->EE (zB ([.st TI.val]:LK))
 c51:zB ([.int .i64,.int .i64]:LK)->EE (zB ([.st TI.val]:LK))
 c54:zB ([.int .i64]:LK)->EE (zB ([.st TI.val]:LK))
 c73:zB ([.int .i64]:LK)->EE (zB ([.st TI.val]:LK))
 c82:zB ([.int .i64]:LK)->EE (zB ([.st TI.val]:LK))
structure RFok (r:RF):Prop where
 h26:CPOk CC Tryd.prog syn 26 (cE ([.int .i64]:LK) ([.st TI.val]:LK) r.c26)
 h51:CPOk CC Tryd.prog syn 51 (cE ([.int .i64,.int .i64]:LK) ([.st TI.val]:LK) r.c51)
 h54:CPOk CC Tryd.prog syn 54 (cE ([.int .i64]:LK) ([.st TI.val]:LK) r.c54)
 h73:CPOk CC Tryd.prog syn 73 (cE ([.int .i64]:LK) ([.st TI.val]:LK) r.c73)
 h82:CPOk CC Tryd.prog syn 82 (cE ([.int .i64]:LK) ([.st TI.val]:LK) r.c82)
noncomputable def rf (fu:Nat):Nat->RF
 | 0=>⟨fun _ _=>none,fun _ _=>none,fun _ _=>none,fun _ _=>none,fun _ _=>none⟩
 | n+1=>⟨mE (sh26 fu (rf fu n).c51 c52 c53 (rf fu n).c54),mE (sh51 fu c74 (rf fu n).c51 c52 c53 (rf fu n).c73),mE (sh54 fu (rf fu n).c26),mE (sh73 fu c52 c53 (rf fu n).c73 (rf fu n).c82),mE (sh82 fu (c13 fu) c15 c52 c53 (rf fu n).c54)⟩
theorem zBP {P:Program} {f:Nat} {aa rs:LK}:CPOk CC P syn f (cE aa rs fun _ _=>none):=fun x a R pan K r hr=>by
 replace hr:(none:Option R)=some r:=hr
 cases hr
theorem rfok (fu:Nat):∀ n,RFok (rf fu n)
 | 0=>⟨zBP,zBP,zBP,zBP,zBP⟩
 | n+1=>⟨con26 fu _ (rfok fu n).h51 c52 ok52 c53 ok53 _ (rfok fu n).h54,con51 fu c74 ok74 _ (rfok fu n).h51 c52 ok52 c53 ok53 _ (rfok fu n).h73,con54 fu _ (rfok fu n).h26,con73 fu c52 ok52 c53 ok53 _ (rfok fu n).h73 _ (rfok fu n).h82,con82 fu (c13 fu) (ok13 fu) c15 ok15 c52 ok52 c53 ok53 _ (rfok fu n).h54⟩
noncomputable def c23 (fu:Nat):zB ([.arr TI.tok,.fn 25]:LK)->Option (zB ([.bl TI.tok]:LK)):=mF (sh23 fu)
theorem ok23 (fu:Nat):CPOk CC Tryd.prog syn 23 (cF ([.arr TI.tok,.fn 25]:LK) ([.bl TI.tok]:LK) (c23 fu)):=con23 fu
noncomputable def c9 (fu n k:Nat) (x:List TokT×Unit):Option (Int×Int×Unit):=sh9 fu (cm k) (c23 fu) (rf fu n).c26 (fun _=>false) x.1
theorem ok9 (fu n k:Nat):ConOk CC Tryd.prog 9 ⟨as9,rs9,c9 fu n k⟩:=con9 fu (cm k) (cmok k) (c23 fu) (ok23 fu) _ (rfok fu n).h26
noncomputable def c18 (fu n k:Nat) (x:Str×Unit):Option (Int×Unit):=sh18 fu (c9 fu n k) (c10 fu) (fun _=>false) x.1
theorem ok18 (fu n k:Nat):ConOk CC Tryd.prog 18 ⟨as18,rs18,c18 fu n k⟩:=con18 fu (c9 fu n k) (ok9 fu n k) (c10 fu) (ok10 fu)
noncomputable def c8 (fu n k:Nat) (_:Unit):Option (Bool×Unit):=sh8 fu (c18 fu n k) (fun _=>false)
theorem ok8 (fu n k:Nat):ConOk CC Tryd.prog 8 ⟨as8,rs8,c8 fu n k⟩:=con8 fu (c18 fu n k) (ok18 fu n k)
end
end Go.Proofs.YtonnigoiklahdaaDoor
namespace Go.Den
section
open Go.Al
theorem zKf (n:Int) (h1:-9223372036854775808<=n) (h2:n<=9223372036854775807):IntKind.i64.wrap n=n:=IntWalk.i64_in n (by omega)
theorem zt (a b:Int) (h1:-9223372036854775808<=a+b) (h2:a+b<=9223372036854775807):iadd .i64 a b=a+b:=zKf _ h1 h2
theorem zFi (a b:Int) (h1:-9223372036854775808<=a - b) (h2:a - b<=9223372036854775807):isub .i64 a b=a - b:=zKf _ h1 h2
theorem xP (i k:Nat) (h:i+k < 9223372036854775808):iadd .i64 (i:Int) (k:Int)=((i+k:Nat):Int):=by
 unfold iadd; rw [zKf _ (by omega) (by omega)]; omega
theorem zMg (i:Nat) (h:i+1 < 9223372036854775808):iadd .i64 (i:Int) 1=((i+1:Nat):Int):=xP i 1 h
theorem zFo {α:Type} (l:List α) (i:Nat) (d:α) (h:i < l.length):l.getD i d=l[i]:=by simp [h]
theorem zAX {b n:Nat} (h:n * b<=140737488355328) (h2:n<=maxLen):okN b n=true:=by simp [okN,h,h2]
theorem zFs (a b:Int):ieq a b=decide (a=b):=by unfold ieq; by_cases h:a=b <;> simp [h]
theorem zFu (a b:Int):ine a b = !decide (a=b):=by unfold ine; by_cases h:a=b <;> simp [h]
theorem zBH (a b:List UInt8):seq a b=decide (a=b):=by unfold seq; by_cases h:a=b <;> simp [h]
theorem zK9 {σ R:Type} {F:(σ->Option R)->σ->Option R} (P:Option R->Prop) (I:σ->Prop) (μ:σ->Nat) (step:∀ (rec:σ->Option R) s,I s->(∀ s',I s'->μ s' < μ s->P (rec s'))->P (F rec s)) :
 ∀ (n:Nat) (s:σ),I s->μ s < n->P (iter n F s):=by
 intro n
 induction n with
 | zero=>intro s _ h; omega
 | succ n ih=>
  intro s hs hn
  simp only [iter]
  exact step _ s hs fun s' hs' hlt=>ih s' hs' (by omega)
end
end Go.Den
namespace Go.Proofs.YtonnigoiklahdaaDoor
section
open Go.Al Go.Den
section
variable {ρ α:Type} {r t f:Option ρ} {a b:Int}
theorem xU (h1:a<=b->t=r) (h2:b < a->f=r):cond (ile a b) t f=r:=by
 unfold ile; by_cases h:a<=b
 · rw [decide_eq_true h]; exact h1 h
 · rw [decide_eq_false h]; exact h2 (by omega)
theorem zq (h1:a < b->t=r) (h2:b<=a->f=r):cond (ilt a b) t f=r:=by
 unfold ilt; by_cases h:a < b
 · rw [decide_eq_true h]; exact h1 h
 · rw [decide_eq_false h]; exact h2 (by omega)
theorem zx (h1:a=b->t=r) (h2:a≠b->f=r):cond (ieq a b) t f=r:=by
 rw [zFs]; by_cases h:a=b
 · rw [decide_eq_true h]; exact h1 h
 · rw [decide_eq_false h]; exact h2 h
theorem jC (h1:a≠b->t=r) (h2:a=b->f=r):cond (ine a b) t f=r:=by
 rw [zFu]; by_cases h:a=b
 · rw [decide_eq_true h]; exact h2 h
 · rw [decide_eq_false h]; exact h1 h
theorem zBC {c:Bool} (h1:c=true->t=r) (h2:c=false->f=r):cond c t f=r:=by
 cases c
 · exact h2 rfl
 · exact h1 rfl
theorem Q_not {c:Bool} (h1:c=false->t=r) (h2:c=true->f=r):cond (!c) t f=r:=by
 cases c
 · exact h1 rfl
 · exact h2 rfl
theorem Q_nile (h1:b < a->t=r) (h2:a<=b->f=r):cond (!(ile a b)) t f=r:=by
 unfold ile; by_cases h:a<=b
 · rw [decide_eq_true h]; exact h2 h
 · rw [decide_eq_false h]; exact h1 (by omega)
theorem zG {c:Bool} (h:c=true) (h1:t=r):cond c t f=r:=by rw [h]; exact h1
theorem zP {c:Bool} (h:c=false) (h1:f=r):cond c t f=r:=by rw [h]; exact h1
theorem zM {x:Option α} {v:α} {F:α->Option ρ} (h:x=some v) (h2:F v=r):Option.bind x F=r:=by subst h; exact h2
end
theorem ku {a b:Int} {n:Nat} (h1:0<=a) (h2:a<=b) (h3:b<=n):inS a b n=true:=by unfold inS; simp [h1,h2,h3]
theorem zb {a:Int} {n:Nat} (h1:0<=a) (h2:a < n):inB a n=true:=by unfold inB; simp [h1,h2]
theorem ile_t {a b:Int} (h:a<=b):ile a b=true:=decide_eq_true h
theorem ile_f {a b:Int} (h:b < a):ile a b=false:=decide_eq_false (by omega)
theorem xn {a b:Int} (h:a < b):ilt a b=true:=decide_eq_true h
theorem qu {a b:Int} (h:b<=a):ilt a b=false:=decide_eq_false (by omega)
theorem qW {a b:Int} (h:a=b):ieq a b=true:=by rw [zFs]; exact decide_eq_true h
theorem zBn {a b:Int} (h:a≠b):ieq a b=false:=by rw [zFs]; exact decide_eq_false h
theorem zKD {a b:Int} (h:a≠b):ine a b=true:=by rw [zFu,decide_eq_false h]; rfl
theorem zDe {a b:Int} (h:a=b):ine a b=false:=by rw [zFu,decide_eq_true h]; rfl
def suf43:List Str:=[[],[117],[85],[108],[76],[108,108],[76,76],[117,108],[117,76],[117,108,108],[117,76,76],[85,108],[85,76],[85,108,108],[85,76,76],[108,117],[108,85],[76,117],[76,85],[108,108,117],[108,108,85],[76,76,117],[76,76,85]]
def isSuf (x:Str):Bool:=suf43.contains x
noncomputable def c43 (x:Str×Unit):Option (Bool×Unit):=sh43 0 (fun _=>false) x.1
def digN (n:Nat):Nat:=if 48<=n/\n<=57 then n - 48 else if 97<=n/\n<=102 then n - 87 else if 65<=n/\n<=70 then n - 55 else 16
noncomputable def c42 (x:Int×Unit):Option (Int×Unit):=sh42 0 (fun _=>false) x.1
def numG (b:Nat):Nat->Str->Option (Nat×Str)
 | n,[]=>some (n,[])
 | n,c::r=>if b<=digN c.toNat then some (n,c::r) else if 9223372036854775808<=n * b+digN c.toNat then none else numG b (n * b+digN c.toNat) r
def numR (b:Nat) (t:Str):Int×Int×Unit:=
 match numG b 0 t with
 | none=>(0,91,())
 | some (n,r)=>if r.length=t.length then (0,91,()) else if isSuf r then ((n:Int),0,()) else (0,91,())
end
section
open Go.Al Go.Den
noncomputable def c14 (fu:Nat) (x:Str×Unit):Option (Int×Int×Unit):=sh14 fu c42 c43 (fun _=>false) x.1
def numS:Str->Int×Int×Unit
 | []=>numR 10 []
 | [a]=>if a=48 then numR 8 [a] else numR 10 [a]
 | a::b::r=>if a=48 then (if b=120\/b=88 then numR 16 r else numR 8 (a::b::r)) else numR 10 (a::b::r)
end
section
open Go.Al Go.Den
theorem k1:c18 60 60 60 ([49,32,43,32,50],())=some (3,()):=by kernel_rfl
theorem zKF:c8 60 60 60 ()=some (true,()):=by kernel_rfl
end
section
open Go.Al Go.Den
noncomputable def c16 (x:Str×Unit):Option (Int×Int×Unit):=sh16 0 (fun _=>false) x.1
def c8t (_:Unit):Option (Bool×Unit):=some (true,())
theorem ok8t:ConOk CC Tryd.prog 8 ⟨as8,rs8,c8t⟩:=by
 refine (ok8 60 60 60).sub ?_
 intro u y hy
 obtain rfl:y=(true,()):=by injection hy with hy; exact hy.symm
 obtain rfl:u=():=rfl
 exact zKF
end
section
open Go.Al Go.Den
def hd:Str->Int
 | []=>0
 | c::_=>(c.toNat:Int)
def letP (z:Int):Prop:=z=95\/(97<=z/\z<=122)\/(65<=z/\z<=90)
def digP (z:Int):Prop:=48<=z/\z<=57
def expP (z:Int):Prop:=z=101\/z=69\/z=112\/z=80
instance (z:Int):Decidable (letP z):=by unfold letP; exact inferInstance
instance (z:Int):Decidable (digP z):=by unfold digP; exact inferInstance
instance (z:Int):Decidable (expP z):=by unfold expP; exact inferInstance
def xo:Str->Nat
 | []=>0
 | c::r=>if letP (c.toNat:Int)\/digP (c.toNat:Int) then xo r+1 else 0
def ye:Str->Nat
 | []=>0
 | c::r=>if letP (c.toNat:Int) then xo r+1 else 0
theorem zIW (r:Str):xo r=if letP (hd r)\/digP (hd r) then xo (r.drop 1)+1 else 0:=by
 cases r with
 | nil=>rfl
 | cons c r=>rfl
theorem zIy (r:Str):ye r=if letP (hd r) then xo (r.drop 1)+1 else 0:=by
 cases r with
 | nil=>rfl
 | cons c r=>rfl
theorem zJw {r:Str} (h:hd r≠0):∃ c q,r=c::q:=by
 cases r with
 | nil=>exact absurd rfl h
 | cons c q=>exact ⟨c,q,rfl⟩
theorem zHx:∀ r:Str,xo r<=r.length
 | []=>Nat.le_refl _
 | c::r=>by
  have:=zHx r
  unfold xo
  split <;> simp only [List.length_cons] <;> omega
theorem zM6:∀ r:Str,ye r<=r.length
 | []=>Nat.le_refl _
 | c::r=>by
  have:=zHx r
  show (if letP (c.toNat:Int) then xo r+1 else 0)<=_
  split <;> simp only [List.length_cons] <;> omega
def aldP (z:Int):Prop:=letP z\/digP z\/z=46
instance (z:Int):Decidable (aldP z):=by unfold aldP; exact inferInstance
def numT:Str->Nat
 | []=>0
 | [c]=>if aldP (c.toNat:Int) then 1 else 0
 | c::d::r=>if expP (c.toNat:Int)/\((d.toNat:Int)=43\/(d.toNat:Int)=45) then numT r+2 else if aldP (c.toNat:Int) then numT (d::r)+1 else 0
theorem zJl (r:Str):numT r=if expP (hd r)/\(hd (r.drop 1)=43\/hd (r.drop 1)=45) then numT (r.drop 2)+2 else if aldP (hd r) then numT (r.drop 1)+1 else 0:=by
 match r with
 | []=>rfl
 | [c]=>
  have h:¬ (expP (hd [c])/\(hd (([c]:Str).drop 1)=43\/hd (([c]:Str).drop 1)=45)):=fun h=>by
   rcases h.2 with h | h
   · exact absurd (show (0:Int)=43 from h) (by omega)
   · exact absurd (show (0:Int)=45 from h) (by omega)
  rw [if_neg h]
  rfl
 | c::d::r=>rfl
theorem zGD:∀ r:Str,numT r<=r.length
 | []=>Nat.le_refl _
 | [c]=>by unfold numT; split <;> simp only [List.length_cons,List.length_nil] <;> omega
 | c::d::r=>by
  have h1:=zGD r
  have h2:=zGD (d::r)
  unfold numT
  simp only [List.length_cons] at h2 ⊢
  split
  · omega
  · split <;> omega
def numL (r:Str):Nat:=if digP (hd r)\/(hd r=46/\digP (hd (r.drop 1))) then numT (r.drop 1)+1 else 0
theorem zNz (r:Str):numL r<=r.length:=by
 unfold numL
 split
 · rename_i h
   have h0:hd r≠0:=by unfold digP at h; omega
   obtain ⟨c,q,rfl⟩:=zJw h0
   have:=zGD q
   simp only [List.drop_succ_cons,List.drop_zero,List.length_cons]
   omega
 · omega
def quoT (q:Int):Nat->Str->Nat
 | _,[]=>0
 | n,[c]=>if (c.toNat:Int)=q then (if q=39/\n=1 then 0 else n+1) else 0
 | n,c::d::r=>if (c.toNat:Int)=q then (if q=39/\n=1 then 0 else n+1) else if (c.toNat:Int)=10 then 0 else if (c.toNat:Int)=92 then (if (d.toNat:Int)=10 then 0 else quoT q (n+2) r) else quoT q (n+1) (d::r)
theorem zJW (q:Int) (n:Nat) (r:Str) (hr:r≠[]):quoT q n r=if hd r=q then (if q=39/\n=1 then 0 else n+1) else if hd r=10 then 0 else if hd r=92 then (if hd (r.drop 1)=10 then 0 else quoT q (n+2) (r.drop 2)) else quoT q (n+1) (r.drop 1):=by
 match r,hr with
 | [c],_=>
  show (if (c.toNat:Int)=q then _ else 0)=if (c.toNat:Int)=q then _ else if (c.toNat:Int)=10 then 0 else if (c.toNat:Int)=92 then (if (0:Int)=10 then 0 else 0) else 0
  simp
 | c::d::r,_=>rfl
theorem zFl (q:Int):∀ (n:Nat) (r:Str),quoT q n r<=n+r.length
 | _,[]=>Nat.zero_le _
 | n,[c]=>by unfold quoT; simp only [List.length_cons,List.length_nil]; split; (split <;> omega); omega
 | n,c::d::r=>by
  have h1:=zFl q (n+2) r
  have h2:=zFl q (n+1) (d::r)
  unfold quoT
  simp only [List.length_cons] at h2 ⊢
  split
  · split <;> omega
  · split
    · omega
    · split
      · split <;> omega
      · omega
def quoL (q:Int) (r:Str):Nat:=if hd r=q then quoT q 1 (r.drop 1) else 0
theorem zJV (q:Int) (hq:q≠0) (r:Str):quoL q r<=r.length:=by
 unfold quoL
 split
 · rename_i h
   obtain ⟨c,p,rfl⟩:=zJw (r:=r) (by rw [h]; exact hq)
   have:=zFl q 1 p
   simp only [List.drop_succ_cons,List.drop_zero,List.length_cons]
   omega
 · omega
def qT:List Str->Nat->Str->Nat
 | [],n,_=>n
 | t::l,n,r=>qT l (if t.length<=n then n else if t.isPrefixOf r then t.length else n) r
def xe (r:Str):Nat:=qT signsL 0 r
theorem zH4 (r:Str):∀ (l:List Str) (n:Nat),n<=r.length->qT l n r<=r.length
 | [],n,h=>h
 | t::l,n,h=>zH4 r l _ (by
  split
  · exact h
  · split
    · rename_i hp; exact (List.isPrefixOf_iff_prefix.1 hp).length_le
    · exact h)
theorem zIz (r:Str):xe r<=r.length:=zH4 r _ 0 (Nat.zero_le _)
def blaL (r:Str):Nat:=
 if hd r=32\/hd r=9\/hd r=11\/hd r=12\/hd r=13 then 1
 else if ([47,47]:Str).isPrefixOf r then (if Lib.indexByte r 10 < 0 then r.length else (Lib.indexByte r 10).toNat)
 else if ([47,42]:Str).isPrefixOf r then (if Lib.index (r.drop 2) [42,47] < 0 then 0 else (Lib.index (r.drop 2) [42,47]).toNat+4)
 else 0
def z6 (r:Str):Int×Nat:=
 if hd r=10 then (7,1)
 else if 0 < ye r then (1,ye r)
 else if 0 < numL r then (2,numL r)
 else if 0 < quoL 34 r then (4,quoL 34 r)
 else if 0 < quoL 39 r then (3,quoL 39 r)
 else if 0 < xe r then (5,xe r)
 else (6,1)
theorem zGi (P:Int×Nat->Prop) (r:Str) (h0:hd r=10->P (7,1)) (h1:0 < ye r->P (1,ye r)) (h2:0 < numL r->P (2,numL r)) (h3:0 < quoL 34 r->P (4,quoL 34 r)) (h4:0 < quoL 39 r->P (3,quoL 39 r)) (h5:0 < xe r->P (5,xe r)) (h6:P (6,1)):P (z6 r):=by
 unfold z6
 split
 · rename_i h; exact h0 h
 split
 · rename_i h; exact h1 h
 split
 · rename_i h; exact h2 h
 split
 · rename_i h; exact h3 h
 split
 · rename_i h; exact h4 h
 split
 · rename_i h; exact h5 h
 · exact h6
theorem ji (r:Str):0 < (z6 r).2:=by
 refine zGi (fun x=>0 < x.2) r (fun _=>?_) (fun h=>?_) (fun h=>?_) (fun h=>?_) (fun h=>?_) (fun h=>?_) ?_
 · show (0:Nat) < 1; omega
 · dsimp only; exact h
 · dsimp only; exact h
 · dsimp only; exact h
 · dsimp only; exact h
 · dsimp only; exact h
 · show (0:Nat) < 1; omega
theorem zEC (r:Str) (hr:r≠[]):(z6 r).2<=r.length:=by
 have h0:1<=r.length:=by cases r with
  | nil=>exact absurd rfl hr
  | cons c q=>simp
 refine zGi (fun x=>x.2<=r.length) r (fun _=>?_) (fun h=>?_) (fun h=>?_) (fun h=>?_) (fun h=>?_) (fun h=>?_) ?_
 · show 1<=r.length; exact h0
 · dsimp only; exact zM6 r
 · dsimp only; exact zNz r
 · dsimp only; exact zJV 34 (by omega) r
 · dsimp only; exact zJV 39 (by omega) r
 · dsimp only; exact zIz r
 · show 1<=r.length; exact h0
def lexF (file:Int) (cs:List CharT):Nat->Str->Nat->Bool->List TokT
 | 0,_,_,_=>[]
 | f+1,r,i,b=>if r=[] then [] else if 0 < blaL r then lexF file cs f (r.drop (blaL r)) (i+blaL r) true
  else ⟨(z6 r).1,r.take (z6 r).2,file,(cs.getD i yM).fat,(cs.getD (i+(z6 r).2 - 1) yM).fat+1,b⟩::lexF file cs f (r.drop (z6 r).2) (i+(z6 r).2) false
theorem zEs:∀ (s sub:List UInt8),0<=Lib.index s sub->Lib.index s sub+sub.length<=s.length
 | [],sub,h=>by
  unfold Lib.index at h ⊢
  cases sub with
  | nil=>simp
  | cons a l=>simp at h
 | b::l,sub,h=>by
  unfold Lib.index at h ⊢
  by_cases hp:sub.isPrefixOf (b::l)=true
  · rw [if_pos hp]
    have:=(List.isPrefixOf_iff_prefix.1 hp).length_le
    omega
  · rw [if_neg hp] at h ⊢
    by_cases h1:(Lib.index l sub == -1)=true
    · rw [if_pos h1] at h; omega
    · rw [if_neg h1] at h ⊢
      have h2:Lib.index l sub≠-1:=fun e=>h1 (by rw [e]; rfl)
      have h3:=Lib.index_ge l sub
      have h4:=zEs l sub (by omega)
      simp only [List.length_cons]
      omega
theorem zDF:∀ (s:List UInt8) (c:UInt8),0<=Lib.indexByte s c->Lib.indexByte s c < s.length
 | [],c,h=>by unfold Lib.indexByte at h; omega
 | b::l,c,h=>by
  unfold Lib.indexByte at h ⊢
  by_cases hp:(b == c)=true
  · rw [if_pos hp]; simp only [List.length_cons]; omega
  · rw [if_neg hp] at h ⊢
    by_cases h1:(Lib.indexByte l c == -1)=true
    · rw [if_pos h1] at h; omega
    · rw [if_neg h1] at h ⊢
      have h2:Lib.indexByte l c≠-1:=fun e=>h1 (by rw [e]; rfl)
      have h3:=Lib.indexByte_ge l c
      have h4:=zDF l c (by omega)
      simp only [List.length_cons]
      omega
theorem zF8 {s:List UInt8} {c:UInt8} (h:Lib.indexByte s c=0):s.head? = some c:=by
 cases s with
 | nil=>unfold Lib.indexByte at h; omega
 | cons b l=>
  unfold Lib.indexByte at h
  by_cases hp:(b == c)=true
  · have:=eq_of_beq hp; rw [this]; rfl
  · rw [if_neg hp] at h
    by_cases h1:(Lib.indexByte l c == -1)=true
    · rw [if_pos h1] at h; omega
    · rw [if_neg h1] at h
      have h2:Lib.indexByte l c≠-1:=fun e=>h1 (by rw [e]; rfl)
      have h3:=Lib.indexByte_ge l c
      omega
theorem zF0 (r:Str):blaL r<=r.length:=by
 unfold blaL
 split
 · rename_i h
   obtain ⟨c,q,rfl⟩:=zJw (r:=r) (by omega)
   simp
 split
 · split
   · exact Nat.le_refl _
   · have:=zDF r 10 (by omega)
     omega
 split
 · rename_i hp
   have h2:=(List.isPrefixOf_iff_prefix.1 hp).length_le
   have h3:(2:Nat)<=r.length:=h2
   split
   · omega
   · have:=zEs (r.drop 2) [42,47] (by omega)
     rw [List.length_drop] at this
     have e:(([42,47]:Str).length:Int)=2:=rfl
     rw [e] at this
     omega
 · omega
end
section
open Go.Al Go.Den
theorem zHz (s:Str) (j:Nat):kJ s (j:Int)=hd (s.drop j):=by
 unfold kJ
 split
 · rename_i h
   have hj:j < s.length:=by omega
   rw [zD,Int.toNat_natCast,List.drop_eq_getElem_cons hj,List.getD_eq_getElem?_getD,List.getElem?_eq_getElem hj]
   rfl
 · rename_i h
   rw [List.drop_eq_nil_of_le (by omega)]; rfl
theorem zBG {s:Str} {j:Nat} (h:hd (s.drop j)≠0):j < s.length:=by
 rcases Nat.lt_or_ge j s.length with h1 | h1
 · exact h1
 · rw [List.drop_eq_nil_of_le h1] at h; exact absurd rfl h
theorem zGF (r:Str):∃ c:UInt8,hd r=(c.toNat:Int):=by
 cases r with
 | nil=>exact ⟨0,rfl⟩
 | cons c q=>exact ⟨c,rfl⟩
theorem hd_nn (r:Str):0<=hd r:=by obtain ⟨c,h⟩:=zGF r; rw [h]; omega
theorem zGA {α:Type} (s:List α) (p:Nat):cutL s (p:Int) (lenI s)=s.drop p:=by
 unfold cutL lenI
 rw [Int.toNat_natCast,Int.toNat_natCast,List.take_length]
theorem zM7 {α:Type} (s:List α) (n:Nat):cutL s 0 (n:Int)=s.take n:=by
 unfold cutL
 rw [Int.toNat_natCast]; rfl
abbrev RO (α:Type):=Option (Option ((RdT×Unit)×α))
theorem jP {β:Type} {s:Str} {p:Int} {v:β} {o:RO β} (h:o=some (some (((s,p,()),()),v))):outD s o=some (v,p):=by rw [h]; exact if_pos rfl
def sh62L (l:List Str) (fu:Nat) (c57:(Str×Unit)->Str->Int->(Option ((Bool×Unit)×Int))) (x:((Str×(Int×Unit))×Unit)) (a:Unit):(Option (Option (((Str×(Int×Unit))×Unit)×(Int×Unit)))):=iter fu (fun (rec1:((Int×(Int×Unit))×((Str×(Int×Unit))×Unit))->Option (Option (((Str×(Int×Unit))×Unit)×(Int×Unit)))) (s1:((Int×(Int×Unit))×((Str×(Int×Unit))×Unit)))=>cond (ilt s1.1.2.1 48) (cond (inB s1.1.2.1 48) (cond (ile (lenI (α:=UInt8) (List.getD l (Int.toNat s1.1.2.1) [])) s1.1.1) (rec1 ((s1.1.1,((iadd .i64 s1.1.2.1 1),())),((s1.2.1.1,(s1.2.1.2.1,())),()))) (Option.bind (c57 ((List.getD l (Int.toNat s1.1.2.1) []),()) s1.2.1.1 s1.2.1.2.1) fun y0=>cond (!y0.1.1) (rec1 ((s1.1.1,((iadd .i64 s1.1.2.1 1),())),((s1.2.1.1,(y0.2,())),()))) (rec1 (((lenI (α:=UInt8) (List.getD l (Int.toNat s1.1.2.1) [])),((iadd .i64 s1.1.2.1 1),())),((s1.2.1.1,(y0.2,())),()))))) (none)) (some (some (((s1.2.1.1,(s1.2.1.2.1,())),()),(s1.1.1,()))))) ((0,(0,())),((x.1.1,(x.1.2.1,())),()))
theorem sh62_L (fu:Nat) (c57:(Str×PUnit)->Str->Int->(Option ((Bool×PUnit)×Int))) (x:((Str×(Int×PUnit))×PUnit)) (a:PUnit):sh62 fu c57 x a=sh62L signsL fu c57 x a:=by kernel_rfl
section
variable {s:Str} {p k:Nat} {fu:Nat}
theorem e56 (hs:s.length<=1090000) (hp:p+k<=2000000):c56 ((k:Int),()) s (p:Int)=some (hd (s.drop (p+k)),()):=by
 have h:c56 ((k:Int),()) s (p:Int)=some (kJ s ((p:Int)+(k:Int)),()):=if_pos ⟨by show (0:Int)<=p+k; omega,by show ((p:Int)+k) < _; omega,by omega⟩
 rw [h,<- Int.natCast_add,zHz]
theorem i1 (hk:k<=2000000):iadd .i64 (k:Int) 1=((k+1:Nat):Int):=by rw [zt _ _ (by omega) (by omega)]; omega
def expB:Str:=[101,69,112,80]
theorem zOJ:((List.range 256).all fun n=>decide ((0<=Lib.indexByte expB (UInt8.ofNat n))↔expP (n:Int)))=true:=by kernel_rfl
theorem e44x (r:Str):∃ v:Int,c44 (expB,(hd r,()))=some (v,())/\(0<=v↔expP (hd r)):=by
 obtain ⟨c,hc⟩:=zGF r
 refine ⟨_,rfl,?_⟩
 have h:decide ((0<=Lib.indexByte expB (UInt8.ofNat c.toNat))↔expP (c.toNat:Int))=true:=List.all_eq_true.1 zOJ c.toNat (List.mem_range.2 c.toNat_lt)
 have h2:=of_decide_eq_true h
 rw [hc]
 exact h2
variable (hs:s.length<=1090000) (hfu:s.length+100 < fu) (hp:p<=s.length)
include hs hfu hp
theorem e59:c59 fu () s (p:Int)=some ((((ye (s.drop p):Nat):Int),()),(p:Int)):=by
 refine jP (o:=sh59 fu c56 ((s,((p:Int),())),()) ()) ?_
 unfold sh59
 refine zy (fun st=>∃ k:Nat,st=((((k:Int),()),((s,((p:Int),())),())):(Int×PUnit)×(Str×Int×PUnit)×PUnit)/\p+k<=s.length/\ye (s.drop p)=k+(if k=0 then ye (s.drop (p+k)) else xo (s.drop (p+k)))) (fun st=>s.length - st.1.1.toNat) ?_ fu _ ⟨0,rfl,by omega,by simp⟩ (by dsimp only; omega)
 rintro rec st ⟨k,rfl,hk,hw⟩ hrec
 dsimp only
 have hc:c56 ((k:Int),()) s (p:Int)=some (hd (s.drop (p+k)),()):=e56 hs (by omega)
 have hz:=hd_nn (s.drop (p+k))
 have hstep:(if k=0 then ye (s.drop (p+k)) else xo (s.drop (p+k)))=if letP (hd (s.drop (p+k)))\/(0 < k/\digP (hd (s.drop (p+k)))) then xo (s.drop (p+k+1))+1 else 0:=by
  by_cases h0:k=0
  · subst h0
    rw [if_pos rfl,zIy,List.drop_drop]
    by_cases h1:letP (hd (s.drop (p+0)))
    · rw [if_pos h1,if_pos (.inl h1)]
    · rw [if_neg h1,if_neg (by rintro (h | ⟨h,_⟩); exact h1 h; omega)]
  · rw [if_neg h0,zIW,List.drop_drop]
    by_cases h1:letP (hd (s.drop (p+k)))\/digP (hd (s.drop (p+k)))
    · rw [if_pos h1,if_pos (by rcases h1 with h | h; exact .inl h; exact .inr ⟨by omega,h⟩)]
    · rw [if_neg h1,if_neg (by rintro (h | ⟨_,h⟩); exact h1 (.inl h); exact h1 (.inr h))]
 rw [hstep] at hw
 have hpos:hd (s.drop (p+k))≠0->p+k < s.length:=zBG
 generalize hd (s.drop (p+k))=z at hz hw hpos hc
 have go:(letP z\/(0 < k/\digP z))->rec (((iadd .i64 (k:Int) 1),()),((s,((p:Int),())),()))=some (some (((s,(p:Int),()),()),(((ye (s.drop p):Nat):Int),()))):=fun h=>by
  have h2:p+k < s.length:=hpos (by unfold letP digP at h; omega)
  rw [if_pos h] at hw
  rw [i1 (by omega)]
  exact hrec _ ⟨k+1,rfl,h2,by rw [if_neg (by omega),hw,Nat.add_assoc p k 1]; omega⟩ (by dsimp only; omega)
 have stop:¬ (letP z\/(0 < k/\digP z))->(some (some (((s,(p:Int),()),()),(((k:Nat):Int),()))):RO (Int×Unit))=some (some (((s,(p:Int),()),()),(((ye (s.drop p):Nat):Int),()))):=fun h=>by
  rw [if_neg h] at hw
  rw [hw]; rfl
 unfold letP digP at go stop
 refine zM hc ?_
 dsimp only
 repeat' (first
  | with_reducible exact hc
  | ((with_reducible refine go ?_); omega)
  | ((with_reducible refine stop ?_); omega)
  | (with_reducible refine zx (fun _=>?_) fun _=>?_)
  | (with_reducible refine xU (fun _=>?_) fun _=>?_)
  | (with_reducible refine zq (fun _=>?_) fun _=>?_)
  | ((with_reducible refine zM (v:=(z,())) ?_ ?_); rotate_left; dsimp only))
theorem zM5 (hp1:p+1<=s.length) {r:RO (Int×Unit)} (hr:r=some (some (((s,(p:Int),()),()),(((numT (s.drop (p+1))+1:Nat):Int),())))) {F:((Int×PUnit)×(Str×Int×PUnit)×PUnit->RO (Int×Unit))->(Int×PUnit)×(Str×Int×PUnit)×PUnit->RO (Int×Unit)}
 (hF:∀ (k:Nat) (z w:Int) rec,c56 ((k:Int),()) s (p:Int)=some (z,())->c56 (((k+1:Nat):Int),()) s (p:Int)=some (w,())->1<=k->k<=1100000 ->
  ((expP z/\(w=43\/w=45))->rec (((((k+2:Nat):Int)),()),((s,((p:Int),())),()))=r)->((¬ (expP z/\(w=43\/w=45))/\aldP z)->rec (((((k+1:Nat):Int)),()),((s,((p:Int),())),()))=r) ->
  ((¬ (expP z/\(w=43\/w=45))/\¬ aldP z)->(some (some (((s,(p:Int),()),()),((k:Int),()))):RO (Int×Unit))=r)->0<=z->z < 256->(∃ v:Int,c44 (expB,(z,()))=some (v,())/\(0<=v↔expP z))->F rec (((k:Int),()),((s,((p:Int),())),()))=r) :
 iter fu F ((1,()),((s,((p:Int),())),()))=r:=by
 obtain ⟨y,hy⟩:∃ y,r=some y:=⟨_,hr⟩
 rw [hy] at hF ⊢
 refine zy (fun st=>∃ k:Nat,st=((((k:Int),()),((s,((p:Int),())),())):(Int×PUnit)×(Str×Int×PUnit)×PUnit)/\1<=k/\p+k<=s.length/\numT (s.drop (p+1))+1=k+numT (s.drop (p+k))) (fun st=>s.length - st.1.1.toNat) ?_ fu _ ⟨1,rfl,by omega,by omega,by omega⟩ (by show s.length - (1:Int).toNat < fu; omega)
 rintro rec st ⟨k,rfl,hk1,hk,hw⟩ hrec
 rw [hy] at hr
 rw [zJl (s.drop (p+k)),List.drop_drop,List.drop_drop] at hw
 have hc:c56 ((k:Int),()) s (p:Int)=some (hd (s.drop (p+k)),()):=e56 hs (by omega)
 have hc1:c56 (((k+1:Nat):Int),()) s (p:Int)=some (hd (s.drop (p+k+1)),()):=by rw [e56 hs (by omega)]; rfl
 have hz:=hd_nn (s.drop (p+k))
 have hz2:hd (s.drop (p+k)) < 256:=by obtain ⟨c,h⟩:=zGF (s.drop (p+k)); rw [h]; have:=c.toNat_lt; omega
 have he:=e44x (s.drop (p+k))
 have hpos:hd (s.drop (p+k))≠0->p+k < s.length:=zBG
 have hpos1:hd (s.drop (p+k+1))≠0->p+k+1 < s.length:=zBG
 generalize hd (s.drop (p+k))=z at hz hz2 hw hpos hc he
 generalize hd (s.drop (p+k+1))=w at hw hpos1 hc1
 refine hF k z w rec hc hc1 hk1 (by omega) (fun h=>?_) (fun h=>?_) (fun h=>?_) hz hz2 he
 · rw [if_pos h] at hw
   have:=hpos1 (by omega)
   exact hrec _ ⟨k+2,rfl,by omega,by omega,by rw [<- Nat.add_assoc p k 2]; omega⟩ (by dsimp only; omega)
 · rw [if_neg h.1,if_pos h.2] at hw
   have:=hpos (by have:=h.2; unfold aldP letP digP at this; omega)
   exact hrec _ ⟨k+1,rfl,by omega,by omega,by rw [<- Nat.add_assoc p k 1]; omega⟩ (by dsimp only; omega)
 · rw [if_neg h.1,if_neg h.2] at hw
   rw [hr,hw]; rfl
theorem e60:c60 fu () s (p:Int)=some ((((numL (s.drop p):Nat):Int),()),(p:Int)):=by
 unfold c60 mD
 refine jP ?_
 show sh60 fu c44 c56 ((s,((p:Int),())),()) ()=(some (some (((s,(p:Int),()),()),(((numL (s.drop p):Nat):Int),()))):RO (Int×Unit))
 unfold sh60
 dsimp only
 have hc:c56 ((0:Int),()) s (p:Int)=some (hd (s.drop p),()):=e56 (k:=0) hs (by omega)
 have hc1:c56 ((1:Int),()) s (p:Int)=some (hd (s.drop (p+1)),()):=e56 (k:=1) hs (by omega)
 have hn:numL (s.drop p)=if digP (hd (s.drop p))\/(hd (s.drop p)=46/\digP (hd (s.drop (p+1)))) then numT (s.drop (p+1))+1 else 0:=by
  unfold numL
  rw [List.drop_drop]
 have hpos:hd (s.drop p)≠0->p < s.length:=zBG
 generalize hd (s.drop p)=z at hc hn hpos
 generalize hd (s.drop (p+1))=w at hc1 hn
 have no:¬ (digP z\/(z=46/\digP w))->(some (some (((s,(p:Int),()),()),((0:Int),()))):RO (Int×Unit))=some (some (((s,(p:Int),()),()),(((numL (s.drop p):Nat):Int),()))):=fun h=>by
  rw [hn,if_neg h]; rfl
 have go:∀ {F:((Int×PUnit)×(Str×Int×PUnit)×PUnit->RO (Int×Unit))->(Int×PUnit)×(Str×Int×PUnit)×PUnit->RO (Int×Unit)},(digP z\/(z=46/\digP w)) ->
  (∀ (k:Nat) (z w:Int) rec (r:RO (Int×Unit)),c56 ((k:Int),()) s (p:Int)=some (z,())->c56 (((k+1:Nat):Int),()) s (p:Int)=some (w,())->1<=k->k<=1100000 ->
   ((expP z/\(w=43\/w=45))->rec (((((k+2:Nat):Int)),()),((s,((p:Int),())),()))=r)->((¬ (expP z/\(w=43\/w=45))/\aldP z)->rec (((((k+1:Nat):Int)),()),((s,((p:Int),())),()))=r) ->
   ((¬ (expP z/\(w=43\/w=45))/\¬ aldP z)->(some (some (((s,(p:Int),()),()),((k:Int),()))):RO (Int×Unit))=r)->0<=z->z < 256->(∃ v:Int,c44 (expB,(z,()))=some (v,())/\(0<=v↔expP z))->F rec (((k:Int),()),((s,((p:Int),())),()))=r) ->
  iter fu F ((1,()),((s,((p:Int),())),()))=some (some (((s,(p:Int),()),()),(((numL (s.drop p):Nat):Int),()))):=fun h hF=>by
  have h1:=hpos (by unfold digP at h; omega)
  rw [hn,if_pos h]
  exact zM5 hs hfu hp (by omega) rfl fun k z w rec a1 a2 a3 a4 a5 a6 a7 a8 a9 a10=>hF k z w rec _ a1 a2 a3 a4 a5 a6 a7 a8 a9 a10
 unfold digP at no go
 refine zM hc ?_
 dsimp only
 repeat' (first
  | with_reducible exact hc
  | with_reducible exact hc1
  | ((with_reducible refine no ?_); omega)
  | ((with_reducible refine go ?_ ?_); omega)
  | (with_reducible refine jC (fun _=>?_) fun _=>?_)
  | (with_reducible refine Q_nile (fun _=>?_) fun _=>?_)
  | (with_reducible refine xU (fun _=>?_) fun _=>?_)
  | ((with_reducible refine zM (v:=(z,())) hc ?_); dsimp only)
  | ((with_reducible refine zM (v:=(w,())) hc1 ?_); dsimp only))
 all_goals
  clear no go hn hpos hc hc1
  intro k z w rec r hc hc1 hk1 hk2 go2 go1 stop hz hz2 he
  obtain ⟨v,he1,he2⟩:=he
  dsimp only
  have e2:iadd .i64 (k:Int) 2=((k+2:Nat):Int):=by rw [zt _ _ (by omega) (by omega)]; omega
  rw [i1 (k:=k) (by omega),e2]
  unfold expP aldP letP digP at *
  refine zM hc (zM hc1 (zM he1 ?_))
  dsimp only
  repeat' (first
   | ((with_reducible refine go2 ?_); omega)
   | ((with_reducible refine go1 ?_); omega)
   | ((with_reducible refine stop ?_); omega)
   | (with_reducible refine zx (fun _=>?_) fun _=>?_)
   | (with_reducible refine xU (fun _=>?_) fun _=>?_))
theorem e61 (q:Int):c61 fu (q,()) s (p:Int)=some ((((quoL q (s.drop p):Nat):Int),()),(p:Int)):=by
 unfold c61 mD
 refine jP ?_
 show sh61 fu c56 ((s,((p:Int),())),()) (q,())=(some (some (((s,(p:Int),()),()),(((quoL q (s.drop p):Nat):Int),()))):RO (Int×Unit))
 unfold sh61
 dsimp only
 have hc:c56 ((0:Int),()) s (p:Int)=some (hd (s.drop p),()):=e56 (k:=0) hs (by omega)
 have hn:quoL q (s.drop p)=if hd (s.drop p)=q then quoT q 1 (s.drop (p+1)) else 0:=by
  unfold quoL
  rw [List.drop_drop]
 have hend:s.length<=p->hd (s.drop p)=0/\quoT q 1 (s.drop (p+1))=0:=fun h=>by
  rw [List.drop_eq_nil_of_le h,List.drop_eq_nil_of_le (show s.length<=p+1 by omega)]
  exact ⟨rfl,rfl⟩
 generalize hd (s.drop p)=z at hc hn hend
 with_reducible refine zx (fun h=>?_) fun h=>?_
 · have h1:=hend (by have:(p:Int)=(s.length:Int):=h; omega)
   rw [hn,h1.2]
   split <;> rfl
 refine zM hc ?_
 dsimp only
 with_reducible refine jC (fun h1=>?_) fun h1=>?_
 · rw [hn,if_neg h1]; rfl
 rw [hn,if_pos h1]
 refine zy (fun st=>∃ k:Nat,st=((((k:Int),()),((s,((p:Int),())),())):(Int×PUnit)×(Str×Int×PUnit)×PUnit)/\1<=k/\p+k<=s.length+1/\quoT q 1 (s.drop (p+1))=quoT q k (s.drop (p+k))) (fun st=>s.length+2 - st.1.1.toNat) ?_ fu _ ⟨1,rfl,by omega,by omega,rfl⟩ (by show s.length+2 - (1:Int).toNat < fu; omega)
 rintro rec st ⟨k,rfl,hk1,hk,hw⟩ hrec
 dsimp only
 rw [zt (p:Int) (k:Int) (by omega) (by omega),show lenI s=(s.length:Int) from rfl]
 with_reducible refine zq (fun h2=>?_) fun h2=>?_
 rotate_left
 · rw [hw,List.drop_eq_nil_of_le (by omega)]; rfl
 have hne:s.drop (p+k)≠[]:=fun e=>by
  have:=congrArg List.length e
  rw [List.length_drop,List.length_nil] at this
  omega
 rw [zJW q k _ hne,List.drop_drop,List.drop_drop] at hw
 have hc0:c56 ((k:Int),()) s (p:Int)=some (hd (s.drop (p+k)),()):=e56 hs (by omega)
 have hc1:c56 (((k+1:Nat):Int),()) s (p:Int)=some (hd (s.drop (p+k+1)),()):=by rw [e56 hs (by omega)]; rfl
 have hpos1:hd (s.drop (p+k+1))≠0->p+k+1 < s.length:=zBG
 generalize hd (s.drop (p+k))=y at hw hc0
 generalize hd (s.drop (p+k+1))=w at hw hc1 hpos1
 rw [i1 (k:=k) (by omega),i1 (k:=k+1) (by omega),zt (p:Int) ((k+1:Nat):Int) (by omega) (by omega)]
 refine zM hc0 ?_
 dsimp only
 with_reducible refine zx (fun a1=>?_) fun a1=>?_
 · rw [if_pos a1] at hw
   with_reducible refine zx (fun a2=>?_) fun a2=>?_
   · with_reducible refine zx (fun a3=>?_) fun a3=>?_
     · rw [if_pos ⟨a2,by omega⟩] at hw; rw [hw]; rfl
     · rw [if_neg fun h=>a3 (by omega)] at hw; rw [hw]
   · rw [if_neg fun h=>a2 h.1] at hw; rw [hw]
 rw [if_neg a1] at hw
 with_reducible refine zx (fun a2=>?_) fun a2=>?_
 · rw [if_pos a2] at hw; rw [hw]; rfl
 rw [if_neg a2] at hw
 with_reducible refine zx (fun a3=>?_) fun a3=>?_
 · rw [if_pos a3] at hw
   refine zM hc1 ?_
   dsimp only
   have go:¬ w=10->rec (((((k+1+1:Nat):Int)),()),((s,((p:Int),())),()))=some (some (((s,(p:Int),()),()),(((quoT q 1 (s.drop (p+1)):Nat):Int),()))):=fun a4=>by
    rw [if_neg a4] at hw
    exact hrec _ ⟨k+1+1,rfl,by omega,by omega,by rw [hw,<- Nat.add_assoc p (k+1) 1,<- Nat.add_assoc p k 1]⟩ (by dsimp only; omega)
   with_reducible refine zx (fun a4=>?_) fun a4=>?_
   · have h5:=hpos1 (by omega)
     rw [if_pos a4] at hw
     with_reducible refine zq (fun a5=>?_) fun a5=>?_
     · rw [hw]; rfl
     · exfalso; omega
   · exact go a4
 · rw [if_neg a3] at hw
   exact hrec _ ⟨k+1,rfl,by omega,by omega,by rw [hw,<- Nat.add_assoc p k 1]⟩ (by dsimp only; omega)
theorem e57 (t:Str):c57 (t,()) s (p:Int)=some ((t.isPrefixOf (s.drop p),()),(p:Int)):=by
 unfold c57 mD
 refine jP ?_
 show sh57 0 ((s,((p:Int),())),()) (t,())=(some (some (((s,(p:Int),()),()),(t.isPrefixOf (s.drop p),()))):RO (Bool×Unit))
 unfold sh57
 dsimp only
 rw [zGA]
 refine zG (ku (by omega) (by show (p:Int)<=(s.length:Int); omega) (Int.le_refl _)) ?_
 rw [show lenI t=(t.length:Int) from rfl,show lenI (s.drop p)=((s.drop p).length:Int) from rfl]
 with_reducible refine xU (fun h=>?_) fun h=>?_
 · refine zG (ku (by omega) (by omega) h) ?_
   rw [zM7]
   have e:seq ((s.drop p).take t.length) t=t.isPrefixOf (s.drop p):=by
    rw [zBH,Bool.eq_iff_iff,decide_eq_true_iff,List.isPrefixOf_iff_prefix,List.prefix_iff_eq_take]
    exact eq_comm
   rw [e]
 · have e:t.isPrefixOf (s.drop p)=false:=by
    cases hh:t.isPrefixOf (s.drop p)
    · rfl
    · have:=(List.isPrefixOf_iff_prefix.1 hh).length_le
      omega
   rw [e]
theorem e62 (hfu2:60 < fu):c62 fu () s (p:Int)=some ((((xe (s.drop p):Nat):Int),()),(p:Int)):=by
 unfold c62 mD
 refine jP ?_
 show sh62 fu c57 ((s,((p:Int),())),()) ()=(some (some (((s,(p:Int),()),()),(((xe (s.drop p):Nat):Int),()))):RO (Int×Unit))
 refine (sh62_L fu c57 ((s,((p:Int),())),()) ()).trans ?_
 have hl:signsL.length=48:=by rfl
 have hle:xe (s.drop p)<=1090000:=by have:=zIz (s.drop p); rw [List.length_drop] at this; omega
 unfold xe at hle ⊢
 generalize signsL=l at hl hle ⊢
 unfold sh62L
 refine zy (fun st=>∃ n j:Nat,st=((((n:Int),((j:Int),())),((s,((p:Int),())),())):(Int×Int×PUnit)×(Str×Int×PUnit)×PUnit)/\j<=48/\qT l 0 (s.drop p)=qT (l.drop j) n (s.drop p)) (fun st=>48 - st.1.2.1.toNat) ?_ fu _ ⟨0,0,rfl,by omega,rfl⟩ (by show 48 - (0:Int).toNat < fu; omega)
 rintro rec st ⟨n,j,rfl,hj,hw⟩ hrec
 dsimp only
 with_reducible refine zq (fun h=>?_) fun h=>?_
 rotate_left
 · rw [hw,List.drop_eq_nil_of_le (by omega)]; rfl
 refine zG (zb (by omega) h) ?_
 have hlt:j < l.length:=by omega
 have hg:l.getD (Int.toNat (j:Int)) []=l[j]:=by rw [Int.toNat_natCast,List.getD_eq_getElem?_getD,List.getElem?_eq_getElem hlt]; rfl
 rw [hg,i1 (k:=j) (by omega),show lenI l[j]=((l[j].length:Nat):Int) from rfl]
 rw [List.drop_eq_getElem_cons hlt,qT] at hw
 with_reducible refine xU (fun h1=>?_) fun h1=>?_
 · rw [if_pos (by omega)] at hw
   exact hrec _ ⟨n,j+1,rfl,by omega,hw⟩ (by dsimp only; omega)
 · rw [if_neg (by omega)] at hw
   refine zM (e57 hs hfu hp l[j]) ?_
   dsimp only
   refine Q_not (fun h2=>?_) fun h2=>?_
   · rw [if_neg (by rw [h2]; exact Bool.false_ne_true)] at hw
     exact hrec _ ⟨n,j+1,rfl,by omega,hw⟩ (by dsimp only; omega)
   · rw [if_pos h2] at hw
     exact hrec _ ⟨l[j].length,j+1,rfl,by omega,hw⟩ (by dsimp only; omega)
end
end
section
open Go.Al Go.Den
theorem zMp {σ R:Type} (F:(σ->Option R)->Option R) (j:σ->Option R):zAb F j=F j:=by
 have h:True/\zAb F j=F j:=⟨trivial,rfl⟩
 exact h.2
theorem zLe {r:Str} (h:([47,47]:Str).isPrefixOf r=true) (h2:0<=Lib.indexByte r 10):0 < (Lib.indexByte r 10).toNat:=by
 have h3:Lib.indexByte r 10≠0:=fun e=>by
  have e3:=zF8 e
  have e4:=List.isPrefixOf_iff_prefix.1 h
  obtain ⟨t,rfl⟩:=e4
  have e5:some (47:UInt8)=some 10:=e3
  revert e5
  decide
 omega
section
variable {s:Str} {p:Nat} {fu:Nat} (hs:s.length<=1090000) (hfu:s.length+100 < fu) (hp:p<=s.length)
include hs hfu hp
theorem e29:c29 fu () s (p:Int)=some ((decide (0 < blaL (s.drop p)),()),((p+blaL (s.drop p):Nat):Int)):=by
 unfold c29 mD
 refine jP ?_
 show sh29 fu c44 c58 c56 c57 ((s,((p:Int),())),()) ()=(some (some (((s,((p+blaL (s.drop p):Nat):Int),()),()),(decide (0 < blaL (s.drop p)),()))):RO (Bool×Unit))
 have hb:=zF0 (s.drop p)
 rw [List.length_drop] at hb
 obtain ⟨B,hB⟩:∃ B,B=blaL (s.drop p):=⟨_,rfl⟩
 rw [<- hB] at hb ⊢
 unfold blaL at hB
 unfold sh29
 simp only [zMp]
 have hc:c56 ((0:Int),()) s (p:Int)=some (hd (s.drop p),()):=e56 (k:=0) hs (by omega)
 have hpos:hd (s.drop p)≠0->p < s.length:=zBG
 refine zM hc ?_
 dsimp only
 have rest:¬ (hd (s.drop p)=32\/hd (s.drop p)=9\/hd (s.drop p)=11\/hd (s.drop p)=12\/hd (s.drop p)=13)->(Option.bind (c57 ([47,47],()) s (p:Int)) fun y0=>
  cond y0.1.1
   (cond (inS y0.2 (lenI s) (List.length s))
    (Option.bind (c44 ((cutL s y0.2 (lenI s)),(10,()))) fun y1=>
     cond (ilt y1.1 0)
      (some (Option.some (((s,((iadd .i64 y0.2 (isub .i64 (lenI s) y0.2)),())),()),(true,()))))
      (some (Option.some (((s,((iadd .i64 y0.2 y1.1),())),()),(true,())))))
    (none))
   (Option.bind (c57 ([47,42],()) s y0.2) fun y1=>
    cond (!y1.1.1)
     (some (Option.some (((s,(y1.2,())),()),(false,()))))
     (cond (inS (iadd .i64 y1.2 2) (lenI s) (List.length s))
      (Option.bind (c58 ((cutL s (iadd .i64 y1.2 2) (lenI s)),([42,47],()))) fun y2=>
       cond (ilt y2.1 0)
        (some (Option.some (((s,(y1.2,())),()),(false,()))))
        (some (Option.some (((s,((iadd .i64 y1.2 (iadd .i64 y2.1 4)),())),()),(true,())))))
      (none))))=(some (some (((s,((p+B:Nat):Int),()),()),(decide (0 < B),()))):RO (Bool×Unit)):=fun hn=>by
  rw [if_neg hn] at hB
  refine zM (e57 hs hfu hp [47,47]) ?_
  dsimp only
  refine zBC (fun h1=>?_) fun h1=>?_
  · rw [if_pos h1] at hB
    refine zG (ku (by omega) (by show (p:Int)<=(s.length:Int); omega) (Int.le_refl _)) ?_
    rw [zGA]
    have hpl:=(List.isPrefixOf_iff_prefix.1 h1).length_le
    rw [List.length_drop] at hpl
    have hpl2:2<=s.length - p:=hpl
    refine zM (show c44 (s.drop p,10,())=some (Lib.indexByte (s.drop p) 10,()) from rfl) ?_
    dsimp only
    have h3:=zLe h1
    with_reducible refine zq (fun h2=>?_) fun h2=>?_
    · rw [if_pos h2,List.length_drop] at hB
      have e1:isub .i64 (lenI s) (p:Int)=(s.length:Int) - p:=zFi _ _ (by show _<=(s.length:Int) - p; omega) (by show (s.length:Int) - p<=_; omega)
      rw [e1,zt _ _ (by omega) (by omega),decide_eq_true (show 0 < B by omega)]
      have e2:(p:Int)+((s.length:Int) - p)=((p+B:Nat):Int):=by omega
      rw [e2]
    · rw [if_neg (by omega)] at hB
      have h4:=h3 h2
      rw [zt _ _ (by omega) (by omega),decide_eq_true (show 0 < B by omega)]
      have e2:(p:Int)+Lib.indexByte (s.drop p) 10=((p+B:Nat):Int):=by omega
      rw [e2]
  · rw [if_neg (by rw [h1]; exact Bool.false_ne_true)] at hB
    refine zM (e57 hs hfu hp [47,42]) ?_
    dsimp only
    refine Q_not (fun h2=>?_) fun h2=>?_
    · rw [if_neg (by rw [h2]; exact Bool.false_ne_true)] at hB
      subst hB
      rfl
    rw [if_pos h2] at hB
    have hpl:=(List.isPrefixOf_iff_prefix.1 h2).length_le
    rw [List.length_drop] at hpl
    have hpl2:2<=s.length - p:=hpl
    have e1:iadd .i64 (p:Int) 2=((p+2:Nat):Int):=by rw [zt _ _ (by omega) (by omega)]; omega
    rw [e1]
    refine zG (ku (by omega) (by show ((p+2:Nat):Int)<=(s.length:Int); omega) (Int.le_refl _)) ?_
    rw [zGA,<- List.drop_drop]
    have hl2:((s.drop p).drop 2).length < 4294967281:=by rw [List.length_drop,List.length_drop]; omega
    have hix:=zEs ((s.drop p).drop 2) [42,47]
    rw [List.length_drop,List.length_drop] at hix
    have e5:(([42,47]:Str).length:Int)=2:=rfl
    rw [e5] at hix
    refine zM (show c58 ((s.drop p).drop 2,[42,47],())=some (Lib.index ((s.drop p).drop 2) [42,47],()) from if_pos hl2) ?_
    dsimp only
    generalize Lib.index ((s.drop p).drop 2) [42,47]=v at hB hix ⊢
    with_reducible refine zq (fun h3=>?_) fun h3=>?_
    · rw [if_pos h3] at hB
      subst hB
      rfl
    · rw [if_neg (by omega)] at hB
      have h6:=hix h3
      rw [zt v 4 (by omega) (by omega),zt _ _ (by omega) (by omega),decide_eq_true (show 0 < B by omega)]
      have e2:(p:Int)+(v+4)=((p+B:Nat):Int):=by omega
      rw [e2]
 have one:(hd (s.drop p)=32\/hd (s.drop p)=9\/hd (s.drop p)=11\/hd (s.drop p)=12\/hd (s.drop p)=13)->(some (some (((s,(iadd .i64 (p:Int) 1),()),()),(true,()))):RO (Bool×Unit))=some (some (((s,((p+B:Nat):Int),()),()),(decide (0 < B),()))):=fun h=>by
  rw [if_pos h] at hB
  subst hB
  rw [i1 (k:=p) (by omega)]; rfl
 generalize hd (s.drop p)=z at rest one
 with_reducible refine zx (fun h1=>?_) fun h1=>?_
 · exact one (by omega)
 with_reducible refine zx (fun h2=>?_) fun h2=>?_
 · exact one (by omega)
 with_reducible refine zx (fun h3=>?_) fun h3=>?_
 · exact one (by omega)
 with_reducible refine zx (fun h4=>?_) fun h4=>?_
 · exact one (by omega)
 with_reducible refine zx (fun h5=>?_) fun h5=>?_
 · exact one (by omega)
 · exact rest (by omega)
theorem e30:c30 fu () s (p:Int)=some (((z6 (s.drop p)).1,(((z6 (s.drop p)).2:Nat):Int),()),(p:Int)):=by
 unfold c30 mD
 refine jP ?_
 show sh30 fu c57 (c59 fu) (c60 fu) (c61 fu) (c62 fu) ((s,((p:Int),())),()) ()=(some (some (((s,(p:Int),()),()),((z6 (s.drop p)).1,(((z6 (s.drop p)).2:Nat):Int),()))):RO (Int×Int×Unit))
 unfold sh30
 dsimp only
 have h10:([10]:Str).isPrefixOf (s.drop p)=decide (hd (s.drop p)=10):=by
  cases s.drop p with
  | nil=>rfl
  | cons c q=>
   rw [Bool.eq_iff_iff,decide_eq_true_iff]
   show ((10 == c) && true)=true↔(c.toNat:Int)=10
   rw [Bool.and_true,beq_iff_eq]
   refine ⟨fun h=>by rw [<- h]; rfl,fun h=>?_⟩
   apply UInt8.toNat_inj.1
   show 10=c.toNat
   omega
 have h1:=e59 hs hfu hp
 have h2:=e60 hs hfu hp
 have h3:=e61 hs hfu hp 34
 have h4:=e61 hs hfu hp 39
 have h5:=e62 hs hfu hp (by omega)
 have h0:=e57 hs hfu hp [10]
 rw [h10] at h0
 unfold z6
 generalize ye (s.drop p)=w at h1 ⊢
 generalize numL (s.drop p)=n at h2 ⊢
 generalize quoL 34 (s.drop p)=q at h3 ⊢
 generalize quoL 39 (s.drop p)=q' at h4 ⊢
 generalize xe (s.drop p)=g at h5 ⊢
 generalize hd (s.drop p)=z at h0 ⊢
 refine zM h0 ?_
 dsimp only
 refine zBC (fun a=>?_) fun a=>?_
 · rw [if_pos (of_decide_eq_true a)]; rfl
 rw [if_neg (of_decide_eq_false a)]
 refine zM h1 ?_
 dsimp only
 with_reducible refine zq (fun a=>?_) fun a=>?_
 · rw [if_pos (by omega)]
 rw [if_neg (by omega)]
 refine zM h2 ?_
 dsimp only
 with_reducible refine zq (fun a=>?_) fun a=>?_
 · rw [if_pos (by omega)]
 rw [if_neg (by omega)]
 refine zM h3 ?_
 dsimp only
 with_reducible refine zq (fun a=>?_) fun a=>?_
 · rw [if_pos (by omega)]
 rw [if_neg (by omega)]
 refine zM h4 ?_
 dsimp only
 with_reducible refine zq (fun a=>?_) fun a=>?_
 · rw [if_pos (by omega)]
 rw [if_neg (by omega)]
 refine zM h5 ?_
 dsimp only
 with_reducible refine zq (fun a=>?_) fun a=>?_
 · rw [if_pos (by omega)]
 rw [if_neg (by omega)]
 rfl
end
end
section
open Go.Al Go.Den
def lvl:List (Str×Int)->Str->Int
 | [],_=>0
 | (t,n)::r,x=>if x=t then n else lvl r x
def lvL:List (Str×Int):=[([124,124],1),([38,38],2),([124],3),([94],4),([38],5),([61,61],6),([33,61],6),([60],7),([62],7),([60,61],7),([62,61],7),([60,60],8),([62,62],8),([43],9),([45],9),([42],10),([47],10),([37],10)]
def lv (x:Str):Int:=lvl lvL x
def sg:List TokT->Str
 | []=>[]
 | t::_=>if t.kind=5 then t.text else []
abbrev PR:=VT×List TokT×Int
noncomputable def atomV (t:TokT):Option (Int×Int):=
 if t.kind=2 then some ((numS t.text).1,(numS t.text).2.1)
 else if t.kind=3 then some (((c16 (t.text,())).getD (0,(91,()))).1,((c16 (t.text,())).getD (0,(91,()))).2.1)
 else if t.kind=1 then some (0,0)
 else none
def pLoop (bin:Int->List TokT->Int->Option PR) (least:Int):Nat->VT->List TokT->Int->Option PR
 | 0,_,_,_=>none
 | k+1,x,l,b=>if lv (sg l) < least\/lv (sg l)=0 then some (x,l,b)
  else (bin (lv (sg l)+1) (l.drop 1) b).bind fun y=>pLoop bin least k (.bin (sg l) x y.1) y.2.1 y.2.2
structure PF where
 cho:Nat->List TokT->Int->Option PR
 bin:Int->Nat->List TokT->Int->Option PR
 inn:Nat->List TokT->Int->Option PR
 un:Nat->List TokT->Int->Option PR
 at1:Nat->List TokT->Int->Option PR
noncomputable def hdA:List TokT->Int->Option PR
 | [],_=>none
 | t::r,b=>(atomV t).bind fun v=>some (.num v.1,r,if b=0 then v.2 else b)
def isUn (s:Str):Prop:=s=[43]\/s=[45]\/s=[33]\/s=[126]
instance (s:Str):Decidable (isUn s):=by unfold isUn; exact inferInstance
noncomputable def pf:Nat->PF
 | 0=>⟨fun _ _ _=>none,fun _ _ _ _=>none,fun _ _ _=>none,fun _ _ _=>none,fun _ _ _=>none⟩
 | m+1=>⟨fun d l b=>((pf m).bin 1 d l b).bind fun c=>if sg c.2.1=[63] then ((pf m).inn d (c.2.1.drop 1) c.2.2).bind fun x=>if sg x.2.1=[58] then ((pf m).inn d (x.2.1.drop 1) x.2.2).bind fun y=>some (.cho c.1 x.1 y.1,y.2.1,y.2.2) else none else some c,
  fun n d l b=>((pf m).un d l b).bind fun x=>pLoop (fun n l b=>(pf m).bin n d l b) n (x.2.1.length+1) x.1 x.2.1 x.2.2,
  fun d l b=>if d=60 then none else (pf m).cho (d+1) l b,
  fun d l b=>if isUn (sg l) then (if d=60 then none else ((pf m).un (d+1) (l.drop 1) b).bind fun x=>some (.un (sg l) x.1,x.2.1,x.2.2)) else (pf m).at1 d l b,
  fun d l b=>if sg l=[40] then ((pf m).inn d (l.drop 1) b).bind fun x=>if sg x.2.1=[41] then some (x.1,x.2.1.drop 1,x.2.2) else none
   else hdA l b⟩
def Out (nf:Bool) (l:List TokT) (o:Option PR) (run:Option ((VT×Unit)×ES)):Prop:=
 match o with
 | some y=>run=some ((y.1,()),((nf,y.2.1),false,y.2.2))/\y.2.1 <:+ l
 | none=>∃ x l' b',run=some ((x,()),((nf,l'),true,b'))
def wt (l:List TokT) (rank:Nat):Nat:=8 * l.length+rank
structure Reads (fu m:Nat) (nf:Bool) (l:List TokT):Prop where
 at1:wt l 1 < m->∀ (d:Nat) (b:Int),d<=60->Out nf l ((pf m).at1 d l b) ((rf fu m).c82 ((d:Int),()) ((nf,l),false,b))
 un:wt l 2 < m->∀ (d:Nat) (b:Int),d<=60->Out nf l ((pf m).un d l b) ((rf fu m).c73 ((d:Int),()) ((nf,l),false,b))
 bin:wt l 3 < m->∀ (n:Nat) (d:Nat) (b:Int),n<=11->d<=60->Out nf l ((pf m).bin (n:Int) d l b) ((rf fu m).c51 ((n:Int),(d:Int),()) ((nf,l),false,b))
 cho:wt l 4 < m->∀ (d:Nat) (b:Int),d<=60->Out nf l ((pf m).cho d l b) ((rf fu m).c26 ((d:Int),()) ((nf,l),false,b))
 inn:wt l 5 < m->∀ (d:Nat) (b:Int),d<=60->Out nf l ((pf m).inn d l b) ((rf fu m).c54 ((d:Int),()) ((nf,l),false,b))
section
variable {nf:Bool} {l l1:List TokT} {o o1:Option PR} {α:Type}
end
theorem zBJ {a b:Str} (h:a=b):seq a b=true:=by rw [zBH,decide_eq_true_iff]; exact h
theorem zCs {a b:Str} (h:a≠b):seq a b=false:=by rw [zBH,decide_eq_false_iff_not]; exact h
end
section
open Go.Al Go.Den
theorem zCt (file:Int) (cs:List CharT):∀ (f:Nat) (r:Str) (i:Nat) (b:Bool),r.length < f->lexF file cs f r i b=lexF file cs (f+1) r i b
 | 0,r,i,b,h=>by omega
 | f+1,r,i,b,h=>by
  rw [lexF,lexF]
  by_cases hr:r=[]
  · rw [if_pos hr,if_pos hr]
  rw [if_neg hr,if_neg hr]
  have hl:1<=r.length:=by cases r with
   | nil=>exact absurd rfl hr
   | cons c q=>simp
  by_cases hb:0 < blaL r
  · rw [if_pos hb,if_pos hb]
    exact zCt file cs f _ _ _ (by rw [List.length_drop]; omega)
  · rw [if_neg hb,if_neg hb]
    have:=ji r
    rw [zCt file cs f _ _ _ (by rw [List.length_drop]; omega)]
def lexA (file:Int) (cs:List CharT) (r:Str) (i:Nat) (b:Bool):List TokT:=lexF file cs (r.length+1) r i b
theorem zHf (file:Int) (cs:List CharT) (r:Str) (i:Nat) (b:Bool):∀ d:Nat,lexF file cs (r.length+1+d) r i b=lexA file cs r i b
 | 0=>rfl
 | d+1=>by rw [<- zHf file cs r i b d,Nat.add_succ]; exact (zCt file cs _ r i b (by omega)).symm
theorem zJt (file:Int) (cs:List CharT) (r:Str) (i:Nat) (b:Bool):lexA file cs r i b=if r=[] then [] else if 0 < blaL r then lexA file cs (r.drop (blaL r)) (i+blaL r) true
 else ⟨(z6 r).1,r.take (z6 r).2,file,(cs.getD i yM).fat,(cs.getD (i+(z6 r).2 - 1) yM).fat+1,b⟩::lexA file cs (r.drop (z6 r).2) (i+(z6 r).2) false:=by
 rw [lexA,lexF]
 by_cases hr:r=[]
 · rw [if_pos hr,if_pos hr]
 rw [if_neg hr,if_neg hr]
 have hl:1<=r.length:=by cases r with
  | nil=>exact absurd rfl hr
  | cons c q=>simp
 have key:∀ (n:Nat) (i:Nat) (b:Bool),0 < n->lexF file cs r.length (r.drop n) i b=lexA file cs (r.drop n) i b:=fun n i b hn=>by
  have h:=zHf file cs (r.drop n) i b (r.length - ((r.drop n).length+1))
  have h2:(r.drop n).length+1<=r.length:=by rw [List.length_drop]; omega
  rw [Nat.add_sub_cancel' h2] at h
  exact h
 by_cases hb:0 < blaL r
 · rw [if_pos hb,if_pos hb,key _ _ _ hb]
 · rw [if_neg hb,if_neg hb,key _ _ _ (ji r)]
def txt (cs:List CharT):Str:=cs.map fun c=>UInt8.ofNat c.b.toNat
def tokS (file:Int) (t:Str):List TokT:=lexA file (chG t 0) (txt (chG t 0)) 0 false
theorem zFx:∀ (s:List UInt8) (i:Nat),∀ c ∈ chG s i,(i:Int)<=c.fat/\c.fat < i+s.length
 | [],_,c,h=>by simp [chG] at h
 | [a],i,c,h=>by
  simp only [chG,List.mem_singleton] at h
  subst h
  simp
  omega
 | a::d::r,i,c,h=>by
  unfold chG at h
  have h1:=zFx r (i+2) c
  have h2:=zFx (d::r) (i+1) c
  simp only [List.length_cons] at h2 ⊢
  cases hb:(a == 92 && d == 10) with
  | true=>
   rw [hb,cond_true] at h
   have:=h1 h
   push_cast at this ⊢
   omega
  | false=>
   rw [hb,cond_false,List.mem_cons] at h
   rcases h with rfl | h
   · push_cast; simp; omega
   · have:=h2 h
     push_cast at this ⊢
     omega
theorem zJi (t:Str) (j:Nat):0<=((chG t 0).getD j yM).fat/\((chG t 0).getD j yM).fat<=t.length:=by
 rw [List.getD_eq_getElem?_getD]
 by_cases h:j < (chG t 0).length
 · rw [List.getElem?_eq_getElem h]
   have:=zFx t 0 _ (List.getElem_mem h)
   show 0<=((chG t 0)[j]).fat/\((chG t 0)[j]).fat<=t.length
   omega
 · rw [List.getElem?_eq_none (by omega)]
   exact ⟨Int.le_refl _,by show (0:Int)<=_; omega⟩
set_option maxRecDepth 4000 in
theorem c10_eq (fu:Nat) (file:Int) (t:Str) (ht:t.length<=1090000) (hfu:t.length+100 < fu):c10 fu (file,t,())=some (tokS file t,()):=by
 show sh10 fu c27 c28 (c29 fu) (c30 fu) (fun _=>false) file t=_
 unfold sh10
 have hcl:=kR t 0
 have hl:(txt (chG t 0)).length=(chG t 0).length:=by unfold txt; rw [List.length_map]
 refine zM (show c27 (t,())=some (chG t 0,()) from if_pos (show t.length < 1100000 by omega)) ?_
 dsimp only
 refine zM (show c28 (chG t 0,())=some (txt (chG t 0),()) from if_pos (show (chG t 0).length < 1100000 by omega)) ?_
 dsimp only
 have hfat:=zJi t
 unfold tokS
 generalize hcs:chG t 0=cs at hcl hl hfat ⊢
 generalize hs:txt cs=s at hl ⊢
 have hs9:s.length<=1090000:=by omega
 have hf9:s.length+100 < fu:=by omega
 refine zy (fun st=>∃ (p:Nat) (out:List TokT),st=(((out,()),((s,((p:Int),())),())):(List TokT×PUnit)×(Str×Int×PUnit)×PUnit)/\p<=s.length/\out.length<=p/\out++lexA file cs (s.drop p) p false=lexA file cs s 0 false) (fun st=>s.length+1 - st.2.1.2.1.toNat) ?_ fu _ ⟨0,[],rfl,Nat.zero_le _,Nat.le_refl _,rfl⟩ (by show s.length+1 - (0:Int).toNat < fu; omega)
 rintro rec st ⟨p0,out,rfl,hp0,hout,hw⟩ hrec
 dsimp only
 refine zy (fun st=>∃ (p:Nat) (b:Bool),st=(((out,()),((s,((p:Int),())),((0,([],(file,(0,(0,(b,())))))),()))):(List TokT×PUnit)×(Str×Int×PUnit)×(Int×Str×Int×Int×Int×Bool×PUnit)×PUnit)/\p0<=p/\p<=s.length/\out++lexA file cs (s.drop p) p b=lexA file cs s 0 false) (fun st=>s.length+1 - st.2.1.2.1.toNat) ?_ fu _ ⟨p0,false,rfl,Nat.le_refl _,hp0,hw⟩ (by show s.length+1 - (p0:Int).toNat < fu; omega)
 clear hw
 rintro rec2 st ⟨p,b,rfl,hpp,hp,hw⟩ hrec2
 dsimp only
 rw [zJt] at hw
 have h29:=e29 hs9 hf9 hp
 have h30:=e30 hs9 hf9 hp
 have hbl:=zF0 (s.drop p)
 rw [List.length_drop] at hbl
 have hnp:=ji (s.drop p)
 have hnl:=zEC (s.drop p)
 rw [List.length_drop] at hnl
 rw [show lenI s=(s.length:Int) from rfl]
 generalize z6 (s.drop p)=kn at hw h30 hnp hnl
 obtain ⟨kk,n⟩:=kn
 dsimp only at hw h30 hnp hnl
 generalize blaL (s.drop p)=B at hw h29 hbl
 have he:¬ p < s.length->out=lexA file cs s 0 false:=fun h=>by
  rw [if_pos (List.drop_eq_nil_of_le (by omega)),List.append_nil] at hw
  exact hw
 have tok:p < s.length->B=0->(Option.bind (c30 fu () s (p:Int)) fun y3=>
  cond (inS y3.2 (iadd .i64 y3.2 y3.1.2.1) (List.length s))
   (cond (inB y3.2 (List.length cs))
    (cond (inB (isub .i64 (iadd .i64 y3.2 y3.1.2.1) 1) (List.length cs))
     (cond (okN 56 ((List.length out)+(List.length [(TokT.mk y3.1.1 (cutL s y3.2 (iadd .i64 y3.2 y3.1.2.1)) file (CharT.fat (List.getD cs (Int.toNat y3.2) yM)) (iadd .i64 (CharT.fat (List.getD cs (Int.toNat (isub .i64 (iadd .i64 y3.2 y3.1.2.1) 1)) yM)) 1) b)])))
      (rec (((out++[(TokT.mk y3.1.1 (cutL s y3.2 (iadd .i64 y3.2 y3.1.2.1)) file (CharT.fat (List.getD cs (Int.toNat y3.2) yM)) (iadd .i64 (CharT.fat (List.getD cs (Int.toNat (isub .i64 (iadd .i64 y3.2 y3.1.2.1) 1)) yM)) 1) b)]),()),((s,((iadd .i64 y3.2 y3.1.2.1),())),())))
      (none))
     (none))
    (none))
   (none))=some (lexA file cs s 0 false,()):=fun hlt hB=>by
  have hne:s.drop p≠[]:=fun e=>by
   have:=congrArg List.length e
   rw [List.length_drop,List.length_nil] at this
   omega
  have hn:=hnl hne
  rw [if_neg hne,if_neg (by omega)] at hw
  refine zM h30 ?_
  dsimp only
  have e1:iadd .i64 (p:Int) (n:Int)=((p+n:Nat):Int):=by rw [zt _ _ (by omega) (by omega)]; omega
  have e2:isub .i64 ((p+n:Nat):Int) 1=((p+n - 1:Nat):Int):=by rw [zFi _ _ (by omega) (by omega)]; omega
  rw [e1,e2,Int.toNat_natCast,Int.toNat_natCast]
  have hf:=hfat (p+n - 1)
  rw [zt _ 1 (by omega) (by omega)]
  refine zG (ku (by omega) (by omega) (by omega)) ?_
  refine zG (zb (by omega) (by omega)) ?_
  refine zG (zb (by omega) (by omega)) ?_
  refine zG (zAX (by rw [List.length_singleton]; omega) (by rw [List.length_singleton]; simp only [maxLen]; omega)) ?_
  have e3:cutL s (p:Int) ((p+n:Nat):Int)=(s.drop p).take n:=by
   unfold cutL
   rw [Int.toNat_natCast,Int.toNat_natCast,List.drop_take,Nat.add_sub_cancel_left]
  rw [e3]
  refine hrec _ ⟨p+n,_,rfl,by omega,by rw [List.length_append,List.length_singleton]; omega,?_⟩ (by dsimp only; omega)
  rw [List.append_assoc,List.singleton_append,<- List.drop_drop]
  exact hw
 with_reducible refine zq (fun h=>?_) fun h=>?_
 · have hlt:p < s.length:=by omega
   have hne:s.drop p≠[]:=fun e=>by
    have:=congrArg List.length e
    rw [List.length_drop,List.length_nil] at this
    omega
   refine zM h29 ?_
   dsimp only
   refine zBC (fun h1=>?_) fun h1=>?_
   · have hB:0 < B:=of_decide_eq_true h1
     rw [if_neg hne,if_pos hB,List.drop_drop] at hw
     exact hrec2 _ ⟨p+B,true,rfl,by omega,by omega,hw⟩ (by dsimp only; omega)
   · have hB:¬ 0 < B:=of_decide_eq_false h1
     obtain rfl:B=0:=by omega
     rw [Nat.add_zero]
     with_reducible refine xU (fun h2=>?_) fun h2=>?_
     · exfalso; omega
     · exact tok hlt rfl
 · with_reducible refine xU (fun h2=>?_) fun h2=>?_
   · rw [he (by omega)]
   · exfalso; omega
end
section
open Go.Al Go.Den
def noNl (l:List TokT):List TokT:=l.filter fun t=>decide (t.kind≠7)
theorem zJY (t:TokT):TokT.mk t.kind t.text t.file t.ffrom t.fto t.blank=t:=by cases t; rfl
end
section
open Go.Al Go.Den
noncomputable def k111:Str×Int×Int×Unit->Option (Int×Int×Unit):=c111
noncomputable def both (s:Str) (a b:Int):Int×Int:=
 let y:=(k111 (s,a,b,())).getD (0,0,())
 (y.1,y.2.1)
noncomputable def unV (s:Str) (a:Int):Int:=if s=[45] then isub .i64 0 a else if s=[33] then (if a=0 then 1 else 0) else if s=[126] then jnot .i64 a else a
noncomputable def vS:VT->Int×Int
 | .num n=>(n,0)
 | .un s x=>if (vS x).2=0 then (unV s (vS x).1,0) else (0,(vS x).2)
 | .bin s x y=>if (vS x).2=0 then (if s=[124,124]/\(vS x).1≠0 then (1,0) else if s=[38,38]/\(vS x).1=0 then (0,0) else if (vS y).2=0 then both s (vS x).1 (vS y).1 else (0,(vS y).2)) else (0,(vS x).2)
 | .cho c x y=>if (vS c).2=0 then (if (vS c).1=0 then vS y else vS x) else (0,(vS c).2)
noncomputable def evS (m:Nat) (l:List TokT):Int×Int:=
 match (pf m).cho 0 (noNl l) 0 with
 | none=>(0,90)
 | some y=>if y.2.1=[] then (if y.2.2=0 then vS y.1 else (0,y.2.2)) else (0,90)
noncomputable def evT (m:Nat) (t:Str):Int:=if (evS m (tokS 0 t)).2=0 then (evS m (tokS 0 t)).1 else isub .i64 (-1000) (evS m (tokS 0 t)).2
theorem zBU (file:Int) (cs:List CharT) (n:Nat):∀ (f:Nat) (r:Str) (i:Nat) (b:Bool),r.length<=n->(lexF file cs f r i b).length<=r.length/\∀ t ∈ lexF file cs f r i b,t.text.length<=n
 | 0,r,i,b,h=>⟨Nat.zero_le _,fun t ht=>by cases ht⟩
 | f+1,r,i,b,h=>by
  rw [lexF]
  by_cases hr:r=[]
  · rw [if_pos hr]; exact ⟨Nat.zero_le _,fun t ht=>by cases ht⟩
  rw [if_neg hr]
  by_cases hb:0 < blaL r
  · rw [if_pos hb]
    have hd:=List.length_drop (i:=blaL r) (l:=r)
    have ih:=zBU file cs n f (r.drop (blaL r)) (i+blaL r) true (by omega)
    exact ⟨by omega,ih.2⟩
  · rw [if_neg hb]
    have hp:=ji r
    have hl:=zEC r hr
    have hd:=List.length_drop (i:=(z6 r).2) (l:=r)
    have ih:=zBU file cs n f (r.drop (z6 r).2) (i+(z6 r).2) false (by omega)
    refine ⟨by rw [List.length_cons]; omega,fun t ht=>?_⟩
    rcases List.mem_cons.1 ht with rfl | ht
    · show (r.take (z6 r).2).length<=n
      rw [List.length_take]; omega
    · exact ih.2 t ht
theorem zKQ (file:Int) (t:Str):(tokS file t).length<=t.length/\∀ x ∈ tokS file t,x.text.length<=t.length:=by
 have h1:=kR t 0
 have h2:(txt (chG t 0)).length=(chG t 0).length:=by unfold txt; rw [List.length_map]
 have:=zBU file (chG t 0) t.length ((txt (chG t 0)).length+1) (txt (chG t 0)) 0 false (by omega)
 exact ⟨by have:=this.1; unfold tokS lexA; omega,this.2⟩
end
section
open Go.Al Go.Den
structure Dec (d:Str) (n:Nat):Prop where
 ne:d≠[]
 dig:∀ c ∈ d,48<=c.toNat/\c.toNat<=57
 num:numG 10 0 d=some (n,[])
 hd48:n≠0->d.head?≠some 48
 len:d.length<=10
 zero:n=0->d=[48]
end
section
open Go.Al Go.Den
def zOB:List Str:=[[124,124],[38,38],[124],[94],[38],[61,61],[33,61],[60],[62],[60,61],[62,61],[60,60],[62,62],[43],[45],[42],[47],[37]]
end
section
open Go.Al Go.Den
noncomputable def c49 (x:List TokT×Int×Str×Unit):Option (Bool×Unit):=sh49 0 (fun _=>false) x.1 x.2.1 x.2.2.1
theorem ok49:ConOk CC Tryd.prog 49 ⟨as49,rs49,c49⟩:=con49 0
noncomputable def c64 (x:Int×Unit):Option (List Str×Unit):=sh64 0 (fun _=>false) x.1
noncomputable def cR (fu:Nat):Nat->(List TokT×Int×Int×Int×Unit->Option (Nd×Int×Unit))×(List TokT×Int×Int×Unit->Option (Nd×Int×Unit))
 | 0=>(fun _=>none,fun _=>none)
 | k+1=>(fun x=>sh31 fu (cR fu k).1 c49 (cR fu k).2 c64 (fun _=>false) x.1 x.2.1 x.2.2.1 x.2.2.2.1,fun x=>sh63 fu (c14 fu) c16 (cR fu k).1 c49 (fun _=>false) x.1 x.2.1 x.2.2.1)
noncomputable def c31 (fu k:Nat):List TokT×Int×Int×Int×Unit->Option (Nd×Int×Unit):=(cR fu k).1
noncomputable def c63 (fu k:Nat):List TokT×Int×Int×Unit->Option (Nd×Int×Unit):=(cR fu k).2
theorem xR {l:List TokT} {i:Nat} (h:i < l.length):l.drop i=l.getD i tokD::l.drop (i+1):=by
 rw [List.drop_eq_getElem_cons h,zFo l i tokD h]
theorem zLD (l:List TokT) (i:Nat) (s:Str) (hs:s≠[]):c49 (l,(i:Int),s,())=some (decide (sg (l.drop i)=s),()):=by
 show sh49 0 (fun _=>false) l (i:Int) s=_
 unfold sh49
 refine zq (fun h=>?_) fun h=>?_
 · have hi:i < l.length:=by
    have:(i:Int) < (l.length:Int):=h
    omega
   refine zG (zb (by omega) (by omega)) ?_
   rw [xR hi,Int.toNat_natCast]
   show _=some (decide ((if (l.getD i tokD).kind=5 then (l.getD i tokD).text else [])=s),())
   refine zx (fun h5=>?_) fun h5=>?_
   · rw [if_pos h5]
     refine zG (zb (by omega) (by omega)) ?_
     rw [zBH]
   · rw [if_neg h5,decide_eq_false (fun e=>hs e.symm)]
 · have hi:l.length<=i:=by
    have:(l.length:Int)<=(i:Int):=h
    omega
   rw [List.drop_eq_nil_of_le hi,decide_eq_false (fun e=>hs e.symm)]
structure PfLen (m:Nat):Prop where
 cho:∀ d l b y,(pf m).cho d l b=some y->y.2.1.length<=l.length
 bin:∀ n d l b y,(pf m).bin n d l b=some y->y.2.1.length<=l.length
 inn:∀ d l b y,(pf m).inn d l b=some y->y.2.1.length<=l.length
 un:∀ d l b y,(pf m).un d l b=some y->y.2.1.length<=l.length
 at1:∀ d l b y,(pf m).at1 d l b=some y->y.2.1.length<=l.length
theorem bind_some {α β:Type} {o:Option α} {f:α->Option β} {y:β} (h:o.bind f=some y):∃ x,o=some x/\f x=some y:=by
 cases o with
 | none=>cases h
 | some x=>exact ⟨x,rfl,h⟩
end
section
open Go.Al Go.Den
inductive WT where
 | num (n:Int) (bad:Bool)
 | un (s:Str) (x:WT)
 | bin (s:Str) (x y:WT)
 | cho (c x y:WT)
def toV:WT->VT
 | .num n _=>.num n
 | .un s x=>.un s (toV x)
 | .bin s x y=>.bin s (toV x) (toV y)
 | .cho c x y=>.cho (toV c) (toV x) (toV y)
def toNd:WT->Nd
 | .num n b=>if b then .mk [98,97,100] 0 [] else .mk [] n []
 | .un s x=>.mk s 0 [toNd x]
 | .bin s x y=>.mk s 0 [toNd x,toNd y]
 | .cho c x y=>.mk [63] 0 [toNd c,toNd x,toNd y]
def badW:WT->Bool
 | .num _ b=>b
 | .un _ x=>badW x
 | .bin _ x y=>badW x || badW y
 | .cho c x y=>(badW c || badW x) || badW y
def in64 (n:Int):Prop:=-9223372036854775808<=n/\n<=9223372036854775807
def okW:WT->Prop
 | .num n _=>in64 n
 | .un s x=>isUn s/\okW x
 | .bin s x y=>s ∈ zOB/\okW x/\okW y
 | .cho c x y=>okW c/\okW x/\okW y
def cmb (b:Int) (f:Bool):Int:=if b=0 then (if f then 91 else 0) else b
def Rel (l:List TokT) (b:Int) (o:Option PR) (run:Option (Nd×Int×Unit)):Prop:=
 match o with
 | some y=>∃ (w:WT) (j:Nat),y.1=toV w/\okW w/\y.2.1=l.drop j/\j<=l.length/\y.2.2=cmb b (badW w)/\run=some (toNd w,(j:Int),())
 | none=>∃ (nd:Nd) (j:Int),j < 0/\run=some (nd,j,())
def pick (q:Str):List Str->Str->Str
 | [],a=>a
 | s::r,a=>pick q r (if q=s then s else a)
end
section
open Go.Al Go.Den
structure At (fu:Nat) (l:List TokT) (i:Nat):Prop where
 un:∀ (m k d:Nat) (b:Int),d<=60->8 * (l.length - i)+2 < m->32 * (l.length - i)+2 < k->Rel l b ((pf m).un d (l.drop i) b) (c31 fu k (l,(i:Int),11,(d:Int),()))
 bin:∀ (n m k d:Nat) (b:Int),1<=n->n<=11->d<=60->8 * (l.length - i)+3 < m->32 * (l.length - i)+14 < k+n->Rel l b ((pf m).bin (n:Int) d (l.drop i) b) (c31 fu k (l,(i:Int),(n:Int),(d:Int),()))
 cho:∀ (m k d:Nat) (b:Int),d<=60->8 * (l.length - i)+4 < m->32 * (l.length - i)+15 < k->Rel l b ((pf m).cho d (l.drop i) b) (c31 fu k (l,(i:Int),0,(d:Int),()))
theorem i1n (i:Nat) (h:i < 5000):iadd .i64 (i:Int) 1=((i+1:Nat):Int):=zMg i (by omega)
theorem zOE {l:List TokT} {i:Nat} {s:Str} (hs:s≠[]) (h:sg (l.drop i)=s):i < l.length:=by
 apply Classical.byContradiction
 intro h2
 rw [List.drop_eq_nil_of_le (by omega)] at h
 exact hs h.symm
theorem dnot_t {p:Prop} [Decidable p] (h:p):(!decide p)=false:=by rw [decide_eq_true h]; rfl
theorem dnot_f {p:Prop} [Decidable p] (h:¬ p):(!decide p)=true:=by rw [decide_eq_false h]; rfl
end
section
open Go.Al Go.Den
def sh79 (fu:Nat) (nf:Nat->Bool) (x0:Int):(Option (Bool×Unit)):=cond (ieq x0 95) (some (true,())) (cond (ile 97 x0) (cond (ile x0 122) (some (true,())) (cond (ile 65 x0) (some ((ile x0 90),())) (some (false,())))) (cond (ile 65 x0) (some ((ile x0 90),())) (some (false,()))))
theorem eq79:@run79 = @sh79:=by kernel_rfl
def sh80 (fu:Nat) (nf:Nat->Bool) (x0:Int):(Option (Bool×Unit)):=cond (ile 48 x0) (some ((ile x0 57),())) (some (false,()))
theorem eq80:@run80 = @sh80:=by kernel_rfl
def sh65 (fu:Nat) (nf:Nat->Bool) (x0:Str) (x1:Int) (x2:Str):(Option (Bool×Unit)):=cond (ile (iadd .i64 x1 (lenI x2)) (lenI x0)) (cond (inS x1 (iadd .i64 x1 (lenI x2)) (List.length x0)) (some ((seq (cutL x0 x1 (iadd .i64 x1 (lenI x2))) x2),())) (none)) (some (false,()))
theorem eq65:@run65 = @sh65:=by kernel_rfl
def sh66 (fu:Nat) (c79:(Int×Unit)->(Option (Bool×Unit))) (c80:(Int×Unit)->(Option (Bool×Unit))) (nf:Nat->Bool) (x0:Str) (x1:Int):(Option (Int×Unit)):=iter fu (fun (rec1:((Int×Unit)×Unit)->Option (Int×Unit)) (s1:((Int×Unit)×Unit))=>cond (ilt (iadd .i64 x1 s1.1.1) (lenI x0)) (cond (inB (iadd .i64 x1 s1.1.1) (List.length x0)) (Option.bind (c79 ((zD x0 (iadd .i64 x1 s1.1.1)),())) fun y0=>cond y0.1 (rec1 (((iadd .i64 s1.1.1 1),()),())) (cond (ilt 0 s1.1.1) (cond (inB (iadd .i64 x1 s1.1.1) (List.length x0)) (Option.bind (c80 ((zD x0 (iadd .i64 x1 s1.1.1)),())) fun y1=>cond y1.1 (rec1 (((iadd .i64 s1.1.1 1),()),())) (some (s1.1.1,()))) (none)) (some (s1.1.1,())))) (none)) (some (s1.1.1,()))) ((0,()),())
theorem eq66:@run66 = @sh66:=by kernel_rfl
def sh67 (fu:Nat) (c79:(Int×Unit)->(Option (Bool×Unit))) (c80:(Int×Unit)->(Option (Bool×Unit))) (nf:Nat->Bool) (x0:Str) (x1:Int):(Option (Int×Unit)):=cond (inB x1 (List.length x0)) (Option.bind (c80 ((zD x0 x1),())) fun y0=>cond (!y0.1) (cond (inB x1 (List.length x0)) (cond (ieq (zD x0 x1) 46) (cond (ilt (iadd .i64 x1 1) (lenI x0)) (cond (inB (iadd .i64 x1 1) (List.length x0)) (Option.bind (c80 ((zD x0 (iadd .i64 x1 1)),())) fun y1=>cond (!y1.1) (some (0,())) (iter fu (fun (rec1:((Int×Unit)×Unit)->Option (Int×Unit)) (s1:((Int×Unit)×Unit))=>cond (ilt (iadd .i64 x1 s1.1.1) (lenI x0)) (cond (inB (iadd .i64 x1 s1.1.1) (List.length x0)) (cond (ilt (iadd .i64 (iadd .i64 x1 s1.1.1) 1) (lenI x0)) (cond (inB (iadd .i64 (iadd .i64 x1 s1.1.1) 1) (List.length x0)) (cond (ieq (zD x0 (iadd .i64 (iadd .i64 x1 s1.1.1) 1)) 43) (cond (ieq (zD x0 (iadd .i64 x1 s1.1.1)) 101) (rec1 (((iadd .i64 s1.1.1 2),()),())) (cond (ieq (zD x0 (iadd .i64 x1 s1.1.1)) 69) (rec1 (((iadd .i64 s1.1.1 2),()),())) (cond (ieq (zD x0 (iadd .i64 x1 s1.1.1)) 112) (rec1 (((iadd .i64 s1.1.1 2),()),())) (cond (ieq (zD x0 (iadd .i64 x1 s1.1.1)) 80) (rec1 (((iadd .i64 s1.1.1 2),()),())) (Option.bind (c79 ((zD x0 (iadd .i64 x1 s1.1.1)),())) fun y2=>cond (!y2.1) (Option.bind (c80 ((zD x0 (iadd .i64 x1 s1.1.1)),())) fun y3=>cond (!y3.1) (cond (ine (zD x0 (iadd .i64 x1 s1.1.1)) 46) (some (s1.1.1,())) (rec1 (((iadd .i64 s1.1.1 1),()),()))) (rec1 (((iadd .i64 s1.1.1 1),()),()))) (rec1 (((iadd .i64 s1.1.1 1),()),()))))))) (cond (inB (iadd .i64 (iadd .i64 x1 s1.1.1) 1) (List.length x0)) (cond (ieq (zD x0 (iadd .i64 x1 s1.1.1)) 101) (cond (ieq (zD x0 (iadd .i64 (iadd .i64 x1 s1.1.1) 1)) 45) (rec1 (((iadd .i64 s1.1.1 2),()),())) (Option.bind (c79 ((zD x0 (iadd .i64 x1 s1.1.1)),())) fun y2=>cond (!y2.1) (Option.bind (c80 ((zD x0 (iadd .i64 x1 s1.1.1)),())) fun y3=>cond (!y3.1) (cond (ine (zD x0 (iadd .i64 x1 s1.1.1)) 46) (some (s1.1.1,())) (rec1 (((iadd .i64 s1.1.1 1),()),()))) (rec1 (((iadd .i64 s1.1.1 1),()),()))) (rec1 (((iadd .i64 s1.1.1 1),()),())))) (cond (ieq (zD x0 (iadd .i64 x1 s1.1.1)) 69) (cond (ieq (zD x0 (iadd .i64 (iadd .i64 x1 s1.1.1) 1)) 45) (rec1 (((iadd .i64 s1.1.1 2),()),())) (Option.bind (c79 ((zD x0 (iadd .i64 x1 s1.1.1)),())) fun y2=>cond (!y2.1) (Option.bind (c80 ((zD x0 (iadd .i64 x1 s1.1.1)),())) fun y3=>cond (!y3.1) (cond (ine (zD x0 (iadd .i64 x1 s1.1.1)) 46) (some (s1.1.1,())) (rec1 (((iadd .i64 s1.1.1 1),()),()))) (rec1 (((iadd .i64 s1.1.1 1),()),()))) (rec1 (((iadd .i64 s1.1.1 1),()),())))) (cond (ieq (zD x0 (iadd .i64 x1 s1.1.1)) 112) (cond (ieq (zD x0 (iadd .i64 (iadd .i64 x1 s1.1.1) 1)) 45) (rec1 (((iadd .i64 s1.1.1 2),()),())) (Option.bind (c79 ((zD x0 (iadd .i64 x1 s1.1.1)),())) fun y2=>cond (!y2.1) (Option.bind (c80 ((zD x0 (iadd .i64 x1 s1.1.1)),())) fun y3=>cond (!y3.1) (cond (ine (zD x0 (iadd .i64 x1 s1.1.1)) 46) (some (s1.1.1,())) (rec1 (((iadd .i64 s1.1.1 1),()),()))) (rec1 (((iadd .i64 s1.1.1 1),()),()))) (rec1 (((iadd .i64 s1.1.1 1),()),())))) (cond (ieq (zD x0 (iadd .i64 x1 s1.1.1)) 80) (cond (ieq (zD x0 (iadd .i64 (iadd .i64 x1 s1.1.1) 1)) 45) (rec1 (((iadd .i64 s1.1.1 2),()),())) (Option.bind (c79 ((zD x0 (iadd .i64 x1 s1.1.1)),())) fun y2=>cond (!y2.1) (Option.bind (c80 ((zD x0 (iadd .i64 x1 s1.1.1)),())) fun y3=>cond (!y3.1) (cond (ine (zD x0 (iadd .i64 x1 s1.1.1)) 46) (some (s1.1.1,())) (rec1 (((iadd .i64 s1.1.1 1),()),()))) (rec1 (((iadd .i64 s1.1.1 1),()),()))) (rec1 (((iadd .i64 s1.1.1 1),()),())))) (Option.bind (c79 ((zD x0 (iadd .i64 x1 s1.1.1)),())) fun y2=>cond (!y2.1) (Option.bind (c80 ((zD x0 (iadd .i64 x1 s1.1.1)),())) fun y3=>cond (!y3.1) (cond (ine (zD x0 (iadd .i64 x1 s1.1.1)) 46) (some (s1.1.1,())) (rec1 (((iadd .i64 s1.1.1 1),()),()))) (rec1 (((iadd .i64 s1.1.1 1),()),()))) (rec1 (((iadd .i64 s1.1.1 1),()),()))))))) (none))) (none)) (cond (ieq (zD x0 (iadd .i64 x1 s1.1.1)) 101) (Option.bind (c79 ((zD x0 (iadd .i64 x1 s1.1.1)),())) fun y2=>cond (!y2.1) (Option.bind (c80 ((zD x0 (iadd .i64 x1 s1.1.1)),())) fun y3=>cond (!y3.1) (cond (ine (zD x0 (iadd .i64 x1 s1.1.1)) 46) (some (s1.1.1,())) (rec1 (((iadd .i64 s1.1.1 1),()),()))) (rec1 (((iadd .i64 s1.1.1 1),()),()))) (rec1 (((iadd .i64 s1.1.1 1),()),()))) (cond (ieq (zD x0 (iadd .i64 x1 s1.1.1)) 69) (Option.bind (c79 ((zD x0 (iadd .i64 x1 s1.1.1)),())) fun y2=>cond (!y2.1) (Option.bind (c80 ((zD x0 (iadd .i64 x1 s1.1.1)),())) fun y3=>cond (!y3.1) (cond (ine (zD x0 (iadd .i64 x1 s1.1.1)) 46) (some (s1.1.1,())) (rec1 (((iadd .i64 s1.1.1 1),()),()))) (rec1 (((iadd .i64 s1.1.1 1),()),()))) (rec1 (((iadd .i64 s1.1.1 1),()),()))) (cond (ieq (zD x0 (iadd .i64 x1 s1.1.1)) 112) (Option.bind (c79 ((zD x0 (iadd .i64 x1 s1.1.1)),())) fun y2=>cond (!y2.1) (Option.bind (c80 ((zD x0 (iadd .i64 x1 s1.1.1)),())) fun y3=>cond (!y3.1) (cond (ine (zD x0 (iadd .i64 x1 s1.1.1)) 46) (some (s1.1.1,())) (rec1 (((iadd .i64 s1.1.1 1),()),()))) (rec1 (((iadd .i64 s1.1.1 1),()),()))) (rec1 (((iadd .i64 s1.1.1 1),()),()))) (cond (ieq (zD x0 (iadd .i64 x1 s1.1.1)) 80) (Option.bind (c79 ((zD x0 (iadd .i64 x1 s1.1.1)),())) fun y2=>cond (!y2.1) (Option.bind (c80 ((zD x0 (iadd .i64 x1 s1.1.1)),())) fun y3=>cond (!y3.1) (cond (ine (zD x0 (iadd .i64 x1 s1.1.1)) 46) (some (s1.1.1,())) (rec1 (((iadd .i64 s1.1.1 1),()),()))) (rec1 (((iadd .i64 s1.1.1 1),()),()))) (rec1 (((iadd .i64 s1.1.1 1),()),()))) (Option.bind (c79 ((zD x0 (iadd .i64 x1 s1.1.1)),())) fun y2=>cond (!y2.1) (Option.bind (c80 ((zD x0 (iadd .i64 x1 s1.1.1)),())) fun y3=>cond (!y3.1) (cond (ine (zD x0 (iadd .i64 x1 s1.1.1)) 46) (some (s1.1.1,())) (rec1 (((iadd .i64 s1.1.1 1),()),()))) (rec1 (((iadd .i64 s1.1.1 1),()),()))) (rec1 (((iadd .i64 s1.1.1 1),()),())))))))) (none)) (some (s1.1.1,()))) ((1,()),()))) (none)) (some (0,()))) (some (0,()))) (none)) (iter fu (fun (rec1:((Int×Unit)×Unit)->Option (Int×Unit)) (s1:((Int×Unit)×Unit))=>cond (ilt (iadd .i64 x1 s1.1.1) (lenI x0)) (cond (inB (iadd .i64 x1 s1.1.1) (List.length x0)) (cond (ilt (iadd .i64 (iadd .i64 x1 s1.1.1) 1) (lenI x0)) (cond (inB (iadd .i64 (iadd .i64 x1 s1.1.1) 1) (List.length x0)) (cond (ieq (zD x0 (iadd .i64 (iadd .i64 x1 s1.1.1) 1)) 43) (cond (ieq (zD x0 (iadd .i64 x1 s1.1.1)) 101) (rec1 (((iadd .i64 s1.1.1 2),()),())) (cond (ieq (zD x0 (iadd .i64 x1 s1.1.1)) 69) (rec1 (((iadd .i64 s1.1.1 2),()),())) (cond (ieq (zD x0 (iadd .i64 x1 s1.1.1)) 112) (rec1 (((iadd .i64 s1.1.1 2),()),())) (cond (ieq (zD x0 (iadd .i64 x1 s1.1.1)) 80) (rec1 (((iadd .i64 s1.1.1 2),()),())) (Option.bind (c79 ((zD x0 (iadd .i64 x1 s1.1.1)),())) fun y1=>cond (!y1.1) (Option.bind (c80 ((zD x0 (iadd .i64 x1 s1.1.1)),())) fun y2=>cond (!y2.1) (cond (ine (zD x0 (iadd .i64 x1 s1.1.1)) 46) (some (s1.1.1,())) (rec1 (((iadd .i64 s1.1.1 1),()),()))) (rec1 (((iadd .i64 s1.1.1 1),()),()))) (rec1 (((iadd .i64 s1.1.1 1),()),()))))))) (cond (inB (iadd .i64 (iadd .i64 x1 s1.1.1) 1) (List.length x0)) (cond (ieq (zD x0 (iadd .i64 x1 s1.1.1)) 101) (cond (ieq (zD x0 (iadd .i64 (iadd .i64 x1 s1.1.1) 1)) 45) (rec1 (((iadd .i64 s1.1.1 2),()),())) (Option.bind (c79 ((zD x0 (iadd .i64 x1 s1.1.1)),())) fun y1=>cond (!y1.1) (Option.bind (c80 ((zD x0 (iadd .i64 x1 s1.1.1)),())) fun y2=>cond (!y2.1) (cond (ine (zD x0 (iadd .i64 x1 s1.1.1)) 46) (some (s1.1.1,())) (rec1 (((iadd .i64 s1.1.1 1),()),()))) (rec1 (((iadd .i64 s1.1.1 1),()),()))) (rec1 (((iadd .i64 s1.1.1 1),()),())))) (cond (ieq (zD x0 (iadd .i64 x1 s1.1.1)) 69) (cond (ieq (zD x0 (iadd .i64 (iadd .i64 x1 s1.1.1) 1)) 45) (rec1 (((iadd .i64 s1.1.1 2),()),())) (Option.bind (c79 ((zD x0 (iadd .i64 x1 s1.1.1)),())) fun y1=>cond (!y1.1) (Option.bind (c80 ((zD x0 (iadd .i64 x1 s1.1.1)),())) fun y2=>cond (!y2.1) (cond (ine (zD x0 (iadd .i64 x1 s1.1.1)) 46) (some (s1.1.1,())) (rec1 (((iadd .i64 s1.1.1 1),()),()))) (rec1 (((iadd .i64 s1.1.1 1),()),()))) (rec1 (((iadd .i64 s1.1.1 1),()),())))) (cond (ieq (zD x0 (iadd .i64 x1 s1.1.1)) 112) (cond (ieq (zD x0 (iadd .i64 (iadd .i64 x1 s1.1.1) 1)) 45) (rec1 (((iadd .i64 s1.1.1 2),()),())) (Option.bind (c79 ((zD x0 (iadd .i64 x1 s1.1.1)),())) fun y1=>cond (!y1.1) (Option.bind (c80 ((zD x0 (iadd .i64 x1 s1.1.1)),())) fun y2=>cond (!y2.1) (cond (ine (zD x0 (iadd .i64 x1 s1.1.1)) 46) (some (s1.1.1,())) (rec1 (((iadd .i64 s1.1.1 1),()),()))) (rec1 (((iadd .i64 s1.1.1 1),()),()))) (rec1 (((iadd .i64 s1.1.1 1),()),())))) (cond (ieq (zD x0 (iadd .i64 x1 s1.1.1)) 80) (cond (ieq (zD x0 (iadd .i64 (iadd .i64 x1 s1.1.1) 1)) 45) (rec1 (((iadd .i64 s1.1.1 2),()),())) (Option.bind (c79 ((zD x0 (iadd .i64 x1 s1.1.1)),())) fun y1=>cond (!y1.1) (Option.bind (c80 ((zD x0 (iadd .i64 x1 s1.1.1)),())) fun y2=>cond (!y2.1) (cond (ine (zD x0 (iadd .i64 x1 s1.1.1)) 46) (some (s1.1.1,())) (rec1 (((iadd .i64 s1.1.1 1),()),()))) (rec1 (((iadd .i64 s1.1.1 1),()),()))) (rec1 (((iadd .i64 s1.1.1 1),()),())))) (Option.bind (c79 ((zD x0 (iadd .i64 x1 s1.1.1)),())) fun y1=>cond (!y1.1) (Option.bind (c80 ((zD x0 (iadd .i64 x1 s1.1.1)),())) fun y2=>cond (!y2.1) (cond (ine (zD x0 (iadd .i64 x1 s1.1.1)) 46) (some (s1.1.1,())) (rec1 (((iadd .i64 s1.1.1 1),()),()))) (rec1 (((iadd .i64 s1.1.1 1),()),()))) (rec1 (((iadd .i64 s1.1.1 1),()),()))))))) (none))) (none)) (cond (ieq (zD x0 (iadd .i64 x1 s1.1.1)) 101) (Option.bind (c79 ((zD x0 (iadd .i64 x1 s1.1.1)),())) fun y1=>cond (!y1.1) (Option.bind (c80 ((zD x0 (iadd .i64 x1 s1.1.1)),())) fun y2=>cond (!y2.1) (cond (ine (zD x0 (iadd .i64 x1 s1.1.1)) 46) (some (s1.1.1,())) (rec1 (((iadd .i64 s1.1.1 1),()),()))) (rec1 (((iadd .i64 s1.1.1 1),()),()))) (rec1 (((iadd .i64 s1.1.1 1),()),()))) (cond (ieq (zD x0 (iadd .i64 x1 s1.1.1)) 69) (Option.bind (c79 ((zD x0 (iadd .i64 x1 s1.1.1)),())) fun y1=>cond (!y1.1) (Option.bind (c80 ((zD x0 (iadd .i64 x1 s1.1.1)),())) fun y2=>cond (!y2.1) (cond (ine (zD x0 (iadd .i64 x1 s1.1.1)) 46) (some (s1.1.1,())) (rec1 (((iadd .i64 s1.1.1 1),()),()))) (rec1 (((iadd .i64 s1.1.1 1),()),()))) (rec1 (((iadd .i64 s1.1.1 1),()),()))) (cond (ieq (zD x0 (iadd .i64 x1 s1.1.1)) 112) (Option.bind (c79 ((zD x0 (iadd .i64 x1 s1.1.1)),())) fun y1=>cond (!y1.1) (Option.bind (c80 ((zD x0 (iadd .i64 x1 s1.1.1)),())) fun y2=>cond (!y2.1) (cond (ine (zD x0 (iadd .i64 x1 s1.1.1)) 46) (some (s1.1.1,())) (rec1 (((iadd .i64 s1.1.1 1),()),()))) (rec1 (((iadd .i64 s1.1.1 1),()),()))) (rec1 (((iadd .i64 s1.1.1 1),()),()))) (cond (ieq (zD x0 (iadd .i64 x1 s1.1.1)) 80) (Option.bind (c79 ((zD x0 (iadd .i64 x1 s1.1.1)),())) fun y1=>cond (!y1.1) (Option.bind (c80 ((zD x0 (iadd .i64 x1 s1.1.1)),())) fun y2=>cond (!y2.1) (cond (ine (zD x0 (iadd .i64 x1 s1.1.1)) 46) (some (s1.1.1,())) (rec1 (((iadd .i64 s1.1.1 1),()),()))) (rec1 (((iadd .i64 s1.1.1 1),()),()))) (rec1 (((iadd .i64 s1.1.1 1),()),()))) (Option.bind (c79 ((zD x0 (iadd .i64 x1 s1.1.1)),())) fun y1=>cond (!y1.1) (Option.bind (c80 ((zD x0 (iadd .i64 x1 s1.1.1)),())) fun y2=>cond (!y2.1) (cond (ine (zD x0 (iadd .i64 x1 s1.1.1)) 46) (some (s1.1.1,())) (rec1 (((iadd .i64 s1.1.1 1),()),()))) (rec1 (((iadd .i64 s1.1.1 1),()),()))) (rec1 (((iadd .i64 s1.1.1 1),()),())))))))) (none)) (some (s1.1.1,()))) ((1,()),()))) (none)
theorem eq67:@run67 = @sh67:=by kernel_rfl
def sh68 (fu:Nat) (nf:Nat->Bool) (x0:Str) (x1:Int) (x2:Int):(Option (Int×Unit)):=cond (inB x1 (List.length x0)) (cond (ine (zD x0 x1) x2) (some (0,())) (iter fu (fun (rec1:((Int×Unit)×Unit)->Option (Int×Unit)) (s1:((Int×Unit)×Unit))=>cond (ilt (iadd .i64 x1 s1.1.1) (lenI x0)) (cond (inB (iadd .i64 x1 s1.1.1) (List.length x0)) (cond (ine (zD x0 (iadd .i64 x1 s1.1.1)) 10) (cond (inB (iadd .i64 x1 s1.1.1) (List.length x0)) (cond (ieq (zD x0 (iadd .i64 x1 s1.1.1)) x2) (cond (ieq s1.1.1 1) (cond (ieq x2 39) (some (0,())) (some ((iadd .i64 s1.1.1 1),()))) (some ((iadd .i64 s1.1.1 1),()))) (cond (inB (iadd .i64 x1 s1.1.1) (List.length x0)) (cond (ieq (zD x0 (iadd .i64 x1 s1.1.1)) 92) (cond (ile (lenI x0) (iadd .i64 x1 (iadd .i64 s1.1.1 1))) (some (0,())) (cond (inB (iadd .i64 x1 (iadd .i64 s1.1.1 1)) (List.length x0)) (cond (ieq (zD x0 (iadd .i64 x1 (iadd .i64 s1.1.1 1))) 10) (some (0,())) (rec1 (((iadd .i64 (iadd .i64 s1.1.1 1) 1),()),()))) (none))) (rec1 (((iadd .i64 s1.1.1 1),()),()))) (none))) (none)) (some (0,()))) (none)) (some (0,()))) ((1,()),()))) (none)
theorem eq68:@run68 = @sh68:=by kernel_rfl
def sh69 (fu:Nat) (c65:(Str×(Int×(Str×Unit)))->(Option (Bool×Unit))) (nf:Nat->Bool) (x0:Str) (x1:Int):(Option (Int×Unit)):=iter fu (fun (rec1:((Int×Unit)×Unit)->Option (Int×Unit)) (s1:((Int×Unit)×Unit))=>cond (ilt s1.1.1 (lenI [[46,46,46],[60,60,61],[62,62,61]])) (cond (inB s1.1.1 3) (Option.bind (c65 (x0,(x1,((List.getD [[46,46,46],[60,60,61],[62,62,61]] (Int.toNat s1.1.1) []),())))) fun y0=>cond y0.1 (some (3,())) (rec1 (((iadd .i64 s1.1.1 1),()),()))) (none)) (iter fu (fun (rec2:((Int×Unit)×Unit)->Option (Int×Unit)) (s2:((Int×Unit)×Unit))=>cond (ilt s2.1.1 (lenI [[45,62],[43,43],[45,45],[60,60],[62,62],[60,61],[62,61],[61,61],[33,61],[38,38],[124,124],[42,61],[47,61],[37,61],[43,61],[45,61],[38,61],[94,61],[124,61],[35,35]])) (cond (inB s2.1.1 20) (Option.bind (c65 (x0,(x1,((List.getD [[45,62],[43,43],[45,45],[60,60],[62,62],[60,61],[62,61],[61,61],[33,61],[38,38],[124,124],[42,61],[47,61],[37,61],[43,61],[45,61],[38,61],[94,61],[124,61],[35,35]] (Int.toNat s2.1.1) []),())))) fun y0=>cond y0.1 (some (2,())) (rec2 (((iadd .i64 s2.1.1 1),()),()))) (none)) (iter fu (fun (rec3:((Int×Unit)×Unit)->Option (Int×Unit)) (s3:((Int×Unit)×Unit))=>cond (ilt s3.1.1 (lenI [91,93,40,41,123,125,46,38,42,43,45,126,33,47,37,60,62,94,124,63,58,59,61,44,35])) (cond (inB x1 (List.length x0)) (cond (inB s3.1.1 25) (cond (ieq (zD x0 x1) (zD [91,93,40,41,123,125,46,38,42,43,45,126,33,47,37,60,62,94,124,63,58,59,61,44,35] s3.1.1)) (some (1,())) (rec3 (((iadd .i64 s3.1.1 1),()),()))) (none)) (none)) (some (0,()))) ((0,()),()))) ((0,()),()))) ((0,()),())
theorem eq69:@run69 = @sh69:=by kernel_rfl
def sh36 (fu:Nat) (c65:(Str×(Int×(Str×Unit)))->(Option (Bool×Unit))) (nf:Nat->Bool) (x0:Str) (x1:Int):(Option (Int×Unit)):=cond (inB x1 (List.length x0)) (cond (ieq (zD x0 x1) 32) (some ((iadd .i64 x1 1),())) (cond (inB x1 (List.length x0)) (cond (ieq (zD x0 x1) 9) (some ((iadd .i64 x1 1),())) (cond (inB x1 (List.length x0)) (cond (ile 11 (zD x0 x1)) (cond (inB x1 (List.length x0)) (cond (ile (zD x0 x1) 13) (some ((iadd .i64 x1 1),())) (Option.bind (c65 (x0,(x1,([47,47],())))) fun y0=>cond y0.1 (iter fu (fun (rec1:((Int×Unit)×Unit)->Option (Int×Unit)) (s1:((Int×Unit)×Unit))=>cond (ilt s1.1.1 (lenI x0)) (cond (inB s1.1.1 (List.length x0)) (cond (ine (zD x0 s1.1.1) 10) (rec1 (((iadd .i64 s1.1.1 1),()),())) (some (s1.1.1,()))) (none)) (some (s1.1.1,()))) ((x1,()),())) (Option.bind (c65 (x0,(x1,([47,42],())))) fun y1=>cond y1.1 (iter fu (fun (rec1:((Int×Unit)×Unit)->Option (Int×Unit)) (s1:((Int×Unit)×Unit))=>cond (ilt s1.1.1 (lenI x0)) (Option.bind (c65 (x0,(s1.1.1,([42,47],())))) fun y2=>cond y2.1 (some ((iadd .i64 s1.1.1 2),())) (rec1 (((iadd .i64 s1.1.1 1),()),()))) (some (x1,()))) (((iadd .i64 x1 2),()),())) (some (x1,()))))) (none)) (Option.bind (c65 (x0,(x1,([47,47],())))) fun y0=>cond y0.1 (iter fu (fun (rec1:((Int×Unit)×Unit)->Option (Int×Unit)) (s1:((Int×Unit)×Unit))=>cond (ilt s1.1.1 (lenI x0)) (cond (inB s1.1.1 (List.length x0)) (cond (ine (zD x0 s1.1.1) 10) (rec1 (((iadd .i64 s1.1.1 1),()),())) (some (s1.1.1,()))) (none)) (some (s1.1.1,()))) ((x1,()),())) (Option.bind (c65 (x0,(x1,([47,42],())))) fun y1=>cond y1.1 (iter fu (fun (rec1:((Int×Unit)×Unit)->Option (Int×Unit)) (s1:((Int×Unit)×Unit))=>cond (ilt s1.1.1 (lenI x0)) (Option.bind (c65 (x0,(s1.1.1,([42,47],())))) fun y2=>cond y2.1 (some ((iadd .i64 s1.1.1 2),())) (rec1 (((iadd .i64 s1.1.1 1),()),()))) (some (x1,()))) (((iadd .i64 x1 2),()),())) (some (x1,()))))) (none))) (none))) (none)
theorem eq36:@run36 = @sh36:=by kernel_rfl
def sh37 (fu:Nat) (c66:(Str×(Int×Unit))->(Option (Int×Unit))) (c67:(Str×(Int×Unit))->(Option (Int×Unit))) (c68:(Str×(Int×(Int×Unit)))->(Option (Int×Unit))) (c69:(Str×(Int×Unit))->(Option (Int×Unit))) (nf:Nat->Bool) (x0:Str) (x1:Int):(Option (Int×(Int×Unit))):=cond (inB x1 (List.length x0)) (cond (ieq (zD x0 x1) 10) (some (7,(1,()))) (Option.bind (c66 (x0,(x1,()))) fun y0=>cond (ilt 0 y0.1) (some (1,(y0.1,()))) (Option.bind (c67 (x0,(x1,()))) fun y1=>cond (ilt 0 y1.1) (some (2,(y1.1,()))) (Option.bind (c68 (x0,(x1,(34,())))) fun y2=>cond (ilt 0 y2.1) (some (4,(y2.1,()))) (Option.bind (c68 (x0,(x1,(39,())))) fun y3=>cond (ilt 0 y3.1) (some (3,(y3.1,()))) (Option.bind (c69 (x0,(x1,()))) fun y4=>cond (ilt 0 y4.1) (some (5,(y4.1,()))) (some (6,(1,()))))))))) (none)
theorem eq37:@run37 = @sh37:=by kernel_rfl
def sh34 (fu:Nat) (nf:Nat->Bool) (x0:Str):(Option ((List CharT)×Unit)):=iter fu (fun (rec1:(((List CharT)×(Int×Unit))×Unit)->Option ((List CharT)×Unit)) (s1:(((List CharT)×(Int×Unit))×Unit))=>cond (ilt s1.1.2.1 (lenI x0)) (cond (inB s1.1.2.1 (List.length x0)) (cond (ieq (zD x0 s1.1.2.1) 92) (cond (ilt (iadd .i64 s1.1.2.1 1) (lenI x0)) (cond (inB (iadd .i64 s1.1.2.1 1) (List.length x0)) (cond (ieq (zD x0 (iadd .i64 s1.1.2.1 1)) 10) (rec1 ((s1.1.1,((iadd .i64 s1.1.2.1 2),())),())) (cond (inB s1.1.2.1 (List.length x0)) (cond (okN 16 ((List.length s1.1.1)+(List.length [(CharT.mk (zD x0 s1.1.2.1) s1.1.2.1)]))) (rec1 (((s1.1.1++[(CharT.mk (zD x0 s1.1.2.1) s1.1.2.1)]),((iadd .i64 s1.1.2.1 1),())),())) (none)) (none))) (none)) (cond (inB s1.1.2.1 (List.length x0)) (cond (okN 16 ((List.length s1.1.1)+(List.length [(CharT.mk (zD x0 s1.1.2.1) s1.1.2.1)]))) (rec1 (((s1.1.1++[(CharT.mk (zD x0 s1.1.2.1) s1.1.2.1)]),((iadd .i64 s1.1.2.1 1),())),())) (none)) (none))) (cond (inB s1.1.2.1 (List.length x0)) (cond (okN 16 ((List.length s1.1.1)+(List.length [(CharT.mk (zD x0 s1.1.2.1) s1.1.2.1)]))) (rec1 (((s1.1.1++[(CharT.mk (zD x0 s1.1.2.1) s1.1.2.1)]),((iadd .i64 s1.1.2.1 1),())),())) (none)) (none))) (none)) (some (s1.1.1,()))) (([],(0,())),())
theorem eq34:@run34 = @sh34:=by kernel_rfl
def sh35 (fu:Nat) (nf:Nat->Bool) (x0:(List CharT)):(Option (Str×Unit)):=iter fu (fun (rec1:((Str×(Int×Unit))×Unit)->Option (Str×Unit)) (s1:((Str×(Int×Unit))×Unit))=>cond (ilt s1.1.2.1 (lenI x0)) (cond (inB s1.1.2.1 (List.length x0)) (cond (okS ((List.length s1.1.1)+(List.length (zDV (fun x=>x) [(CharT.b (List.getD x0 (Int.toNat s1.1.2.1) yM))])))) (rec1 (((s1.1.1++(zDV (fun x=>x) [(CharT.b (List.getD x0 (Int.toNat s1.1.2.1) yM))])),((iadd .i64 s1.1.2.1 1),())),())) (none)) (none)) (some (s1.1.1,()))) (([],(0,())),())
theorem eq35:@run35 = @sh35:=by kernel_rfl
def sh12 (fu:Nat) (c34:(Str×Unit)->(Option ((List CharT)×Unit))) (c35:((List CharT)×Unit)->(Option (Str×Unit))) (c36:(Str×(Int×Unit))->(Option (Int×Unit))) (c37:(Str×(Int×Unit))->(Option (Int×(Int×Unit)))) (nf:Nat->Bool) (x0:Int) (x1:Str):(Option (LT×Unit)):=Option.bind (c34 (x1,())) fun y0=>Option.bind (c35 (y0.1,())) fun y1=>iter fu (fun (rec1:((LT×(Int×(Bool×Unit)))×Unit)->Option (LT×Unit)) (s1:((LT×(Int×(Bool×Unit)))×Unit))=>cond (ilt s1.1.2.1 (lenI y1.1)) (Option.bind (c36 (y1.1,(s1.1.2.1,()))) fun y2=>cond (ilt s1.1.2.1 y2.1) (rec1 ((s1.1.1,(y2.1,(true,()))),())) (Option.bind (c37 (y1.1,(s1.1.2.1,()))) fun y3=>cond (inS s1.1.2.1 (iadd .i64 s1.1.2.1 y3.2.1) (List.length y1.1)) (cond (inB s1.1.2.1 (List.length y0.1)) (cond (inB (isub .i64 (iadd .i64 s1.1.2.1 y3.2.1) 1) (List.length y0.1)) (cond (okN 56 ((List.length s1.1.1)+(List.length [(TokT.mk y3.1 (cutL y1.1 s1.1.2.1 (iadd .i64 s1.1.2.1 y3.2.1)) x0 (CharT.fat (List.getD y0.1 (Int.toNat s1.1.2.1) yM)) (iadd .i64 (CharT.fat (List.getD y0.1 (Int.toNat (isub .i64 (iadd .i64 s1.1.2.1 y3.2.1) 1)) yM)) 1) s1.1.2.2.1)]))) (rec1 (((s1.1.1++[(TokT.mk y3.1 (cutL y1.1 s1.1.2.1 (iadd .i64 s1.1.2.1 y3.2.1)) x0 (CharT.fat (List.getD y0.1 (Int.toNat s1.1.2.1) yM)) (iadd .i64 (CharT.fat (List.getD y0.1 (Int.toNat (isub .i64 (iadd .i64 s1.1.2.1 y3.2.1) 1)) yM)) 1) s1.1.2.2.1)]),((iadd .i64 s1.1.2.1 y3.2.1),(false,()))),())) (none)) (none)) (none)) (none))) (some (s1.1.1,()))) (([],(0,(false,()))),())
theorem eq12:@run12 = @sh12:=by kernel_rfl
theorem con79 (fu:Nat) :ConOk CC Tryd.prog 79 ⟨as79,rs79,fun x=>sh79 fu (fun _=>false) x.1⟩:=
 zV (c:=⟨as79,rs79,fun x=>sh79 fu (fun _=>false) x.1⟩) (syn:=syn) (fu:=fu) (d:=2) (inl:=zA []) (orc:=zA []) (orr:=zA []) (orp:=zA []) (pf:=hasN []) (rf:=hasN []) zX CCok mixed (fun g=>(zE (α:=Con UU) (l:=[]) g).symm) (fun g=>(zE (α:=CR UU) (l:=[]) g).symm) (zC) (zC) (zC) (zC) fdok79 (by show 1<=21; decide) (zQ rfl) (fun nf x=>by show run79 fu nf x.1=_; rw [eq79]; rfl)
theorem con80 (fu:Nat) :ConOk CC Tryd.prog 80 ⟨as80,rs80,fun x=>sh80 fu (fun _=>false) x.1⟩:=
 zV (c:=⟨as80,rs80,fun x=>sh80 fu (fun _=>false) x.1⟩) (syn:=syn) (fu:=fu) (d:=2) (inl:=zA []) (orc:=zA []) (orr:=zA []) (orp:=zA []) (pf:=hasN []) (rf:=hasN []) zX CCok mixed (fun g=>(zE (α:=Con UU) (l:=[]) g).symm) (fun g=>(zE (α:=CR UU) (l:=[]) g).symm) (zC) (zC) (zC) (zC) fdok80 (by show 1<=9; decide) (zQ rfl) (fun nf x=>by show run80 fu nf x.1=_; rw [eq80]; rfl)
theorem con65 (fu:Nat) :ConOk CC Tryd.prog 65 ⟨as65,rs65,fun x=>sh65 fu (fun _=>false) x.1 x.2.1 x.2.2.1⟩:=
 zV (c:=⟨as65,rs65,fun x=>sh65 fu (fun _=>false) x.1 x.2.1 x.2.2.1⟩) (syn:=syn) (fu:=fu) (d:=2) (inl:=zA []) (orc:=zA []) (orr:=zA []) (orp:=zA []) (pf:=hasN []) (rf:=hasN []) zX CCok mixed (fun g=>(zE (α:=Con UU) (l:=[]) g).symm) (fun g=>(zE (α:=CR UU) (l:=[]) g).symm) (zC) (zC) (zC) (zC) fdok65 (by show 3<=25; decide) (zQ rfl) (fun nf x=>by show run65 fu nf x.1 x.2.1 x.2.2.1=_; rw [eq65]; rfl)
theorem con66 (fu:Nat) (c79:zI as79->Option (zI rs79)) (h79:ConOk CC Tryd.prog 79 ⟨as79,rs79,c79⟩) (c80:zI as80->Option (zI rs80)) (h80:ConOk CC Tryd.prog 80 ⟨as80,rs80,c80⟩):ConOk CC Tryd.prog 66 ⟨as66,rs66,fun x=>sh66 fu c79 c80 (fun _=>false) x.1 x.2.1⟩:=
 zV (c:=⟨as66,rs66,fun x=>sh66 fu c79 c80 (fun _=>false) x.1 x.2.1⟩) (syn:=syn) (fu:=fu) (d:=2) (inl:=zA []) (orc:=zA [(79,(⟨as79,rs79,c79⟩:Con UU)),(80,(⟨as80,rs80,c80⟩:Con UU))]) (orr:=zA []) (orp:=zA []) (pf:=hasN [79,80]) (rf:=hasN []) zX CCok mixed (fun g=>(zE (α:=Con UU) (l:=[(79,(⟨as79,rs79,c79⟩:Con UU)),(80,(⟨as80,rs80,c80⟩:Con UU))]) g).symm) (fun g=>(zE (α:=CR UU) (l:=[]) g).symm) (zC) (zF (OrcOk.of ⟨zLY,h79⟩ rfl) (zF (OrcOk.of ⟨zLa,h80⟩ rfl) (zC))) (zC) (zC) fdok66 (by show 2<=35; decide) (zQ rfl) (fun nf x=>by show run66 fu c79 c80 nf x.1 x.2.1=_; rw [eq66]; rfl)
theorem con67 (fu:Nat) (c79:zI as79->Option (zI rs79)) (h79:ConOk CC Tryd.prog 79 ⟨as79,rs79,c79⟩) (c80:zI as80->Option (zI rs80)) (h80:ConOk CC Tryd.prog 80 ⟨as80,rs80,c80⟩):ConOk CC Tryd.prog 67 ⟨as67,rs67,fun x=>sh67 fu c79 c80 (fun _=>false) x.1 x.2.1⟩:=
 zV (c:=⟨as67,rs67,fun x=>sh67 fu c79 c80 (fun _=>false) x.1 x.2.1⟩) (syn:=syn) (fu:=fu) (d:=2) (inl:=zA []) (orc:=zA [(79,(⟨as79,rs79,c79⟩:Con UU)),(80,(⟨as80,rs80,c80⟩:Con UU))]) (orr:=zA []) (orp:=zA []) (pf:=hasN [79,80]) (rf:=hasN []) zX CCok mixed (fun g=>(zE (α:=Con UU) (l:=[(79,(⟨as79,rs79,c79⟩:Con UU)),(80,(⟨as80,rs80,c80⟩:Con UU))]) g).symm) (fun g=>(zE (α:=CR UU) (l:=[]) g).symm) (zC) (zF (OrcOk.of ⟨zLY,h79⟩ rfl) (zF (OrcOk.of ⟨zLa,h80⟩ rfl) (zC))) (zC) (zC) fdok67 (by show 2<=106; decide) (zQ rfl) (fun nf x=>by show run67 fu c79 c80 nf x.1 x.2.1=_; rw [eq67]; rfl)
theorem con68 (fu:Nat) :ConOk CC Tryd.prog 68 ⟨as68,rs68,fun x=>sh68 fu (fun _=>false) x.1 x.2.1 x.2.2.1⟩:=
 zV (c:=⟨as68,rs68,fun x=>sh68 fu (fun _=>false) x.1 x.2.1 x.2.2.1⟩) (syn:=syn) (fu:=fu) (d:=2) (inl:=zA []) (orc:=zA []) (orr:=zA []) (orp:=zA []) (pf:=hasN []) (rf:=hasN []) zX CCok mixed (fun g=>(zE (α:=Con UU) (l:=[]) g).symm) (fun g=>(zE (α:=CR UU) (l:=[]) g).symm) (zC) (zC) (zC) (zC) fdok68 (by show 3<=66; decide) (zQ rfl) (fun nf x=>by show run68 fu nf x.1 x.2.1 x.2.2.1=_; rw [eq68]; rfl)
theorem con69 (fu:Nat) (c65:zI as65->Option (zI rs65)) (h65:ConOk CC Tryd.prog 65 ⟨as65,rs65,c65⟩):ConOk CC Tryd.prog 69 ⟨as69,rs69,fun x=>sh69 fu c65 (fun _=>false) x.1 x.2.1⟩:=
 zV (c:=⟨as69,rs69,fun x=>sh69 fu c65 (fun _=>false) x.1 x.2.1⟩) (syn:=syn) (fu:=fu) (d:=2) (inl:=zA []) (orc:=zA [(65,(⟨as65,rs65,c65⟩:Con UU))]) (orr:=zA []) (orp:=zA []) (pf:=hasN [65]) (rf:=hasN []) zX CCok mixed (fun g=>(zE (α:=Con UU) (l:=[(65,(⟨as65,rs65,c65⟩:Con UU))]) g).symm) (fun g=>(zE (α:=CR UU) (l:=[]) g).symm) (zC) (zF (OrcOk.of ⟨zK7,h65⟩ rfl) (zC)) (zC) (zC) fdok69 (by show 2<=56; decide) (zQ rfl) (fun nf x=>by show run69 fu c65 nf x.1 x.2.1=_; rw [eq69]; rfl)
theorem con36 (fu:Nat) (c65:zI as65->Option (zI rs65)) (h65:ConOk CC Tryd.prog 65 ⟨as65,rs65,c65⟩):ConOk CC Tryd.prog 36 ⟨as36,rs36,fun x=>sh36 fu c65 (fun _=>false) x.1 x.2.1⟩:=
 zV (c:=⟨as36,rs36,fun x=>sh36 fu c65 (fun _=>false) x.1 x.2.1⟩) (syn:=syn) (fu:=fu) (d:=2) (inl:=zA []) (orc:=zA [(65,(⟨as65,rs65,c65⟩:Con UU))]) (orr:=zA []) (orp:=zA []) (pf:=hasN [65]) (rf:=hasN []) zX CCok mixed (fun g=>(zE (α:=Con UU) (l:=[(65,(⟨as65,rs65,c65⟩:Con UU))]) g).symm) (fun g=>(zE (α:=CR UU) (l:=[]) g).symm) (zC) (zF (OrcOk.of ⟨zK7,h65⟩ rfl) (zC)) (zC) (zC) fdok36 (by show 2<=69; decide) (zQ rfl) (fun nf x=>by show run36 fu c65 nf x.1 x.2.1=_; rw [eq36]; rfl)
theorem con37 (fu:Nat) (c66:zI as66->Option (zI rs66)) (h66:ConOk CC Tryd.prog 66 ⟨as66,rs66,c66⟩) (c67:zI as67->Option (zI rs67)) (h67:ConOk CC Tryd.prog 67 ⟨as67,rs67,c67⟩) (c68:zI as68->Option (zI rs68)) (h68:ConOk CC Tryd.prog 68 ⟨as68,rs68,c68⟩) (c69:zI as69->Option (zI rs69)) (h69:ConOk CC Tryd.prog 69 ⟨as69,rs69,c69⟩):ConOk CC Tryd.prog 37 ⟨as37,rs37,fun x=>sh37 fu c66 c67 c68 c69 (fun _=>false) x.1 x.2.1⟩:=
 zV (c:=⟨as37,rs37,fun x=>sh37 fu c66 c67 c68 c69 (fun _=>false) x.1 x.2.1⟩) (syn:=syn) (fu:=fu) (d:=2) (inl:=zA []) (orc:=zA [(66,(⟨as66,rs66,c66⟩:Con UU)),(67,(⟨as67,rs67,c67⟩:Con UU)),(68,(⟨as68,rs68,c68⟩:Con UU)),(69,(⟨as69,rs69,c69⟩:Con UU))]) (orr:=zA []) (orp:=zA []) (pf:=hasN [66,67,68,69]) (rf:=hasN []) zX CCok mixed (fun g=>(zE (α:=Con UU) (l:=[(66,(⟨as66,rs66,c66⟩:Con UU)),(67,(⟨as67,rs67,c67⟩:Con UU)),(68,(⟨as68,rs68,c68⟩:Con UU)),(69,(⟨as69,rs69,c69⟩:Con UU))]) g).symm) (fun g=>(zE (α:=CR UU) (l:=[]) g).symm) (zC) (zF (OrcOk.of ⟨code66,h66⟩ rfl) (zF (OrcOk.of ⟨code67,h67⟩ rfl) (zF (OrcOk.of ⟨code68,h68⟩ rfl) (zF (OrcOk.of ⟨code69,h69⟩ rfl) (zC))))) (zC) (zC) fdok37 (by show 2<=41; decide) (zQ rfl) (fun nf x=>by show run37 fu c66 c67 c68 c69 nf x.1 x.2.1=_; rw [eq37]; rfl)
theorem con34 (fu:Nat) :ConOk CC Tryd.prog 34 ⟨as34,rs34,fun x=>sh34 fu (fun _=>false) x.1⟩:=
 zV (c:=⟨as34,rs34,fun x=>sh34 fu (fun _=>false) x.1⟩) (syn:=syn) (fu:=fu) (d:=2) (inl:=zA []) (orc:=zA []) (orr:=zA []) (orp:=zA []) (pf:=hasN []) (rf:=hasN []) zX CCok mixed (fun g=>(zE (α:=Con UU) (l:=[]) g).symm) (fun g=>(zE (α:=CR UU) (l:=[]) g).symm) (zC) (zC) (zC) (zC) fdok34 (by show 1<=40; decide) (zQ rfl) (fun nf x=>by show run34 fu nf x.1=_; rw [eq34]; rfl)
theorem con35 (fu:Nat) :ConOk CC Tryd.prog 35 ⟨as35,rs35,fun x=>sh35 fu (fun _=>false) x.1⟩:=
 zV (c:=⟨as35,rs35,fun x=>sh35 fu (fun _=>false) x.1⟩) (syn:=syn) (fu:=fu) (d:=2) (inl:=zA []) (orc:=zA []) (orr:=zA []) (orp:=zA []) (pf:=hasN []) (rf:=hasN []) zX CCok mixed (fun g=>(zE (α:=Con UU) (l:=[]) g).symm) (fun g=>(zE (α:=CR UU) (l:=[]) g).symm) (zC) (zC) (zC) (zC) fdok35 (by show 1<=21; decide) (zQ rfl) (fun nf x=>by show run35 fu nf x.1=_; rw [eq35]; rfl)
theorem con12 (fu:Nat) (c34:zI as34->Option (zI rs34)) (h34:ConOk CC Tryd.prog 34 ⟨as34,rs34,c34⟩) (c35:zI as35->Option (zI rs35)) (h35:ConOk CC Tryd.prog 35 ⟨as35,rs35,c35⟩) (c36:zI as36->Option (zI rs36)) (h36:ConOk CC Tryd.prog 36 ⟨as36,rs36,c36⟩) (c37:zI as37->Option (zI rs37)) (h37:ConOk CC Tryd.prog 37 ⟨as37,rs37,c37⟩):ConOk CC Tryd.prog 12 ⟨as12,rs12,fun x=>sh12 fu c34 c35 c36 c37 (fun _=>false) x.1 x.2.1⟩:=
 zV (c:=⟨as12,rs12,fun x=>sh12 fu c34 c35 c36 c37 (fun _=>false) x.1 x.2.1⟩) (syn:=syn) (fu:=fu) (d:=2) (inl:=zA []) (orc:=zA [(34,(⟨as34,rs34,c34⟩:Con UU)),(35,(⟨as35,rs35,c35⟩:Con UU)),(36,(⟨as36,rs36,c36⟩:Con UU)),(37,(⟨as37,rs37,c37⟩:Con UU))]) (orr:=zA []) (orp:=zA []) (pf:=hasN [34,35,36,37]) (rf:=hasN []) zX CCok mixed (fun g=>(zE (α:=Con UU) (l:=[(34,(⟨as34,rs34,c34⟩:Con UU)),(35,(⟨as35,rs35,c35⟩:Con UU)),(36,(⟨as36,rs36,c36⟩:Con UU)),(37,(⟨as37,rs37,c37⟩:Con UU))]) g).symm) (fun g=>(zE (α:=CR UU) (l:=[]) g).symm) (zC) (zF (OrcOk.of ⟨code34,h34⟩ rfl) (zF (OrcOk.of ⟨code35,h35⟩ rfl) (zF (OrcOk.of ⟨code36,h36⟩ rfl) (zF (OrcOk.of ⟨code37,h37⟩ rfl) (zC))))) (zC) (zC) fdok12 (by show 2<=65; decide) (zQ rfl) (fun nf x=>by show run12 fu c34 c35 c36 c37 nf x.1 x.2.1=_; rw [eq12]; rfl)
end
section
open Go.Al Go.Den
section
variable {ρ:Type} {r t f:Option ρ} {P:Prop} [Decidable P]
theorem Q_dec (h1:P->t=r) (h2:¬ P->f=r):cond (decide P) t f=r:=by
 by_cases h:P
 · rw [decide_eq_true h]; exact h1 h
 · rw [decide_eq_false h]; exact h2 h
theorem zA6 (h1:¬ P->t=r) (h2:P->f=r):cond (!(decide P)) t f=r:=by
 by_cases h:P
 · rw [decide_eq_true h]; exact h2 h
 · rw [decide_eq_false h]; exact h1 h
end
def d79 (n:Int):Option (Bool×Unit):=sh79 0 (fun _=>false) n
def c79 (x:Int×Unit):Option (Bool×Unit):=d79 x.1
theorem ok79:ConOk CC Tryd.prog 79 ⟨as79,rs79,c79⟩:=con79 0
def c80 (x:Int×Unit):Option (Bool×Unit):=sh80 0 (fun _=>false) x.1
theorem ok80:ConOk CC Tryd.prog 80 ⟨as80,rs80,c80⟩:=con80 0
theorem zCv (z:Int):c79 (z,())=some (decide (z=95\/(97<=z/\z<=122)\/(65<=z/\z<=90)),()):=by
 show sh79 0 (fun _=>false) z=_
 unfold sh79
 have fin:∀ b:Bool,(b=true↔(z=95\/(97<=z/\z<=122)\/(65<=z/\z<=90)))->(some (b,()):Option (Bool×Unit))=some (decide (z=95\/(97<=z/\z<=122)\/(65<=z/\z<=90)),()):=fun b h=>by
  have:b=decide (z=95\/(97<=z/\z<=122)\/(65<=z/\z<=90)):=by rw [Bool.eq_iff_iff,decide_eq_true_iff]; exact h
  rw [this]
 with_reducible refine zx (fun h=>?_) fun h=>?_
 · exact fin true (by simp; omega)
 with_reducible refine xU (fun h1=>?_) fun h1=>?_
 · with_reducible refine xU (fun h2=>?_) fun h2=>?_
   · exact fin true (by simp; omega)
   with_reducible refine xU (fun h3=>?_) fun h3=>?_
   · exact fin _ (by unfold ile; rw [decide_eq_true_iff]; omega)
   · exact fin false (by simp; omega)
 · with_reducible refine xU (fun h3=>?_) fun h3=>?_
   · exact fin _ (by unfold ile; rw [decide_eq_true_iff]; omega)
   · exact fin false (by simp; omega)
theorem kr (z:Int):c80 (z,())=some (decide (48<=z/\z<=57),()):=by
 show sh80 0 (fun _=>false) z=_
 unfold sh80
 with_reducible refine xU (fun h=>?_) fun h=>?_
 · have:ile z 57=decide (48<=z/\z<=57):=by unfold ile; rw [Bool.eq_iff_iff,decide_eq_true_iff,decide_eq_true_iff]; omega
   rw [this]
 · rw [decide_eq_false (by omega)]
theorem yG (s:Str) (j:Nat) (h:j < s.length):zD s (j:Int)=hd (s.drop j):=by
 rw [<- zHz]
 exact (if_pos (show (j:Int) < (s.length:Int) by omega)).symm
noncomputable def c65 (x:Str×Int×Str×Unit):Option (Bool×Unit):=sh65 0 (fun _=>false) x.1 x.2.1 x.2.2.1
theorem ok65:ConOk CC Tryd.prog 65 ⟨as65,rs65,c65⟩:=con65 0
noncomputable def c66 (fu:Nat) (x:Str×Int×Unit):Option (Int×Unit):=sh66 fu c79 c80 (fun _=>false) x.1 x.2.1
theorem ok66 (fu:Nat):ConOk CC Tryd.prog 66 ⟨as66,rs66,c66 fu⟩:=con66 fu c79 ok79 c80 ok80
noncomputable def c67 (fu:Nat) (x:Str×Int×Unit):Option (Int×Unit):=sh67 fu c79 c80 (fun _=>false) x.1 x.2.1
theorem ok67 (fu:Nat):ConOk CC Tryd.prog 67 ⟨as67,rs67,c67 fu⟩:=con67 fu c79 ok79 c80 ok80
noncomputable def c68 (fu:Nat) (x:Str×Int×Int×Unit):Option (Int×Unit):=sh68 fu (fun _=>false) x.1 x.2.1 x.2.2.1
theorem ok68 (fu:Nat):ConOk CC Tryd.prog 68 ⟨as68,rs68,c68 fu⟩:=con68 fu
noncomputable def c69 (fu:Nat) (x:Str×Int×Unit):Option (Int×Unit):=sh69 fu c65 (fun _=>false) x.1 x.2.1
theorem ok69 (fu:Nat):ConOk CC Tryd.prog 69 ⟨as69,rs69,c69 fu⟩:=con69 fu c65 ok65
noncomputable def c36 (fu:Nat) (x:Str×Int×Unit):Option (Int×Unit):=sh36 fu c65 (fun _=>false) x.1 x.2.1
theorem ok36 (fu:Nat):ConOk CC Tryd.prog 36 ⟨as36,rs36,c36 fu⟩:=con36 fu c65 ok65
noncomputable def c37 (fu:Nat) (x:Str×Int×Unit):Option (Int×Int×Unit):=sh37 fu (c66 fu) (c67 fu) (c68 fu) (c69 fu) (fun _=>false) x.1 x.2.1
theorem ok37 (fu:Nat):ConOk CC Tryd.prog 37 ⟨as37,rs37,c37 fu⟩:=con37 fu (c66 fu) (ok66 fu) (c67 fu) (ok67 fu) (c68 fu) (ok68 fu) (c69 fu) (ok69 fu)
noncomputable def c34 (fu:Nat) (x:Str×Unit):Option (List CharT×Unit):=sh34 fu (fun _=>false) x.1
theorem ok34 (fu:Nat):ConOk CC Tryd.prog 34 ⟨as34,rs34,c34 fu⟩:=con34 fu
noncomputable def c35 (fu:Nat) (x:List CharT×Unit):Option (Str×Unit):=sh35 fu (fun _=>false) x.1
theorem ok35 (fu:Nat):ConOk CC Tryd.prog 35 ⟨as35,rs35,c35 fu⟩:=con35 fu
noncomputable def c12 (fu:Nat) (x:Int×Str×Unit):Option (List TokT×Unit):=sh12 fu (c34 fu) (c35 fu) (c36 fu) (c37 fu) (fun _=>false) x.1 x.2.1
theorem ok12 (fu:Nat):ConOk CC Tryd.prog 12 ⟨as12,rs12,c12 fu⟩:=con12 fu (c34 fu) (ok34 fu) (c35 fu) (ok35 fu) (c36 fu) (ok36 fu) (c37 fu) (ok37 fu)
section
variable {s:Str} {p k:Nat} {fu:Nat} (hs:s.length<=1090000) (hfu:s.length+100 < fu) (hp:p<=s.length)
include hs hfu hp
theorem r65 (t:Str) (ht:t.length<=1000):c65 (s,(p:Int),t,())=some (t.isPrefixOf (s.drop p),()):=by
 show sh65 0 (fun _=>false) s (p:Int) t=_
 unfold sh65
 have e1:iadd .i64 (p:Int) (lenI t)=((p+t.length:Nat):Int):=by rw [show lenI t=(t.length:Int) from rfl,zt _ _ (by omega) (by omega)]; omega
 rw [e1,show lenI s=(s.length:Int) from rfl]
 with_reducible refine xU (fun h=>?_) fun h=>?_
 · refine zG (ku (by omega) (by omega) h) ?_
   have e2:cutL s (p:Int) ((p+t.length:Nat):Int)=(s.drop p).take t.length:=by
    unfold cutL
    rw [Int.toNat_natCast,Int.toNat_natCast,List.drop_take,Nat.add_sub_cancel_left]
   have e3:seq ((s.drop p).take t.length) t=t.isPrefixOf (s.drop p):=by
    rw [zBH,Bool.eq_iff_iff,decide_eq_true_iff,List.isPrefixOf_iff_prefix,List.prefix_iff_eq_take]
    exact eq_comm
   rw [e2,e3]
 · have e:t.isPrefixOf (s.drop p)=false:=by
    cases hh:t.isPrefixOf (s.drop p)
    · rfl
    · have:=(List.isPrefixOf_iff_prefix.1 hh).length_le
      rw [List.length_drop] at this
      omega
   rw [e]
theorem r66:c66 fu (s,(p:Int),())=some (((ye (s.drop p):Nat):Int),()):=by
 show sh66 fu c79 c80 (fun _=>false) s (p:Int)=(some (((ye (s.drop p):Nat):Int),()):Option (Int×Unit))
 unfold sh66
 refine zy (fun st=>∃ k:Nat,st=((((k:Int),()),()):(Int×PUnit)×PUnit)/\p+k<=s.length/\ye (s.drop p)=k+(if k=0 then ye (s.drop (p+k)) else xo (s.drop (p+k)))) (fun st=>s.length - st.1.1.toNat) ?_ fu _ ⟨0,rfl,by omega,by simp⟩ (by show s.length - (0:Int).toNat < fu; omega)
 rintro rec st ⟨k,rfl,hk,hw⟩ hrec
 dsimp only
 have hstep:(if k=0 then ye (s.drop (p+k)) else xo (s.drop (p+k)))=if letP (hd (s.drop (p+k)))\/(0 < k/\digP (hd (s.drop (p+k)))) then xo (s.drop (p+k+1))+1 else 0:=by
  by_cases h0:k=0
  · subst h0
    rw [if_pos rfl,zIy,List.drop_drop]
    by_cases h1:letP (hd (s.drop (p+0)))
    · rw [if_pos h1,if_pos (.inl h1)]
    · rw [if_neg h1,if_neg (by rintro (h | ⟨h,_⟩); exact h1 h; omega)]
  · rw [if_neg h0,zIW,List.drop_drop]
    by_cases h1:letP (hd (s.drop (p+k)))\/digP (hd (s.drop (p+k)))
    · rw [if_pos h1,if_pos (by rcases h1 with h | h; exact .inl h; exact .inr ⟨by omega,h⟩)]
    · rw [if_neg h1,if_neg (by rintro (h | ⟨_,h⟩); exact h1 (.inl h); exact h1 (.inr h))]
 rw [hstep] at hw
 have e1:iadd .i64 (p:Int) (k:Int)=((p+k:Nat):Int):=by rw [zt _ _ (by omega) (by omega)]; omega
 rw [e1,i1 (k:=k) (by omega),show lenI s=(s.length:Int) from rfl]
 with_reducible refine zq (fun h=>?_) fun h=>?_
 rotate_left
 · rw [List.drop_eq_nil_of_le (show s.length<=p+k by omega),if_neg (by show ¬ (letP (0:Int)\/(0 < k/\digP (0:Int))); unfold letP digP; omega)] at hw
   rw [hw]; rfl
 have hlt:p+k < s.length:=by omega
 refine zG (zb (by omega) (by omega)) ?_
 rw [yG s (p+k) hlt]
 generalize hd (s.drop (p+k))=z at hw ⊢
 have go:(letP z\/(0 < k/\digP z))->rec (((((k+1:Nat):Int)),()),())=some (((ye (s.drop p):Nat):Int),()):=fun h=>by
  rw [if_pos h] at hw
  exact hrec _ ⟨k+1,rfl,by omega,by rw [if_neg (by omega),hw,Nat.add_assoc p k 1]; omega⟩ (by dsimp only; omega)
 have stop:¬ (letP z\/(0 < k/\digP z))->(some ((k:Int),()):Option (Int×Unit))=some (((ye (s.drop p):Nat):Int),()):=fun h=>by
  rw [if_neg h] at hw
  rw [hw]; rfl
 unfold letP digP at go stop
 refine zM (zCv z) ?_
 dsimp only
 with_reducible refine Q_dec (fun h1=>?_) fun h1=>?_
 · exact go (.inl h1)
 with_reducible refine zq (fun h2=>?_) fun h2=>?_
 · refine zG (zb (by omega) (by omega)) ?_
   refine zM (kr z) ?_
   dsimp only
   with_reducible refine Q_dec (fun h3=>?_) fun h3=>?_
   · exact go (.inr ⟨by omega,h3⟩)
   · exact stop (by omega)
 · exact stop (by omega)
theorem r68 (q:Int) (hq:q≠10) (hp1:p < s.length):c68 fu (s,(p:Int),q,())=some (((quoL q (s.drop p):Nat):Int),()):=by
 show sh68 fu (fun _=>false) s (p:Int) q=(some (((quoL q (s.drop p):Nat):Int),()):Option (Int×Unit))
 unfold sh68
 have hn:quoL q (s.drop p)=if hd (s.drop p)=q then quoT q 1 (s.drop (p+1)) else 0:=by
  unfold quoL
  rw [List.drop_drop]
 refine zG (zb (by omega) (by omega)) ?_
 rw [yG s p hp1]
 generalize hd (s.drop p)=z at hn
 with_reducible refine jC (fun h1=>?_) fun h1=>?_
 · rw [hn,if_neg h1]; rfl
 rw [hn,if_pos h1]
 refine zy (fun st=>∃ k:Nat,st=((((k:Int),()),()):(Int×PUnit)×PUnit)/\1<=k/\p+k<=s.length+1/\quoT q 1 (s.drop (p+1))=quoT q k (s.drop (p+k))) (fun st=>s.length+2 - st.1.1.toNat) ?_ fu _ ⟨1,rfl,by omega,by omega,rfl⟩ (by show s.length+2 - (1:Int).toNat < fu; omega)
 rintro rec st ⟨k,rfl,hk1,hk,hw⟩ hrec
 dsimp only
 have e1:iadd .i64 (p:Int) (k:Int)=((p+k:Nat):Int):=by rw [zt _ _ (by omega) (by omega)]; omega
 have e2:iadd .i64 (p:Int) ((k+1:Nat):Int)=((p+k+1:Nat):Int):=by rw [zt _ _ (by omega) (by omega)]; omega
 rw [i1 (k:=k) (by omega),i1 (k:=k+1) (by omega),e1,e2,show lenI s=(s.length:Int) from rfl]
 with_reducible refine zq (fun h2=>?_) fun h2=>?_
 rotate_left
 · rw [hw,List.drop_eq_nil_of_le (by omega)]; rfl
 have hlt:p+k < s.length:=by omega
 have hne:s.drop (p+k)≠[]:=fun e=>by
  have:=congrArg List.length e
  rw [List.length_drop,List.length_nil] at this
  omega
 rw [zJW q k _ hne,List.drop_drop,List.drop_drop] at hw
 rw [yG s (p+k) hlt]
 have hw1:p+k+1 < s.length->zD s ((p+k+1:Nat):Int)=hd (s.drop (p+k+1)):=yG s _
 have hend:s.length<=p+k+1->hd (s.drop (p+k+1))=0/\∀ n,quoT q n (s.drop (p+k+2))=0:=fun h=>by
  rw [List.drop_eq_nil_of_le h,List.drop_eq_nil_of_le (show s.length<=p+k+2 by omega)]
  exact ⟨rfl,fun n=>rfl⟩
 generalize hd (s.drop (p+k))=y at hw ⊢
 generalize hd (s.drop (p+k+1))=w at hw hw1 hend
 have hin:inB ((p+k:Nat):Int) s.length=true:=zb (by omega) (by omega)
 refine zG hin ?_
 with_reducible refine jC (fun a0=>?_) fun a0=>?_
 · refine zG hin ?_
   with_reducible refine zx (fun a1=>?_) fun a1=>?_
   · rw [if_pos a1] at hw
     with_reducible refine zx (fun a2=>?_) fun a2=>?_
     · with_reducible refine zx (fun a3=>?_) fun a3=>?_
       · rw [if_pos ⟨a3,by omega⟩] at hw; rw [hw]; rfl
       · rw [if_neg fun h=>a3 h.1] at hw; rw [hw]
     · rw [if_neg fun h=>a2 (by omega)] at hw; rw [hw]
   rw [if_neg a1,if_neg a0] at hw
   refine zG hin ?_
   with_reducible refine zx (fun a3=>?_) fun a3=>?_
   · rw [if_pos a3] at hw
     with_reducible refine xU (fun a4=>?_) fun a4=>?_
     · obtain ⟨b1,b2⟩:=hend (by omega)
       rw [if_neg (by omega),b2] at hw
       rw [hw]; rfl
     · refine zG (zb (by omega) (by omega)) ?_
       rw [hw1 (by omega)]
       with_reducible refine zx (fun a5=>?_) fun a5=>?_
       · rw [if_pos a5] at hw; rw [hw]; rfl
       · rw [if_neg a5] at hw
         exact hrec _ ⟨k+1+1,rfl,by omega,by omega,by rw [hw,<- Nat.add_assoc p (k+1) 1,<- Nat.add_assoc p k 1]⟩ (by dsimp only; omega)
   · rw [if_neg a3] at hw
     exact hrec _ ⟨k+1,rfl,by omega,by omega,by rw [hw,<- Nat.add_assoc p k 1]⟩ (by dsimp only; omega)
 · rw [if_neg (by omega),if_pos a0] at hw
   rw [hw]; rfl
theorem zLP (hp1:p+1<=s.length) {r:Option (Int×Unit)} (hr:r=some (((numT (s.drop (p+1))+1:Nat):Int),())) {F:((Int×PUnit)×PUnit->Option (Int×Unit))->(Int×PUnit)×PUnit->Option (Int×Unit)}
 (hF:∀ (k:Nat) (z w:Int) rec,p+k<=s.length->(p+k < s.length->zD s ((p+k:Nat):Int)=z)->(p+k+1 < s.length->zD s ((p+k+1:Nat):Int)=w)->(s.length<=p+k->z=0)->(s.length<=p+k+1->w=0)->1<=k->k<=1100000 ->
  ((expP z/\(w=43\/w=45))->rec (((((k+2:Nat):Int)),()),())=r)->((¬ (expP z/\(w=43\/w=45))/\aldP z)->rec (((((k+1:Nat):Int)),()),())=r) ->
  ((¬ (expP z/\(w=43\/w=45))/\¬ aldP z)->(some ((k:Int),()):Option (Int×Unit))=r)->F rec (((k:Int),()),())=r) :
 iter fu F ((1,()),())=r:=by
 obtain ⟨y,hy⟩:∃ y,r=some y:=⟨_,hr⟩
 rw [hy] at hF ⊢
 refine zy (fun st=>∃ k:Nat,st=((((k:Int),()),()):(Int×PUnit)×PUnit)/\1<=k/\p+k<=s.length/\numT (s.drop (p+1))+1=k+numT (s.drop (p+k))) (fun st=>s.length - st.1.1.toNat) ?_ fu _ ⟨1,rfl,by omega,by omega,by omega⟩ (by show s.length - (1:Int).toNat < fu; omega)
 rintro rec st ⟨k,rfl,hk1,hk,hw⟩ hrec
 rw [hy] at hr
 rw [zJl (s.drop (p+k)),List.drop_drop,List.drop_drop] at hw
 have b0:=yG s (p+k)
 have b1:=yG s (p+k+1)
 have hpos:s.length<=p+k->hd (s.drop (p+k))=0:=fun h=>by rw [List.drop_eq_nil_of_le h]; rfl
 have hpos1:s.length<=p+k+1->hd (s.drop (p+k+1))=0:=fun h=>by rw [List.drop_eq_nil_of_le h]; rfl
 generalize hd (s.drop (p+k))=z at hw hpos b0
 generalize hd (s.drop (p+k+1))=w at hw hpos1 b1
 refine hF k z w rec hk b0 b1 hpos hpos1 hk1 (by omega) (fun h=>?_) (fun h=>?_) (fun h=>?_)
 · rw [if_pos h] at hw
   have h3:p+k+1 < s.length:=by
    rcases Nat.lt_or_ge (p+k+1) s.length with h1 | h1
    · exact h1
    · have:=hpos1 h1; omega
   exact hrec _ ⟨k+2,rfl,by omega,by omega,by rw [<- Nat.add_assoc p k 2]; omega⟩ (by dsimp only; omega)
 · rw [if_neg h.1,if_pos h.2] at hw
   have h3:p+k < s.length:=by
    rcases Nat.lt_or_ge (p+k) s.length with h1 | h1
    · exact h1
    · have h4:=hpos h1
      have h5:=h.2
      rw [h4] at h5
      unfold aldP letP digP at h5
      omega
   exact hrec _ ⟨k+1,rfl,by omega,by omega,by rw [<- Nat.add_assoc p k 1]; omega⟩ (by dsimp only; omega)
 · rw [if_neg h.1,if_neg h.2] at hw
   rw [hr,hw]; rfl
theorem r67 (hp1:p < s.length):c67 fu (s,(p:Int),())=some (((numL (s.drop p):Nat):Int),()):=by
 show sh67 fu c79 c80 (fun _=>false) s (p:Int)=(some (((numL (s.drop p):Nat):Int),()):Option (Int×Unit))
 unfold sh67
 have hn:numL (s.drop p)=if digP (hd (s.drop p))\/(hd (s.drop p)=46/\digP (hd (s.drop (p+1)))) then numT (s.drop (p+1))+1 else 0:=by
  unfold numL
  rw [List.drop_drop]
 have b0:=yG s p hp1
 have b1:=yG s (p+1)
 have hend:s.length<=p+1->hd (s.drop (p+1))=0:=fun h=>by rw [List.drop_eq_nil_of_le h]; rfl
 generalize hd (s.drop p)=z at b0 hn
 generalize hd (s.drop (p+1))=w at b1 hn hend
 have no:¬ (digP z\/(z=46/\digP w))->(some ((0:Int),()):Option (Int×Unit))=some (((numL (s.drop p):Nat):Int),()):=fun h=>by
  rw [hn,if_neg h]; rfl
 have go:∀ {F:((Int×PUnit)×PUnit->Option (Int×Unit))->(Int×PUnit)×PUnit->Option (Int×Unit)},(digP z\/(z=46/\digP w)) ->
  (∀ (k:Nat) (z w:Int) rec (r:Option (Int×Unit)),p+k<=s.length->(p+k < s.length->zD s ((p+k:Nat):Int)=z)->(p+k+1 < s.length->zD s ((p+k+1:Nat):Int)=w)->(s.length<=p+k->z=0)->(s.length<=p+k+1->w=0)->1<=k->k<=1100000 ->
   ((expP z/\(w=43\/w=45))->rec (((((k+2:Nat):Int)),()),())=r)->((¬ (expP z/\(w=43\/w=45))/\aldP z)->rec (((((k+1:Nat):Int)),()),())=r) ->
   ((¬ (expP z/\(w=43\/w=45))/\¬ aldP z)->(some ((k:Int),()):Option (Int×Unit))=r)->F rec (((k:Int),()),())=r) ->
  iter fu F ((1,()),())=some (((numL (s.drop p):Nat):Int),()):=fun h hF=>by
  rw [hn,if_pos h]
  exact zLP hs hfu hp (by omega) rfl fun k z w rec a1 a2 a3 a4 a5 a6 a7 a8 a9 a10=>hF k z w rec _ a1 a2 a3 a4 a5 a6 a7 a8 a9 a10
 unfold digP at no go
 have hin:inB (p:Int) s.length=true:=zb (by omega) (by omega)
 have e1:iadd .i64 (p:Int) 1=((p+1:Nat):Int):=i1 (by omega)
 rw [e1,b0,show lenI s=(s.length:Int) from rfl]
 refine zG hin ?_
 refine zM (kr z) ?_
 dsimp only
 have fin:∀ (k:Nat) (z w:Int) (rec:(Int×PUnit)×PUnit->Option (Int×Unit)) (r:Option (Int×Unit)),p+k<=s.length->(p+k < s.length->zD s ((p+k:Nat):Int)=z)->(p+k+1 < s.length->zD s ((p+k+1:Nat):Int)=w)->(s.length<=p+k->z=0)->(s.length<=p+k+1->w=0)->1<=k->k<=1100000 ->
  iadd .i64 (p:Int) (k:Int)=((p+k:Nat):Int)/\iadd .i64 ((p+k:Nat):Int) 1=((p+k+1:Nat):Int)/\iadd .i64 (k:Int) 1=((k+1:Nat):Int)/\iadd .i64 (k:Int) 2=((k+2:Nat):Int)/\(p+k < s.length->inB ((p+k:Nat):Int) s.length=true)/\(p+k+1 < s.length->inB ((p+k+1:Nat):Int) s.length=true):=fun k z w rec r a1 a2 a3 a4 a5 a6 a7=>
  ⟨by rw [zt _ _ (by omega) (by omega)]; omega,by rw [zt _ _ (by omega) (by omega)]; omega,i1 (by omega),by rw [zt _ _ (by omega) (by omega)]; omega,fun h=>zb (by omega) (by omega),fun h=>zb (by omega) (by omega)⟩
 with_reducible refine zA6 (fun h=>?_) fun h=>?_
 · refine zG hin ?_
   with_reducible refine zx (fun h1=>?_) fun h1=>?_
   · with_reducible refine zq (fun h2=>?_) fun h2=>?_
     · have h3:p+1 < s.length:=by omega
       refine zG (zb (by omega) (by omega)) ?_
       rw [b1 h3]
       refine zM (kr w) ?_
       dsimp only
       with_reducible refine zA6 (fun h4=>?_) fun h4=>?_
       · exact no (by omega)
       · refine go (.inr ⟨h1,h4⟩) ?_
         intro k z w rec r a1 a2 a3 a4 a5 a6 a7 go2 go1 stop
         obtain ⟨x1,x2,x3,x4,x5,x6⟩:=fin k z w rec r a1 a2 a3 a4 a5 a6 a7
         clear fin go no hn b0 b1 hend
         dsimp only
         rw [x1,x2,x3,x4]
         unfold expP aldP letP digP at *
         with_reducible refine zq (fun u=>?_) fun u=>?_
         rotate_left
         · have:=a4 (by omega)
           exact stop (by omega)
         have u1:p+k < s.length:=by omega
         rw [a2 u1]
         refine zG (x5 u1) ?_
         with_reducible refine zq (fun v=>?_) fun v=>?_
         · have v1:p+k+1 < s.length:=by omega
           rw [a3 v1]
           have x7:=x6 v1
           clear a2 a3 a4 a5
           repeat' (first
            | ((with_reducible refine go2 ?_); omega)
            | ((with_reducible refine go1 ?_); omega)
            | ((with_reducible refine stop ?_); omega)
            | (with_reducible refine zG x7 ?_)
            | (with_reducible refine zx (fun _=>?_) fun _=>?_)
            | (with_reducible refine jC (fun _=>?_) fun _=>?_)
            | ((with_reducible refine zM (zCv z) ?_); dsimp only)
            | ((with_reducible refine zM (kr z) ?_); dsimp only)
            | (with_reducible refine zA6 (fun _=>?_) fun _=>?_))
         · have v0:=a5 (by omega)
           clear a2 a3 a4 a5
           repeat' (first
            | ((with_reducible refine go1 ?_); omega)
            | ((with_reducible refine stop ?_); omega)
            | (with_reducible refine zx (fun _=>?_) fun _=>?_)
            | (with_reducible refine jC (fun _=>?_) fun _=>?_)
            | ((with_reducible refine zM (zCv z) ?_); dsimp only)
            | ((with_reducible refine zM (kr z) ?_); dsimp only)
            | (with_reducible refine zA6 (fun _=>?_) fun _=>?_))
     · have:=hend (by omega)
       exact no (by omega)
   · exact no (by omega)
 · refine go (.inl h) ?_
   intro k z w rec r a1 a2 a3 a4 a5 a6 a7 go2 go1 stop
   obtain ⟨x1,x2,x3,x4,x5,x6⟩:=fin k z w rec r a1 a2 a3 a4 a5 a6 a7
   clear fin go no hn b0 b1 hend
   dsimp only
   rw [x1,x2,x3,x4]
   unfold expP aldP letP digP at *
   with_reducible refine zq (fun u=>?_) fun u=>?_
   rotate_left
   · have:=a4 (by omega)
     exact stop (by omega)
   have u1:p+k < s.length:=by omega
   rw [a2 u1]
   refine zG (x5 u1) ?_
   with_reducible refine zq (fun v=>?_) fun v=>?_
   · have v1:p+k+1 < s.length:=by omega
     rw [a3 v1]
     have x7:=x6 v1
     clear a2 a3 a4 a5
     repeat' (first
      | ((with_reducible refine go2 ?_); omega)
      | ((with_reducible refine go1 ?_); omega)
      | ((with_reducible refine stop ?_); omega)
      | (with_reducible refine zG x7 ?_)
      | (with_reducible refine zx (fun _=>?_) fun _=>?_)
      | (with_reducible refine jC (fun _=>?_) fun _=>?_)
      | ((with_reducible refine zM (zCv z) ?_); dsimp only)
      | ((with_reducible refine zM (kr z) ?_); dsimp only)
      | (with_reducible refine zA6 (fun _=>?_) fun _=>?_))
   · have v0:=a5 (by omega)
     clear a2 a3 a4 a5
     repeat' (first
      | ((with_reducible refine go1 ?_); omega)
      | ((with_reducible refine stop ?_); omega)
      | (with_reducible refine zx (fun _=>?_) fun _=>?_)
      | (with_reducible refine jC (fun _=>?_) fun _=>?_)
      | ((with_reducible refine zM (zCv z) ?_); dsimp only)
      | ((with_reducible refine zM (kr z) ?_); dsimp only)
      | (with_reducible refine zA6 (fun _=>?_) fun _=>?_))
end
end
section
open Go.Al Go.Den
theorem zEk {ρ:Type} {fu n:Nat} (P:Nat->Bool) {F:((Int×PUnit)×PUnit->Option ρ)->(Int×PUnit)×PUnit->Option ρ} (yes rest:Option ρ) (hn:n < fu)
 (hF:∀ (k:Nat) rec,k<=n->(k < n->(P k=true->F rec (((k:Int),()),())=yes)/\(P k=false->F rec (((k:Int),()),())=rec (((((k+1:Nat):Int)),()),())))/\(¬ k < n->F rec (((k:Int),()),())=rest)) :
 iter fu F ((0,()),())=if (List.range n).any P then yes else rest:=by
 refine zK9 (fun o=>o=if (List.range n).any P then yes else rest) (fun st=>∃ k:Nat,st=((((k:Int),()),()):(Int×PUnit)×PUnit)/\k<=n/\(List.range k).any P=false) (fun st=>n - st.1.1.toNat) ?_ fu _ ⟨0,rfl,Nat.zero_le _,rfl⟩ (by show n - (0:Int).toNat < fu; omega)
 rintro rec st ⟨k,rfl,hk,hw⟩ hrec
 obtain ⟨h1,h2⟩:=hF k rec hk
 by_cases hlt:k < n
 · cases hP:P k with
   | true=>
    rw [(h1 hlt).1 hP,if_pos (List.any_eq_true.2 ⟨k,List.mem_range.2 hlt,hP⟩)]
   | false=>
    rw [(h1 hlt).2 hP]
    exact hrec _ ⟨k+1,rfl,hlt,by rw [List.range_succ,List.any_append,hw,List.any_cons,hP]; rfl⟩ (by dsimp only; omega)
 · obtain rfl:k=n:=by omega
   rw [h2 hlt,hw]; rfl
theorem zCz {α:Type} (l:List α) (d:α) (P:α->Bool):(List.range l.length).any (fun k=>P (l.getD k d))=l.any P:=by
 rw [Bool.eq_iff_iff,List.any_eq_true,List.any_eq_true]
 constructor
 · rintro ⟨k,hk,h⟩
   have hk:=List.mem_range.1 hk
   rw [List.getD_eq_getElem?_getD,List.getElem?_eq_getElem hk] at h
   exact ⟨_,List.getElem_mem hk,h⟩
 · rintro ⟨x,hx,h⟩
   obtain ⟨k,hk,rfl⟩:=List.getElem_of_mem hx
   exact ⟨k,List.mem_range.2 hk,by rw [List.getD_eq_getElem?_getD,List.getElem?_eq_getElem hk]; exact h⟩
def sgn3:List Str:=[[46,46,46],[60,60,61],[62,62,61]]
def sgn2:List Str:=[[45,62],[43,43],[45,45],[60,60],[62,62],[60,61],[62,61],[61,61],[33,61],[38,38],[124,124],[42,61],[47,61],[37,61],[43,61],[45,61],[38,61],[94,61],[124,61],[35,35]]
def one1:Str:=[91,93,40,41,123,125,46,38,42,43,45,126,33,47,37,60,62,94,124,63,58,59,61,44,35]
theorem zJA:signsL=sgn3++(sgn2++one1.map fun c=>[c]):=by kernel_rfl
theorem zDJ (r:Str):∀ (a b:List Str) (n:Nat),qT (a++b) n r=qT b (qT a n r) r
 | [],b,n=>rfl
 | t::a,b,n=>zDJ r a b _
theorem zAh (r:Str) (m:Nat):∀ (l:List Str) (n:Nat),(∀ t ∈ l,t.length=m)->qT l n r=if m<=n then n else if l.any (fun t=>t.isPrefixOf r) then m else n
 | [],n,_=>by rw [qT]; simp
 | t::l,n,h=>by
  have ht:=h t (by simp)
  have ih:=fun n=>zAh r m l n (fun t ht=>h t (by simp [ht]))
  rw [qT,ht]
  by_cases h1:m<=n
  · rw [if_pos h1,ih,if_pos h1,if_pos h1]
  · rw [if_neg h1,if_neg h1,List.any_cons]
    cases hp:t.isPrefixOf r with
    | true=>
     rw [if_pos rfl,ih,if_pos (Nat.le_refl _),Bool.true_or,if_pos rfl]
    | false=>
     rw [if_neg Bool.false_ne_true,ih,if_neg h1,Bool.false_or]
theorem len3:∀ t ∈ sgn3,t.length=3:=by decide
theorem len2:∀ t ∈ sgn2,t.length=2:=by decide
theorem zLv (r:Str):xe r=if sgn3.any (fun t=>t.isPrefixOf r) then 3 else if sgn2.any (fun t=>t.isPrefixOf r) then 2 else if (one1.map fun c=>([c]:Str)).any (fun t=>t.isPrefixOf r) then 1 else 0:=by
 unfold xe
 rw [zJA,zDJ,zDJ,zAh r 3 sgn3 0 len3,if_neg (show ¬ 3<=0 by omega)]
 rw [zAh r 2 sgn2 _ len2,zAh r 1 (one1.map fun c=>[c]) _ (fun t ht=>by obtain ⟨c,_,rfl⟩:=List.mem_map.1 ht; rfl)]
 generalize sgn3.any (fun t=>t.isPrefixOf r)=a
 generalize sgn2.any (fun t=>t.isPrefixOf r)=b
 generalize (one1.map fun c=>([c]:Str)).any (fun t=>t.isPrefixOf r)=c
 cases a <;> cases b <;> cases c <;> simp
theorem zI5 (r:Str):(if Lib.indexByte r 10 < 0 then r.length else (Lib.indexByte r 10).toNat)=if r=[]\/hd r=10 then 0 else (if Lib.indexByte (r.drop 1) 10 < 0 then (r.drop 1).length else (Lib.indexByte (r.drop 1) 10).toNat)+1:=by
 cases r with
 | nil=>simp [Lib.indexByte]
 | cons c q=>
  rw [Lib.indexByte]
  by_cases h:(c == 10)=true
  · rw [if_pos h,if_neg (Int.lt_irrefl 0),if_pos (Or.inr (by have:=eq_of_beq h; rw [this]; rfl))]; rfl
  · have h1:¬ (c::q=[]\/hd (c::q)=10):=by
     rintro (e | e)
     · cases e
     · refine h (beq_iff_eq.2 (UInt8.toNat_inj.1 ?_))
       have e2:(c.toNat:Int)=10:=e
       show c.toNat=10
       omega
    rw [if_neg h,if_neg h1,List.drop_one,List.tail_cons]
    have h3:=Lib.indexByte_ge q 10
    by_cases h2:(Lib.indexByte q 10 == -1)=true
    · have h4:Lib.indexByte q 10 = -1:=eq_of_beq h2
      rw [if_pos h2,h4]; rfl
    · have h4:Lib.indexByte q 10≠-1:=fun e=>h2 (by rw [e]; rfl)
      rw [if_neg h2,if_neg (by omega),if_neg (by omega)]
      omega
theorem zKw (r sub:Str) (hs:sub≠[]) (hr:r≠[]):Lib.index r sub=if sub.isPrefixOf r then 0 else if Lib.index (r.drop 1) sub < 0 then -1 else Lib.index (r.drop 1) sub+1:=by
 cases r with
 | nil=>exact absurd rfl hr
 | cons c q=>
  rw [Lib.index]
  by_cases h:sub.isPrefixOf (c::q)=true
  · rw [if_pos h,if_pos h]
  · rw [if_neg h,if_neg h,List.drop_one,List.tail_cons]
    have h3:=Lib.index_ge q sub
    by_cases h2:(Lib.index q sub == -1)=true
    · have h4:Lib.index q sub = -1:=eq_of_beq h2
      rw [if_pos h2,if_pos (by omega)]
    · have h4:Lib.index q sub≠-1:=fun e=>h2 (by rw [e]; rfl)
      rw [if_neg h2,if_neg (by omega)]
theorem zLR (sub:Str) (hs:sub≠[]):Lib.index [] sub = -1:=by
 cases sub with
 | nil=>exact absurd rfl hs
 | cons a l=>rfl
section
variable {s:Str} {p k:Nat} {fu:Nat} (hs:s.length<=1090000) (hfu:s.length+100 < fu) (hp:p<=s.length)
include hs hfu hp
theorem r69 (hp1:p < s.length):c69 fu (s,(p:Int),())=some (((xe (s.drop p):Nat):Int),()):=by
 show sh69 fu c65 (fun _=>false) s (p:Int)=(some (((xe (s.drop p):Nat):Int),()):Option (Int×Unit))
 rw [zLv,<- zCz sgn3 [] fun t=>t.isPrefixOf (s.drop p),<- zCz sgn2 [] fun t=>t.isPrefixOf (s.drop p),<- zCz (one1.map fun c=>([c]:Str)) [] fun t=>t.isPrefixOf (s.drop p)]
 have hR:∀ a b c:Bool,(some (((if a=true then 3 else if b=true then 2 else if c=true then 1 else 0:Nat):Int),()):Option (Int×Unit))=if a=true then some (3,()) else if b=true then some (2,()) else if c=true then some (1,()) else some (0,()):=by
  intro a b c
  cases a <;> cases b <;> cases c <;> rfl
 rw [hR]
 unfold sh69
 have hin:inB (p:Int) s.length=true:=zb (by omega) (by omega)
 have g3:∀ k,k < 3->(sgn3.getD k []).length<=1000:=by decide
 have g2:∀ k,k < 20->(sgn2.getD k []).length<=1000:=by decide
 refine zEk (n:=3) (fun k=>(sgn3.getD k []).isPrefixOf (s.drop p)) _ _ (by omega) fun k rec hk=>⟨fun hlt=>?_,fun hn=>?_⟩
 · have h65:=r65 hs hfu hp (sgn3.getD k []) (g3 k hlt)
   have key:∀ b:Bool,(sgn3.getD k []).isPrefixOf (s.drop p)=b->∀ (Y N:Option (Int×Unit)) (r:Option (Int×Unit)),(cond b Y N=r)->(Option.bind (c65 (s,((p:Int),(sgn3.getD k [],())))) fun y0=>cond y0.1 Y N)=r:=fun b hb Y N r h=>by
    refine zM h65 ?_
    dsimp only
    rw [hb]
    exact h
   refine ⟨fun hP=>?_,fun hP=>?_⟩
   · refine zG (xn (show (k:Int) < 3 by omega)) (zG (zb (show (0:Int)<=(k:Int) by omega) (show (k:Int) < ((3:Nat):Int) by omega)) ?_)
     exact key true hP _ _ _ rfl
   · refine zG (xn (show (k:Int) < 3 by omega)) (zG (zb (show (0:Int)<=(k:Int) by omega) (show (k:Int) < ((3:Nat):Int) by omega)) ?_)
     rw [i1 (k:=k) (by omega)]
     exact key false hP _ _ _ rfl
 refine zP (qu (show (3:Int)<=(k:Int) by omega)) ?_
 clear hk hn k rec
 refine zEk (n:=20) (fun k=>(sgn2.getD k []).isPrefixOf (s.drop p)) _ _ (by omega) fun k rec hk=>⟨fun hlt=>?_,fun hn=>?_⟩
 · have h65:=r65 hs hfu hp (sgn2.getD k []) (g2 k hlt)
   have key:∀ b:Bool,(sgn2.getD k []).isPrefixOf (s.drop p)=b->∀ (Y N:Option (Int×Unit)) (r:Option (Int×Unit)),(cond b Y N=r)->(Option.bind (c65 (s,((p:Int),(sgn2.getD k [],())))) fun y0=>cond y0.1 Y N)=r:=fun b hb Y N r h=>by
    refine zM h65 ?_
    dsimp only
    rw [hb]
    exact h
   refine ⟨fun hP=>?_,fun hP=>?_⟩
   · refine zG (xn (show (k:Int) < 20 by omega)) (zG (zb (show (0:Int)<=(k:Int) by omega) (show (k:Int) < ((20:Nat):Int) by omega)) ?_)
     exact key true hP _ _ _ rfl
   · refine zG (xn (show (k:Int) < 20 by omega)) (zG (zb (show (0:Int)<=(k:Int) by omega) (show (k:Int) < ((20:Nat):Int) by omega)) ?_)
     rw [i1 (k:=k) (by omega)]
     exact key false hP _ _ _ rfl
 refine zP (qu (show (20:Int)<=(k:Int) by omega)) ?_
 clear hk hn k rec
 have h1l:(one1.map fun c=>([c]:Str)).length=25:=rfl
 rw [h1l]
 refine zEk (n:=25) (fun k=>((one1.map fun c=>([c]:Str)).getD k []).isPrefixOf (s.drop p)) _ _ (by omega) fun k rec hk=>⟨fun hlt=>?_,fun hn=>?_⟩
 · have hb:((one1.map fun c=>([c]:Str)).getD k []).isPrefixOf (s.drop p)=decide (zD s (p:Int)=zD one1 (k:Int)):=by
    have hk1:k < one1.length:=hlt
    rw [yG s p hp1,yG one1 k hk1,List.drop_eq_getElem_cons hp1,List.drop_eq_getElem_cons hk1,List.getD_eq_getElem?_getD,List.getElem?_map,List.getElem?_eq_getElem hk1]
    show (one1[k] == s[p] && true)=decide ((s[p].toNat:Int)=(one1[k].toNat:Int))
    rw [Bool.and_true,Bool.eq_iff_iff,beq_iff_eq,decide_eq_true_iff]
    exact ⟨fun h=>by rw [h],fun h=>UInt8.toNat_inj.1 (by omega)⟩
   refine ⟨fun hP=>?_,fun hP=>?_⟩
   · rw [hb] at hP
     refine zG (xn (show (k:Int) < 25 by omega)) (zG hin (zG (zb (show (0:Int)<=(k:Int) by omega) (show (k:Int) < ((25:Nat):Int) by omega)) ?_))
     exact zG (qW (of_decide_eq_true hP)) rfl
   · rw [hb] at hP
     refine zG (xn (show (k:Int) < 25 by omega)) (zG hin (zG (zb (show (0:Int)<=(k:Int) by omega) (show (k:Int) < ((25:Nat):Int) by omega)) ?_))
     rw [i1 (k:=k) (by omega)]
     exact zP (zBn (of_decide_eq_false hP)) rfl
 · exact zP (qu (show (25:Int)<=(k:Int) by omega)) rfl
theorem r36 (hp1:p < s.length):c36 fu (s,(p:Int),())=some (((p+blaL (s.drop p):Nat):Int),()):=by
 show sh36 fu c65 (fun _=>false) s (p:Int)=(some (((p+blaL (s.drop p):Nat):Int),()):Option (Int×Unit))
 obtain ⟨B,hB⟩:∃ B,B=blaL (s.drop p):=⟨_,rfl⟩
 rw [<- hB]
 unfold blaL at hB
 unfold sh36
 have hin:inB (p:Int) s.length=true:=zb (by omega) (by omega)
 have b0:=yG s p hp1
 generalize hd (s.drop p)=z at b0 hB
 rw [b0,i1 (k:=p) (by omega)]
 have e2:iadd .i64 (p:Int) 2=((p+2:Nat):Int):=by rw [zt _ _ (by omega) (by omega)]; omega
 rw [e2]
 have one:(z=32\/z=9\/z=11\/z=12\/z=13)->(some ((((p+1:Nat):Int)),()):Option (Int×Unit))=some (((p+B:Nat):Int),()):=fun h=>by
  rw [if_pos h] at hB
  rw [hB]
 have h47:=r65 hs hfu hp [47,47] (by show 2<=1000; omega)
 have h42:=r65 hs hfu hp [47,42] (by show 2<=1000; omega)
 have rest:¬ (z=32\/z=9\/z=11\/z=12\/z=13)->(Option.bind (c65 (s,((p:Int),([47,47],())))) fun y0=>
  cond y0.1
   (iter fu (fun (rec1:((Int×PUnit)×PUnit)->Option (Int×PUnit)) (s1:((Int×PUnit)×PUnit))=>
    cond (ilt s1.1.1 (lenI s))
     (cond (inB s1.1.1 (List.length s))
      (cond (ine (zD s s1.1.1) 10)
       (rec1 (((iadd .i64 s1.1.1 1),()),()))
       (some (s1.1.1,())))
      (none))
     (some (s1.1.1,())))
    (((p:Int),()),()))
   (Option.bind (c65 (s,((p:Int),([47,42],())))) fun y1=>
    cond y1.1
     (iter fu (fun (rec1:((Int×PUnit)×PUnit)->Option (Int×PUnit)) (s1:((Int×PUnit)×PUnit))=>
      cond (ilt s1.1.1 (lenI s))
       (Option.bind (c65 (s,(s1.1.1,([42,47],())))) fun y2=>
        cond y2.1
         (some ((iadd .i64 s1.1.1 2),()))
         (rec1 (((iadd .i64 s1.1.1 1),()),())))
       (some ((p:Int),())))
      (((((p+2:Nat):Int)),()),()))
     (some ((p:Int),()))))=(some (((p+B:Nat):Int),()):Option (Int×Unit)):=fun hn=>by
  rw [if_neg hn] at hB
  refine zM h47 ?_
  dsimp only
  refine zBC (fun h1=>?_) fun h1=>?_
  · rw [if_pos h1] at hB
    refine zy (fun st=>∃ q:Nat,st=((((q:Int),()),()):(Int×PUnit)×PUnit)/\p<=q/\q<=s.length/\p+B=q+(if Lib.indexByte (s.drop q) 10 < 0 then (s.drop q).length else (Lib.indexByte (s.drop q) 10).toNat)) (fun st=>s.length - st.1.1.toNat) ?_ fu _ ⟨p,rfl,Nat.le_refl _,hp,by rw [hB]⟩ (by show s.length - (p:Int).toNat < fu; omega)
    rintro rec st ⟨q,rfl,hpq,hq,hw⟩ hrec
    dsimp only
    rw [zI5,List.drop_drop] at hw
    with_reducible refine zq (fun h2=>?_) fun h2=>?_
    · have hlt:q < s.length:=by have:(q:Int) < (s.length:Int):=h2; omega
      refine zG (zb (by omega) (by omega)) ?_
      rw [yG s q hlt]
      have hne:s.drop q≠[]:=fun e=>by
       have:=congrArg List.length e
       rw [List.length_drop,List.length_nil] at this
       omega
      with_reducible refine jC (fun h3=>?_) fun h3=>?_
      · rw [if_neg (by rintro (e | e); exact hne e; exact h3 e)] at hw
        rw [i1 (k:=q) (by omega)]
        exact hrec _ ⟨q+1,rfl,by omega,by omega,by omega⟩ (by dsimp only; omega)
      · rw [if_pos (.inr h3)] at hw
        rw [hw]; rfl
    · have hge:s.length<=q:=by have:(s.length:Int)<=(q:Int):=h2; omega
      rw [if_pos (.inl (List.drop_eq_nil_of_le hge))] at hw
      rw [hw]; rfl
  · rw [if_neg (by rw [h1]; exact Bool.false_ne_true)] at hB
    refine zM h42 ?_
    dsimp only
    refine zBC (fun h2=>?_) fun h2=>?_
    rotate_left
    · rw [if_neg (by rw [h2]; exact Bool.false_ne_true)] at hB
      rw [hB]; rfl
    rw [if_pos h2,List.drop_drop] at hB
    have hpl:=(List.isPrefixOf_iff_prefix.1 h2).length_le
    rw [List.length_drop] at hpl
    have hpl2:2<=s.length - p:=hpl
    refine zy (fun st=>∃ q:Nat,st=((((q:Int),()),()):(Int×PUnit)×PUnit)/\p+2<=q/\q<=s.length/\(Lib.index (s.drop (p+2)) [42,47] < 0↔Lib.index (s.drop q) [42,47] < 0)/\(0<=Lib.index (s.drop q) [42,47]->((p+2:Nat):Int)+Lib.index (s.drop (p+2)) [42,47]=(q:Int)+Lib.index (s.drop q) [42,47])) (fun st=>s.length - st.1.1.toNat) ?_ fu _ ⟨p+2,rfl,Nat.le_refl _,by omega,Iff.rfl,fun _=>rfl⟩ (by show s.length - ((p+2:Nat):Int).toNat < fu; omega)
    rintro rec st ⟨q,rfl,hpq,hq,hw1,hw2⟩ hrec
    dsimp only
    with_reducible refine zq (fun h3=>?_) fun h3=>?_
    · have hlt:q < s.length:=by have:(q:Int) < (s.length:Int):=h3; omega
      have hne:s.drop q≠[]:=fun e=>by
       have:=congrArg List.length e
       rw [List.length_drop,List.length_nil] at this
       omega
      rw [zKw (s.drop q) [42,47] (by decide) hne,List.drop_drop] at hw1 hw2
      refine zM (r65 hs hfu (show q<=s.length by omega) [42,47] (by show 2<=1000; omega)) ?_
      dsimp only
      have hmono:=Lib.index_ge (s.drop (q+1)) [42,47]
      generalize hv:Lib.index (s.drop (q+1)) [42,47]=v at hw1 hw2 hmono
      refine zBC (fun h4=>?_) fun h4=>?_
      · rw [if_pos h4] at hw1 hw2
        have h5:=hw2 (Int.le_refl 0)
        have h6:¬ Lib.index (s.drop (p+2)) [42,47] < 0:=fun h=>absurd (hw1.1 h) (by omega)
        rw [if_neg h6] at hB
        have e7:iadd .i64 (q:Int) 2=((q+2:Nat):Int):=by rw [zt _ _ (by omega) (by omega)]; omega
        rw [e7]
        have e8:q+2=p+B:=by omega
        rw [e8]
      · rw [if_neg (by rw [h4]; exact Bool.false_ne_true)] at hw1 hw2
        rw [i1 (k:=q) (by omega)]
        refine hrec _ ⟨q+1,rfl,by omega,by omega,?_,?_⟩ (by dsimp only; omega)
        · rw [hw1,hv]
          by_cases h7:v < 0
          · rw [if_pos h7]; omega
          · rw [if_neg h7]; omega
        · rw [hv]
          intro h7
          rw [if_neg (by omega)] at hw2
          have:=hw2 (by omega)
          omega
    · have hge:s.length<=q:=by have:(s.length:Int)<=(q:Int):=h3; omega
      rw [List.drop_eq_nil_of_le hge,zLR [42,47] (by decide)] at hw1
      rw [if_pos (hw1.2 (by omega))] at hB
      rw [hB]; rfl
 refine zG hin ?_
 with_reducible refine zx (fun h1=>?_) fun h1=>?_
 · exact one (by omega)
 refine zG hin ?_
 with_reducible refine zx (fun h2=>?_) fun h2=>?_
 · exact one (by omega)
 refine zG hin ?_
 with_reducible refine xU (fun h3=>?_) fun h3=>?_
 · refine zG hin ?_
   with_reducible refine xU (fun h4=>?_) fun h4=>?_
   · exact one (by omega)
   · exact rest (by omega)
 · exact rest (by omega)
theorem r37 (hp1:p < s.length):c37 fu (s,(p:Int),())=some ((z6 (s.drop p)).1,(((z6 (s.drop p)).2:Nat):Int),()):=by
 show sh37 fu (c66 fu) (c67 fu) (c68 fu) (c69 fu) (fun _=>false) s (p:Int)=(some ((z6 (s.drop p)).1,(((z6 (s.drop p)).2:Nat):Int),()):Option (Int×Int×Unit))
 unfold sh37
 have h1:=r66 hs hfu hp
 have h2:=r67 hs hfu hp hp1
 have h3:=r68 hs hfu hp 34 (by omega) hp1
 have h4:=r68 hs hfu hp 39 (by omega) hp1
 have h5:=r69 hs hfu hp hp1
 have b0:=yG s p hp1
 unfold z6
 generalize ye (s.drop p)=w at h1 ⊢
 generalize numL (s.drop p)=n at h2 ⊢
 generalize quoL 34 (s.drop p)=q at h3 ⊢
 generalize quoL 39 (s.drop p)=q' at h4 ⊢
 generalize xe (s.drop p)=g at h5 ⊢
 generalize hd (s.drop p)=z at b0 ⊢
 rw [b0]
 refine zG (zb (by omega) (by omega)) ?_
 with_reducible refine zx (fun a=>?_) fun a=>?_
 · rw [if_pos a]; rfl
 rw [if_neg a]
 refine zM h1 ?_
 dsimp only
 with_reducible refine zq (fun a=>?_) fun a=>?_
 · rw [if_pos (by omega)]
 rw [if_neg (by omega)]
 refine zM h2 ?_
 dsimp only
 with_reducible refine zq (fun a=>?_) fun a=>?_
 · rw [if_pos (by omega)]
 rw [if_neg (by omega)]
 refine zM h3 ?_
 dsimp only
 with_reducible refine zq (fun a=>?_) fun a=>?_
 · rw [if_pos (by omega)]
 rw [if_neg (by omega)]
 refine zM h4 ?_
 dsimp only
 with_reducible refine zq (fun a=>?_) fun a=>?_
 · rw [if_pos (by omega)]
 rw [if_neg (by omega)]
 refine zM h5 ?_
 dsimp only
 with_reducible refine zq (fun a=>?_) fun a=>?_
 · rw [if_pos (by omega)]
 rw [if_neg (by omega)]
 rfl
end
theorem chG_eq (r:Str) (i:Nat) (hr:r≠[]):chG r i=if hd r=92/\hd (r.drop 1)=10 then chG (r.drop 2) (i+2) else ⟨hd r,(i:Int)⟩::chG (r.drop 1) (i+1):=by
 match r,hr with
 | [c],_=>
  have h:¬ (hd ([c]:Str)=92/\hd (([c]:Str).drop 1)=10):=fun h=>absurd (show (0:Int)=10 from h.2) (by omega)
  rw [if_neg h]
  rfl
 | c::d::r,_=>
  have e:(c == 92 && d == 10)=decide (hd (c::d::r)=92/\hd ((c::d::r).drop 1)=10):=by
   show (c == 92 && d == 10)=decide ((c.toNat:Int)=92/\(d.toNat:Int)=10)
   rw [Bool.eq_iff_iff,Bool.and_eq_true,beq_iff_eq,beq_iff_eq,decide_eq_true_iff]
   refine ⟨fun h=>by rw [h.1,h.2]; exact ⟨rfl,rfl⟩,fun h=>⟨UInt8.toNat_inj.1 ?_,UInt8.toNat_inj.1 ?_⟩⟩
   · show c.toNat=92; omega
   · show d.toNat=10; omega
  show cond (c == 92 && d == 10) _ _=_
  rw [e]
  by_cases h:hd (c::d::r)=92/\hd ((c::d::r).drop 1)=10
  · rw [if_pos h,decide_eq_true h]; rfl
  · rw [if_neg h,decide_eq_false h]; rfl
theorem r34 {fu:Nat} (t:Str) (ht:t.length<=1090000) (hfu:t.length+100 < fu):c34 fu (t,())=some (chG t 0,()):=by
 show sh34 fu (fun _=>false) t=(some (chG t 0,()):Option (List CharT×Unit))
 unfold sh34
 refine zy (fun st=>∃ (out:List CharT) (k:Nat),st=(((out,((k:Int),())),()):(List CharT×Int×PUnit)×PUnit)/\k<=t.length/\out.length<=k/\out++chG (t.drop k) k=chG t 0) (fun st=>t.length - st.1.2.1.toNat) ?_ fu _ ⟨[],0,rfl,Nat.zero_le _,Nat.le_refl _,rfl⟩ (by show t.length - (0:Int).toNat < fu; omega)
 rintro rec st ⟨out,k,rfl,hk,ho,hw⟩ hrec
 dsimp only
 rw [show lenI t=(t.length:Int) from rfl,i1 (k:=k) (by omega)]
 have e2:iadd .i64 (k:Int) 2=((k+2:Nat):Int):=by rw [zt _ _ (by omega) (by omega)]; omega
 rw [e2]
 with_reducible refine zq (fun h=>?_) fun h=>?_
 rotate_left
 · rw [List.drop_eq_nil_of_le (by omega)] at hw
   have:chG [] k=[]:=rfl
   rw [this,List.append_nil] at hw
   rw [hw]
 have hlt:k < t.length:=by omega
 have hne:t.drop k≠[]:=fun e=>by
  have:=congrArg List.length e
  rw [List.length_drop,List.length_nil] at this
  omega
 rw [chG_eq _ _ hne,List.drop_drop,List.drop_drop] at hw
 have hin:inB (k:Int) t.length=true:=zb (by omega) (by omega)
 rw [yG t k hlt]
 have b1:=yG t (k+1)
 have hend:t.length<=k+1->hd (t.drop (k+1))=0:=fun h=>by rw [List.drop_eq_nil_of_le h]; rfl
 generalize hd (t.drop k)=z at hw ⊢
 generalize hd (t.drop (k+1))=w at hw b1 hend
 have add:¬ (z=92/\w=10)->cond (inB (k:Int) (List.length t)) (cond (okN 16 ((List.length out)+(List.length [(CharT.mk z (k:Int))]))) (rec (((out++[(CharT.mk z (k:Int))]),((((k+1:Nat):Int)),())),())) none) none=some (chG t 0,()):=fun hn=>by
  rw [if_neg hn] at hw
  refine zG hin (zG (zAX (by rw [List.length_singleton]; omega) (by rw [List.length_singleton]; simp only [maxLen]; omega)) ?_)
  refine hrec _ ⟨_,k+1,rfl,by omega,by rw [List.length_append,List.length_singleton]; omega,?_⟩ (by dsimp only; omega)
  rw [List.append_assoc,List.singleton_append]
  exact hw
 refine zG hin ?_
 with_reducible refine zx (fun h1=>?_) fun h1=>?_
 · with_reducible refine zq (fun h2=>?_) fun h2=>?_
   · refine zG (zb (by omega) (by omega)) ?_
     rw [b1 (by omega)]
     with_reducible refine zx (fun h3=>?_) fun h3=>?_
     · rw [if_pos ⟨h1,h3⟩] at hw
       exact hrec _ ⟨out,k+2,rfl,by omega,by omega,hw⟩ (by dsimp only; omega)
     · exact add (by omega)
   · have:=hend (by omega)
     exact add (by omega)
 · exact add (by omega)
theorem r35 {fu:Nat} (cs:List CharT) (ht:cs.length<=1090000) (hfu:cs.length+100 < fu):c35 fu (cs,())=some (txt cs,()):=by
 show sh35 fu (fun _=>false) cs=(some (txt cs,()):Option (Str×Unit))
 unfold sh35
 refine zy (fun st=>∃ (out:Str) (k:Nat),st=(((out,((k:Int),())),()):(Str×Int×PUnit)×PUnit)/\k<=cs.length/\out.length=k/\out++txt (cs.drop k)=txt cs) (fun st=>cs.length - st.1.2.1.toNat) ?_ fu _ ⟨[],0,rfl,Nat.zero_le _,rfl,rfl⟩ (by show cs.length - (0:Int).toNat < fu; omega)
 rintro rec st ⟨out,k,rfl,hk,ho,hw⟩ hrec
 dsimp only
 rw [show lenI cs=(cs.length:Int) from rfl,i1 (k:=k) (by omega)]
 with_reducible refine zq (fun h=>?_) fun h=>?_
 rotate_left
 · rw [List.drop_eq_nil_of_le (by omega)] at hw
   have:txt []=[]:=rfl
   rw [this,List.append_nil] at hw
   rw [hw]
 have hlt:k < cs.length:=by omega
 refine zG (zb (by omega) (by omega)) ?_
 rw [Int.toNat_natCast,List.getD_eq_getElem?_getD,List.getElem?_eq_getElem hlt,Option.getD_some]
 have e:zDV (fun x=>x) [CharT.b cs[k]]=[UInt8.ofNat cs[k].b.toNat]:=rfl
 rw [e]
 refine zG (Nat.ble_eq_true_of_le (by rw [List.length_singleton]; omega)) ?_
 refine hrec _ ⟨_,k+1,rfl,by omega,by rw [List.length_append,List.length_singleton]; omega,?_⟩ (by dsimp only; omega)
 rw [List.drop_eq_getElem_cons hlt] at hw
 rw [List.append_assoc,List.singleton_append]
 exact hw
theorem c12_eq (fu:Nat) (file:Int) (t:Str) (ht:t.length<=1090000) (hfu:t.length+100 < fu):c12 fu (file,t,())=some (tokS file t,()):=by
 show sh12 fu (c34 fu) (c35 fu) (c36 fu) (c37 fu) (fun _=>false) file t=(some (tokS file t,()):Option (List TokT×Unit))
 unfold sh12
 have hcl:=kR t 0
 have hl:(txt (chG t 0)).length=(chG t 0).length:=by unfold txt; rw [List.length_map]
 refine zM (r34 t ht hfu) ?_
 dsimp only
 refine zM (r35 (chG t 0) (by omega) (by omega)) ?_
 dsimp only
 have hfat:=zJi t
 unfold tokS
 generalize hcs:chG t 0=cs at hcl hl hfat ⊢
 generalize hs:txt cs=s at hl ⊢
 have hs9:s.length<=1090000:=by omega
 have hf9:s.length+100 < fu:=by omega
 refine zy (fun st=>∃ (out:List TokT) (p:Nat) (b:Bool),st=(((out,((p:Int),(b,()))),()):(List TokT×Int×Bool×PUnit)×PUnit)/\p<=s.length/\out.length<=p/\out++lexA file cs (s.drop p) p b=lexA file cs s 0 false) (fun st=>s.length+1 - st.1.2.1.toNat) ?_ fu _ ⟨[],0,false,rfl,Nat.zero_le _,Nat.le_refl _,rfl⟩ (by show s.length+1 - (0:Int).toNat < fu; omega)
 rintro rec st ⟨out,p,b,rfl,hp,hout,hw⟩ hrec
 dsimp only
 rw [zJt] at hw
 rw [show lenI s=(s.length:Int) from rfl]
 with_reducible refine zq (fun h=>?_) fun h=>?_
 rotate_left
 · rw [if_pos (List.drop_eq_nil_of_le (by omega)),List.append_nil] at hw
   rw [hw]
 have hlt:p < s.length:=by omega
 have hne:s.drop p≠[]:=fun e=>by
  have:=congrArg List.length e
  rw [List.length_drop,List.length_nil] at this
  omega
 have h36:=r36 hs9 hf9 hp hlt
 have h37:=r37 hs9 hf9 hp hlt
 have hbl:=zF0 (s.drop p)
 rw [List.length_drop] at hbl
 have hnp:=ji (s.drop p)
 have hnl:=zEC (s.drop p) hne
 rw [List.length_drop] at hnl
 rw [if_neg hne] at hw
 generalize z6 (s.drop p)=kn at hw h37 hnp hnl
 obtain ⟨kk,n⟩:=kn
 dsimp only at hw h37 hnp hnl
 generalize blaL (s.drop p)=B at hw h36 hbl
 refine zM h36 ?_
 dsimp only
 with_reducible refine zq (fun h1=>?_) fun h1=>?_
 · rw [if_pos (by omega),List.drop_drop] at hw
   exact hrec _ ⟨out,p+B,true,rfl,by omega,by omega,hw⟩ (by dsimp only; omega)
 rw [if_neg (by omega)] at hw
 refine zM h37 ?_
 dsimp only
 have e1:iadd .i64 (p:Int) (n:Int)=((p+n:Nat):Int):=by rw [zt _ _ (by omega) (by omega)]; omega
 have e2:isub .i64 ((p+n:Nat):Int) 1=((p+n - 1:Nat):Int):=by rw [zFi _ _ (by omega) (by omega)]; omega
 rw [e1,e2,Int.toNat_natCast,Int.toNat_natCast]
 have hf:=hfat (p+n - 1)
 rw [zt _ 1 (by omega) (by omega)]
 refine zG (ku (by omega) (by omega) (by omega)) ?_
 refine zG (zb (by omega) (by omega)) ?_
 refine zG (zb (by omega) (by omega)) ?_
 refine zG (zAX (by rw [List.length_singleton]; omega) (by rw [List.length_singleton]; simp only [maxLen]; omega)) ?_
 have e3:cutL s (p:Int) ((p+n:Nat):Int)=(s.drop p).take n:=by
  unfold cutL
  rw [Int.toNat_natCast,Int.toNat_natCast,List.drop_take,Nat.add_sub_cancel_left]
 rw [e3]
 refine hrec _ ⟨_,p+n,false,rfl,by omega,by rw [List.length_append,List.length_singleton]; omega,?_⟩ (by dsimp only; omega)
 rw [List.append_assoc,List.singleton_append,<- List.drop_drop]
 exact hw
end
end Go.Proofs.YtonnigoiklahdaaDoor
