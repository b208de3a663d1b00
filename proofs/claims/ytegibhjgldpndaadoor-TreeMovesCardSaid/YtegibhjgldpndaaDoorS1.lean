/-
  The runs, printed: what the functions work out, in plain Lean.
-/
import Derived.Test.YtegibhjgldpndaaDoorF1
set_option linter.unusedVariables false
set_option linter.unusedSimpArgs false
namespace Go.Proofs.YtegibhjgldpndaaDoor
open Go.Al Go.Den

def sh30 (fu : Nat) (nf : Nat → Bool) (x0 : (List UInt8)) (x1 : (List UInt8)) : (Option (Bool × PUnit)) :=
  cond (ile (lenI x1) (lenI x0))
    (cond (inS 0 (lenI x1) (List.length x0))
      (some ((seq (cutL x0 0 (lenI x1)) x1), ()))
      (none))
    (some (false, ()))
theorem eq30 (fu : Nat) (nf : Nat → Bool) (x0 : (List UInt8)) (x1 : (List UInt8)) : run30 fu nf x0 x1 = sh30 fu nf x0 x1 := by kernel_rfl

def sh32 (fu : Nat) (nf : Nat → Bool) (x0 : (List UInt8)) (x1 : (List UInt8)) : (Option ((List UInt8) × PUnit)) :=
  cond (ile (lenI x1) (lenI x0))
    (cond (inS 0 (lenI x1) (List.length x0))
      (cond (seq (cutL x0 0 (lenI x1)) x1)
        (cond (inS (lenI x1) (lenI x0) (List.length x0))
          (some ((cutL x0 (lenI x1) (lenI x0)), ()))
          (none))
        (some (x0, ())))
      (none))
    (some (x0, ()))
theorem eq32 (fu : Nat) (nf : Nat → Bool) (x0 : (List UInt8)) (x1 : (List UInt8)) : run32 fu nf x0 x1 = sh32 fu nf x0 x1 := by kernel_rfl

def sh33 (fu : Nat) (nf : Nat → Bool) (x0 : (List UInt8)) (x1 : Int) (x2 : Int) (x3 : Int) : (Option (Int × (Int × PUnit))) :=
  iter fu (fun (rec1 : (Int × (Int × PUnit)) → Option (Int × (Int × PUnit))) (s1 : (Int × (Int × PUnit))) =>
      cond (ilt s1.1 (lenI x0))
        (cond (inB s1.1 (List.length x0))
          (cond (ile 48 (byteAt x0 s1.1))
            (cond (inB s1.1 (List.length x0))
              (cond (ile (byteAt x0 s1.1) 57)
                (cond (ilt (isub .i64 s1.1 x1) 5)
                  (cond (inB s1.1 (List.length x0))
                    (rec1 ((iadd .i64 s1.1 1), ((iadd .i64 (imul .i64 10 s1.2.1) (iwrap .i64 (isub .u8 (byteAt x0 s1.1) 48))), ())))
                    (none))
                  (cond (ieq s1.1 x1)
                    (some (0, ((Neg.neg 1), ())))
                    (cond (ilt s1.2.1 x2)
                      (some (0, ((Neg.neg 1), ())))
                      (cond (ilt x3 s1.2.1)
                        (some (0, ((Neg.neg 1), ())))
                        (cond (ilt 1 (isub .i64 s1.1 x1))
                          (cond (inB x1 (List.length x0))
                            (cond (ieq (byteAt x0 x1) 48)
                              (some (0, ((Neg.neg 1), ())))
                              (cond (ilt s1.1 (lenI x0))
                                (cond (inB s1.1 (List.length x0))
                                  (cond (ile 48 (byteAt x0 s1.1))
                                    (cond (inB s1.1 (List.length x0))
                                      (cond (ile (byteAt x0 s1.1) 57)
                                        (some (0, ((Neg.neg 1), ())))
                                        (some (s1.2.1, (s1.1, ()))))
                                      (none))
                                    (some (s1.2.1, (s1.1, ()))))
                                  (none))
                                (some (s1.2.1, (s1.1, ())))))
                            (none))
                          (cond (ilt s1.1 (lenI x0))
                            (cond (inB s1.1 (List.length x0))
                              (cond (ile 48 (byteAt x0 s1.1))
                                (cond (inB s1.1 (List.length x0))
                                  (cond (ile (byteAt x0 s1.1) 57)
                                    (some (0, ((Neg.neg 1), ())))
                                    (some (s1.2.1, (s1.1, ()))))
                                  (none))
                                (some (s1.2.1, (s1.1, ()))))
                              (none))
                            (some (s1.2.1, (s1.1, ())))))))))
                (cond (ieq s1.1 x1)
                  (some (0, ((Neg.neg 1), ())))
                  (cond (ilt s1.2.1 x2)
                    (some (0, ((Neg.neg 1), ())))
                    (cond (ilt x3 s1.2.1)
                      (some (0, ((Neg.neg 1), ())))
                      (cond (ilt 1 (isub .i64 s1.1 x1))
                        (cond (inB x1 (List.length x0))
                          (cond (ieq (byteAt x0 x1) 48)
                            (some (0, ((Neg.neg 1), ())))
                            (cond (ilt s1.1 (lenI x0))
                              (cond (inB s1.1 (List.length x0))
                                (cond (ile 48 (byteAt x0 s1.1))
                                  (cond (inB s1.1 (List.length x0))
                                    (cond (ile (byteAt x0 s1.1) 57)
                                      (some (0, ((Neg.neg 1), ())))
                                      (some (s1.2.1, (s1.1, ()))))
                                    (none))
                                  (some (s1.2.1, (s1.1, ()))))
                                (none))
                              (some (s1.2.1, (s1.1, ())))))
                          (none))
                        (cond (ilt s1.1 (lenI x0))
                          (cond (inB s1.1 (List.length x0))
                            (cond (ile 48 (byteAt x0 s1.1))
                              (cond (inB s1.1 (List.length x0))
                                (cond (ile (byteAt x0 s1.1) 57)
                                  (some (0, ((Neg.neg 1), ())))
                                  (some (s1.2.1, (s1.1, ()))))
                                (none))
                              (some (s1.2.1, (s1.1, ()))))
                            (none))
                          (some (s1.2.1, (s1.1, ())))))))))
              (none))
            (cond (ieq s1.1 x1)
              (some (0, ((Neg.neg 1), ())))
              (cond (ilt s1.2.1 x2)
                (some (0, ((Neg.neg 1), ())))
                (cond (ilt x3 s1.2.1)
                  (some (0, ((Neg.neg 1), ())))
                  (cond (ilt 1 (isub .i64 s1.1 x1))
                    (cond (inB x1 (List.length x0))
                      (cond (ieq (byteAt x0 x1) 48)
                        (some (0, ((Neg.neg 1), ())))
                        (cond (ilt s1.1 (lenI x0))
                          (cond (inB s1.1 (List.length x0))
                            (cond (ile 48 (byteAt x0 s1.1))
                              (cond (inB s1.1 (List.length x0))
                                (cond (ile (byteAt x0 s1.1) 57)
                                  (some (0, ((Neg.neg 1), ())))
                                  (some (s1.2.1, (s1.1, ()))))
                                (none))
                              (some (s1.2.1, (s1.1, ()))))
                            (none))
                          (some (s1.2.1, (s1.1, ())))))
                      (none))
                    (cond (ilt s1.1 (lenI x0))
                      (cond (inB s1.1 (List.length x0))
                        (cond (ile 48 (byteAt x0 s1.1))
                          (cond (inB s1.1 (List.length x0))
                            (cond (ile (byteAt x0 s1.1) 57)
                              (some (0, ((Neg.neg 1), ())))
                              (some (s1.2.1, (s1.1, ()))))
                            (none))
                          (some (s1.2.1, (s1.1, ()))))
                        (none))
                      (some (s1.2.1, (s1.1, ())))))))))
          (none))
        (cond (ieq s1.1 x1)
          (some (0, ((Neg.neg 1), ())))
          (cond (ilt s1.2.1 x2)
            (some (0, ((Neg.neg 1), ())))
            (cond (ilt x3 s1.2.1)
              (some (0, ((Neg.neg 1), ())))
              (cond (ilt 1 (isub .i64 s1.1 x1))
                (cond (inB x1 (List.length x0))
                  (cond (ieq (byteAt x0 x1) 48)
                    (some (0, ((Neg.neg 1), ())))
                    (cond (ilt s1.1 (lenI x0))
                      (cond (inB s1.1 (List.length x0))
                        (cond (ile 48 (byteAt x0 s1.1))
                          (cond (inB s1.1 (List.length x0))
                            (cond (ile (byteAt x0 s1.1) 57)
                              (some (0, ((Neg.neg 1), ())))
                              (some (s1.2.1, (s1.1, ()))))
                            (none))
                          (some (s1.2.1, (s1.1, ()))))
                        (none))
                      (some (s1.2.1, (s1.1, ())))))
                  (none))
                (cond (ilt s1.1 (lenI x0))
                  (cond (inB s1.1 (List.length x0))
                    (cond (ile 48 (byteAt x0 s1.1))
                      (cond (inB s1.1 (List.length x0))
                        (cond (ile (byteAt x0 s1.1) 57)
                          (some (0, ((Neg.neg 1), ())))
                          (some (s1.2.1, (s1.1, ()))))
                        (none))
                      (some (s1.2.1, (s1.1, ()))))
                    (none))
                  (some (s1.2.1, (s1.1, ())))))))))
    (x1, (0, ()))
set_option maxRecDepth 100000 in
theorem eq33 (fu : Nat) (nf : Nat → Bool) (x0 : (List UInt8)) (x1 : Int) (x2 : Int) (x3 : Int) : run33 fu nf x0 x1 x2 x3 = sh33 fu nf x0 x1 x2 x3 := by kernel_rfl

def sh31 (fu : Nat) (c38 : ((List UInt8) × PUnit) → (Option (Int × (Bool × PUnit)))) (nf : Nat → Bool) (x0 : (List UInt8)) (x1 : Int) (x2 : Int) : (Option (Int × ((List UInt8) × (Bool × PUnit)))) :=
  iter fu (fun (rec1 : (Int × PUnit) → Option (Int × ((List UInt8) × (Bool × PUnit)))) (s1 : (Int × PUnit)) =>
      cond (ilt s1.1 (lenI x0))
        (cond (inB s1.1 (List.length x0))
          (cond (ile 48 (byteAt x0 s1.1))
            (cond (inB s1.1 (List.length x0))
              (cond (ile (byteAt x0 s1.1) 57)
                (rec1 ((iadd .i64 s1.1 1), ()))
                (cond (inS 0 s1.1 (List.length x0))
                  (Option.bind (c38 ((cutL x0 0 s1.1), ())) fun (y1 : (Int × (Bool × PUnit))) =>
                    cond y1.2.1
                      (cond (inS s1.1 (lenI x0) (List.length x0))
                        (some (y1.1, ((cutL x0 s1.1 (lenI x0)), (false, ()))))
                        (none))
                      (cond (ile x1 y1.1)
                        (cond (ile y1.1 x2)
                          (cond (ieq s1.1 1)
                            (cond (inS s1.1 (lenI x0) (List.length x0))
                              (some (y1.1, ((cutL x0 s1.1 (lenI x0)), (true, ()))))
                              (none))
                            (cond (inB 0 (List.length x0))
                              (cond (inS s1.1 (lenI x0) (List.length x0))
                                (some (y1.1, ((cutL x0 s1.1 (lenI x0)), ((ine (byteAt x0 0) 48), ()))))
                                (none))
                              (none)))
                          (cond (inS s1.1 (lenI x0) (List.length x0))
                            (some (y1.1, ((cutL x0 s1.1 (lenI x0)), (false, ()))))
                            (none)))
                        (cond (inS s1.1 (lenI x0) (List.length x0))
                          (some (y1.1, ((cutL x0 s1.1 (lenI x0)), (false, ()))))
                          (none))))
                  (none)))
              (none))
            (cond (inS 0 s1.1 (List.length x0))
              (Option.bind (c38 ((cutL x0 0 s1.1), ())) fun (y1 : (Int × (Bool × PUnit))) =>
                cond y1.2.1
                  (cond (inS s1.1 (lenI x0) (List.length x0))
                    (some (y1.1, ((cutL x0 s1.1 (lenI x0)), (false, ()))))
                    (none))
                  (cond (ile x1 y1.1)
                    (cond (ile y1.1 x2)
                      (cond (ieq s1.1 1)
                        (cond (inS s1.1 (lenI x0) (List.length x0))
                          (some (y1.1, ((cutL x0 s1.1 (lenI x0)), (true, ()))))
                          (none))
                        (cond (inB 0 (List.length x0))
                          (cond (inS s1.1 (lenI x0) (List.length x0))
                            (some (y1.1, ((cutL x0 s1.1 (lenI x0)), ((ine (byteAt x0 0) 48), ()))))
                            (none))
                          (none)))
                      (cond (inS s1.1 (lenI x0) (List.length x0))
                        (some (y1.1, ((cutL x0 s1.1 (lenI x0)), (false, ()))))
                        (none)))
                    (cond (inS s1.1 (lenI x0) (List.length x0))
                      (some (y1.1, ((cutL x0 s1.1 (lenI x0)), (false, ()))))
                      (none))))
              (none)))
          (none))
        (cond (inS 0 s1.1 (List.length x0))
          (Option.bind (c38 ((cutL x0 0 s1.1), ())) fun (y1 : (Int × (Bool × PUnit))) =>
            cond y1.2.1
              (cond (inS s1.1 (lenI x0) (List.length x0))
                (some (y1.1, ((cutL x0 s1.1 (lenI x0)), (false, ()))))
                (none))
              (cond (ile x1 y1.1)
                (cond (ile y1.1 x2)
                  (cond (ieq s1.1 1)
                    (cond (inS s1.1 (lenI x0) (List.length x0))
                      (some (y1.1, ((cutL x0 s1.1 (lenI x0)), (true, ()))))
                      (none))
                    (cond (inB 0 (List.length x0))
                      (cond (inS s1.1 (lenI x0) (List.length x0))
                        (some (y1.1, ((cutL x0 s1.1 (lenI x0)), ((ine (byteAt x0 0) 48), ()))))
                        (none))
                      (none)))
                  (cond (inS s1.1 (lenI x0) (List.length x0))
                    (some (y1.1, ((cutL x0 s1.1 (lenI x0)), (false, ()))))
                    (none)))
                (cond (inS s1.1 (lenI x0) (List.length x0))
                  (some (y1.1, ((cutL x0 s1.1 (lenI x0)), (false, ()))))
                  (none))))
          (none)))
    (0, ())
theorem eq31 (fu : Nat) (c38 : ((List UInt8) × PUnit) → (Option (Int × (Bool × PUnit)))) (nf : Nat → Bool) (x0 : (List UInt8)) (x1 : Int) (x2 : Int) : run31 fu c38 nf x0 x1 x2 = sh31 fu c38 nf x0 x1 x2 := by kernel_rfl

def sh24 (fu : Nat) (nf : Nat → Bool) (x0 : Int) : (Option (Nd × PUnit)) :=
  some ((Nd.mk 0 x0 []), ())
theorem eq24 (fu : Nat) (nf : Nat → Bool) (x0 : Int) : run24 fu nf x0 = sh24 fu nf x0 := by kernel_rfl

def sh21 (fu : Nat) (nf : Nat → Bool) (x0 : Int) (x1 : (List Nd)) : (Option (Nd × PUnit)) :=
  some ((Nd.mk x0 0 x1), ())
theorem eq21 (fu : Nat) (nf : Nat → Bool) (x0 : Int) (x1 : (List Nd)) : run21 fu nf x0 x1 = sh21 fu nf x0 x1 := by kernel_rfl

def sh20 (fu : Nat) (c20 : (Nd × (Nd × PUnit)) → (Option (Bool × PUnit))) (nf : Nat → Bool) (x0 : Nd) (x1 : Nd) : (Option (Bool × PUnit)) :=
  cond (ine (Nd.kind x0) (Nd.kind x1))
    (some (false, ()))
    (cond (ine (Nd.tok x0) (Nd.tok x1))
      (some (false, ()))
      (cond (ine (lenI (Nd.kids x0)) (lenI (Nd.kids x1)))
        (some (false, ()))
        (iter fu (fun (rec1 : ((Int × (Int × ((List Nd) × PUnit))) × (Int × PUnit)) → Option (Bool × PUnit)) (s1 : ((Int × (Int × ((List Nd) × PUnit))) × (Int × PUnit))) =>
            cond (ilt s1.2.1 (lenI (Nd.kids x0)))
              (cond (inB s1.2.1 (List.length (Nd.kids x0)))
                (cond (inB s1.2.1 (List.length s1.1.2.2.1))
                  (Option.bind (c20 ((Nd.mk (Nd.kind (List.getD (Nd.kids x0) (Int.toNat s1.2.1) nodeD)) (Nd.tok (List.getD (Nd.kids x0) (Int.toNat s1.2.1) nodeD)) (Nd.kids (List.getD (Nd.kids x0) (Int.toNat s1.2.1) nodeD))), ((Nd.mk (Nd.kind (List.getD s1.1.2.2.1 (Int.toNat s1.2.1) nodeD)) (Nd.tok (List.getD s1.1.2.2.1 (Int.toNat s1.2.1) nodeD)) (Nd.kids (List.getD s1.1.2.2.1 (Int.toNat s1.2.1) nodeD))), ()))) fun (y1 : (Bool × PUnit)) =>
                    cond (!y1.1)
                      (some (false, ()))
                      (rec1 ((s1.1.1, (s1.1.2.1, (s1.1.2.2.1, ()))), ((iadd .i64 s1.2.1 1), ()))))
                  (none))
                (none))
              (some (true, ())))
          (((Nd.kind x1), ((Nd.tok x1), ((Nd.kids x1), ()))), (0, ())))))
theorem eq20 (fu : Nat) (c20 : (Nd × (Nd × PUnit)) → (Option (Bool × PUnit))) (nf : Nat → Bool) (x0 : Nd) (x1 : Nd) : run20 fu c20 nf x0 x1 = sh20 fu c20 nf x0 x1 := by kernel_rfl

def sh16 (fu : Nat) (nf : Nat → Bool) (x0 : (List Int)) (x1 : (List Int)) : (Option (Bool × PUnit)) :=
  cond (ine (lenI x0) (lenI x1))
    (some (false, ()))
    (iter fu (fun (rec1 : (Int × PUnit) → Option (Bool × PUnit)) (s1 : (Int × PUnit)) =>
        cond (ilt s1.1 (lenI x0))
          (cond (inB s1.1 (List.length x0))
            (cond (inB s1.1 (List.length x1))
              (cond (ine (List.getD x0 (Int.toNat s1.1) 0) (List.getD x1 (Int.toNat s1.1) 0))
                (some (false, ()))
                (rec1 ((iadd .i64 s1.1 1), ())))
              (none))
            (none))
          (some (true, ())))
      (0, ()))
theorem eq16 (fu : Nat) (nf : Nat → Bool) (x0 : (List Int)) (x1 : (List Int)) : run16 fu nf x0 x1 = sh16 fu nf x0 x1 := by kernel_rfl

def sh29 (fu : Nat) (c29 : (Nd × (Int × PUnit)) → (Option ((List Int) × (Bool × PUnit)))) (nf : Nat → Bool) (x0 : Nd) (x1 : Int) : (Option ((List Int) × (Bool × PUnit))) :=
  cond (ieq (Nd.kind x0) 0)
    (some ([], ((ieq (Nd.tok x0) x1), ())))
    (iter fu (fun (rec1 : ((Int × (Int × ((List Nd) × PUnit))) × (Int × PUnit)) → Option ((List Int) × (Bool × PUnit))) (s1 : ((Int × (Int × ((List Nd) × PUnit))) × (Int × PUnit))) =>
        cond (ilt s1.2.1 (lenI (Nd.kids x0)))
          (cond (inB s1.2.1 (List.length (Nd.kids x0)))
            (Option.bind (c29 ((Nd.mk (Nd.kind (List.getD (Nd.kids x0) (Int.toNat s1.2.1) nodeD)) (Nd.tok (List.getD (Nd.kids x0) (Int.toNat s1.2.1) nodeD)) (Nd.kids (List.getD (Nd.kids x0) (Int.toNat s1.2.1) nodeD))), (x1, ()))) fun (y1 : ((List Int) × (Bool × PUnit))) =>
              cond y1.2.1
                (cond (okN 8 ((List.length [s1.1.1]) + (List.length y1.1)))
                  (some (([s1.1.1] ++ y1.1), (true, ())))
                  (none))
                (rec1 ((s1.1.1, (s1.1.2.1, (s1.1.2.2.1, ()))), ((iadd .i64 s1.2.1 1), ()))))
            (none))
          (some ([], (false, ()))))
      (((Nd.kind x0), ((Nd.tok x0), ((Nd.kids x0), ()))), (0, ())))
theorem eq29 (fu : Nat) (c29 : (Nd × (Int × PUnit)) → (Option ((List Int) × (Bool × PUnit)))) (nf : Nat → Bool) (x0 : Nd) (x1 : Int) : run29 fu c29 nf x0 x1 = sh29 fu c29 nf x0 x1 := by kernel_rfl

def sh14 (fu : Nat) (c29 : (Nd × (Int × PUnit)) → (Option ((List Int) × (Bool × PUnit)))) (nf : Nat → Bool) (x0 : Nd) (x1 : Int) : (Option ((List Int) × PUnit)) :=
  Option.bind (c29 ((Nd.mk (Nd.kind x0) (Nd.tok x0) (Nd.kids x0)), (x1, ()))) fun (y1 : ((List Int) × (Bool × PUnit))) =>
    some (y1.1, ())
theorem eq14 (fu : Nat) (c29 : (Nd × (Int × PUnit)) → (Option ((List Int) × (Bool × PUnit)))) (nf : Nat → Bool) (x0 : Nd) (x1 : Int) : run14 fu c29 nf x0 x1 = sh14 fu c29 nf x0 x1 := by kernel_rfl

def sh22 (fu : Nat) (c21 : (Int × ((List Nd) × PUnit)) → (Option (Nd × PUnit))) (c22 : (Nd × (Int × PUnit)) → (Option (Nd × PUnit))) (c24 : (Int × PUnit) → (Option (Nd × PUnit))) (nf : Nat → Bool) (x0 : Nd) (x1 : Int) : (Option (Nd × PUnit)) :=
  cond (ieq (Nd.kind x0) 0)
    (Option.bind (c24 ((iadd .i64 (Nd.tok x0) x1), ())) fun (y1 : (Nd × PUnit)) =>
      some ((Nd.mk (Nd.kind y1.1) (Nd.tok y1.1) (Nd.kids y1.1)), ()))
    (iter fu (fun (rec1 : ((Int × (Int × ((List Nd) × PUnit))) × ((Int × (Int × ((List Nd) × PUnit))) × ((List Nd) × (Int × PUnit)))) → Option (Nd × PUnit)) (s1 : ((Int × (Int × ((List Nd) × PUnit))) × ((Int × (Int × ((List Nd) × PUnit))) × ((List Nd) × (Int × PUnit))))) =>
        cond (ilt s1.2.2.2.1 (lenI (Nd.kids x0)))
          (cond (inB s1.2.2.2.1 (List.length (Nd.kids x0)))
            (Option.bind (c22 ((Nd.mk (Nd.kind (List.getD (Nd.kids x0) (Int.toNat s1.2.2.2.1) nodeD)) (Nd.tok (List.getD (Nd.kids x0) (Int.toNat s1.2.2.2.1) nodeD)) (Nd.kids (List.getD (Nd.kids x0) (Int.toNat s1.2.2.2.1) nodeD))), (x1, ()))) fun (y1 : (Nd × PUnit)) =>
              cond (okN 40 ((List.length s1.2.2.1) + (List.length [(Nd.mk (Nd.kind y1.1) (Nd.tok y1.1) (Nd.kids y1.1))])))
                (rec1 ((s1.1.1, (s1.1.2.1, (s1.1.2.2.1, ()))), ((s1.2.1.1, (s1.2.1.2.1, (s1.2.1.2.2.1, ()))), ((s1.2.2.1 ++ [(Nd.mk (Nd.kind y1.1) (Nd.tok y1.1) (Nd.kids y1.1))]), ((iadd .i64 s1.2.2.2.1 1), ())))))
                (none))
            (none))
          (Option.bind (c21 (s1.1.1, (s1.2.2.1, ()))) fun (y1 : (Nd × PUnit)) =>
            some ((Nd.mk (Nd.kind y1.1) (Nd.tok y1.1) (Nd.kids y1.1)), ())))
      (((Nd.kind x0), ((Nd.tok x0), ((Nd.kids x0), ()))), ((0, (0, ([], ()))), ([], (0, ())))))
theorem eq22 (fu : Nat) (c21 : (Int × ((List Nd) × PUnit)) → (Option (Nd × PUnit))) (c22 : (Nd × (Int × PUnit)) → (Option (Nd × PUnit))) (c24 : (Int × PUnit) → (Option (Nd × PUnit))) (nf : Nat → Bool) (x0 : Nd) (x1 : Int) : run22 fu c21 c22 c24 nf x0 x1 = sh22 fu c21 c22 c24 nf x0 x1 := by kernel_rfl

def sh12 (fu : Nat) (c12 : (Nd × PUnit) → (Option ((List UInt8) × PUnit))) (c27 : (Int × PUnit) → (Option ((List UInt8) × PUnit))) (nf : Nat → Bool) (x0 : Nd) : (Option ((List UInt8) × PUnit)) :=
  cond (ieq (Nd.kind x0) 0)
    (Option.bind (c27 ((Nd.tok x0), ())) fun (y1 : ((List UInt8) × PUnit)) =>
      some (y1.1, ()))
    (Option.bind (c27 ((Nd.kind x0), ())) fun (y1 : ((List UInt8) × PUnit)) =>
      cond (okS (1 + (List.length y1.1)))
        (iter fu (fun (rec1 : ((List UInt8) × (Int × PUnit)) → Option ((List UInt8) × PUnit)) (s1 : ((List UInt8) × (Int × PUnit))) =>
            cond (ilt s1.2.1 (lenI (Nd.kids x0)))
              (cond (inB s1.2.1 (List.length (Nd.kids x0)))
                (Option.bind (c12 ((Nd.mk (Nd.kind (List.getD (Nd.kids x0) (Int.toNat s1.2.1) nodeD)) (Nd.tok (List.getD (Nd.kids x0) (Int.toNat s1.2.1) nodeD)) (Nd.kids (List.getD (Nd.kids x0) (Int.toNat s1.2.1) nodeD))), ())) fun (y2 : ((List UInt8) × PUnit)) =>
                  cond (okS (1 + (List.length y2.1)))
                    (cond (okS ((List.length s1.1) + (List.length ([32] ++ y2.1))))
                      (rec1 ((s1.1 ++ ([32] ++ y2.1)), ((iadd .i64 s1.2.1 1), ())))
                      (none))
                    (none))
                (none))
              (cond (okS ((List.length s1.1) + 1))
                (some ((s1.1 ++ [41]), ()))
                (none)))
          (([40] ++ y1.1), (0, ())))
        (none))
theorem eq12 (fu : Nat) (c12 : (Nd × PUnit) → (Option ((List UInt8) × PUnit))) (c27 : (Int × PUnit) → (Option ((List UInt8) × PUnit))) (nf : Nat → Bool) (x0 : Nd) : run12 fu c12 c27 nf x0 = sh12 fu c12 c27 nf x0 := by kernel_rfl

def sh25 (fu : Nat) (c25 : ((List UInt8) × PUnit) → (Option (Nd × ((List UInt8) × (Int × (Bool × PUnit)))))) (c30 : ((List UInt8) × ((List UInt8) × PUnit)) → (Option (Bool × PUnit))) (c31 : ((List UInt8) × (Int × (Int × PUnit))) → (Option (Int × ((List UInt8) × (Bool × PUnit))))) (c32 : ((List UInt8) × ((List UInt8) × PUnit)) → (Option ((List UInt8) × PUnit))) (nf : Nat → Bool) (x0 : (List UInt8)) : (Option (Nd × ((List UInt8) × (Int × (Bool × PUnit))))) :=
  Option.bind (c30 (x0, ([40], ()))) fun (y1 : (Bool × PUnit)) =>
    cond (!y1.1)
      (Option.bind (c31 (x0, (0, (9999, ())))) fun (y2 : (Int × ((List UInt8) × (Bool × PUnit)))) =>
        some ((Nd.mk 0 y2.1 []), (y2.2.1, (0, (y2.2.2.1, ())))))
      (cond (inS 1 (lenI x0) (List.length x0))
        (Option.bind (c31 ((cutL x0 1 (lenI x0)), (1, (99, ())))) fun (y2 : (Int × ((List UInt8) × (Bool × PUnit)))) =>
          iter fu (fun (rec1 : ((List UInt8) × ((Int × (Int × ((List Nd) × PUnit))) × (Int × (Bool × PUnit)))) → Option (Nd × ((List UInt8) × (Int × (Bool × PUnit))))) (s1 : ((List UInt8) × ((Int × (Int × ((List Nd) × PUnit))) × (Int × (Bool × PUnit))))) =>
              cond s1.2.2.2.1
                (Option.bind (c30 (s1.1, ([32], ()))) fun (y3 : (Bool × PUnit)) =>
                  cond y3.1
                    (cond (inS 1 (lenI s1.1) (List.length s1.1))
                      (Option.bind (c25 ((cutL s1.1 1 (lenI s1.1)), ())) fun (y4 : (Nd × ((List UInt8) × (Int × (Bool × PUnit))))) =>
                        cond (okN 40 ((List.length s1.2.1.2.2.1) + (List.length [(Nd.mk (Nd.kind y4.1) (Nd.tok y4.1) (Nd.kids y4.1))])))
                          (rec1 (y4.2.1, ((s1.2.1.1, (s1.2.1.2.1, ((s1.2.1.2.2.1 ++ [(Nd.mk (Nd.kind y4.1) (Nd.tok y4.1) (Nd.kids y4.1))]), ()))), ((imax s1.2.2.1 y4.2.2.1), (y4.2.2.2.1, ())))))
                          (none))
                      (none))
                    (Option.bind (c32 (s1.1, ([41], ()))) fun (y4 : ((List UInt8) × PUnit)) =>
                      cond s1.2.2.2.1
                        (Option.bind (c30 (s1.1, ([41], ()))) fun (y5 : (Bool × PUnit)) =>
                          some ((Nd.mk s1.2.1.1 s1.2.1.2.1 s1.2.1.2.2.1), (y4.1, ((iadd .i64 s1.2.2.1 1), (y5.1, ())))))
                        (some ((Nd.mk s1.2.1.1 s1.2.1.2.1 s1.2.1.2.2.1), (y4.1, ((iadd .i64 s1.2.2.1 1), (false, ())))))))
                (Option.bind (c32 (s1.1, ([41], ()))) fun (y3 : ((List UInt8) × PUnit)) =>
                  cond s1.2.2.2.1
                    (Option.bind (c30 (s1.1, ([41], ()))) fun (y4 : (Bool × PUnit)) =>
                      some ((Nd.mk s1.2.1.1 s1.2.1.2.1 s1.2.1.2.2.1), (y3.1, ((iadd .i64 s1.2.2.1 1), (y4.1, ())))))
                    (some ((Nd.mk s1.2.1.1 s1.2.1.2.1 s1.2.1.2.2.1), (y3.1, ((iadd .i64 s1.2.2.1 1), (false, ())))))))
            (y2.2.1, ((y2.1, (0, ([], ()))), (0, (y2.2.2.1, ())))))
        (none))
theorem eq25 (fu : Nat) (c25 : ((List UInt8) × PUnit) → (Option (Nd × ((List UInt8) × (Int × (Bool × PUnit)))))) (c30 : ((List UInt8) × ((List UInt8) × PUnit)) → (Option (Bool × PUnit))) (c31 : ((List UInt8) × (Int × (Int × PUnit))) → (Option (Int × ((List UInt8) × (Bool × PUnit))))) (c32 : ((List UInt8) × ((List UInt8) × PUnit)) → (Option ((List UInt8) × PUnit))) (nf : Nat → Bool) (x0 : (List UInt8)) : run25 fu c25 c30 c31 c32 nf x0 = sh25 fu c25 c30 c31 c32 nf x0 := by kernel_rfl

def sh10 (fu : Nat) (c25 : ((List UInt8) × PUnit) → (Option (Nd × ((List UInt8) × (Int × (Bool × PUnit)))))) (nf : Nat → Bool) (x0 : (List UInt8)) : (Option (Nd × (Int × PUnit))) :=
  cond (ilt 4000 (lenI x0))
    (some ((Nd.mk 0 0 []), (2, ())))
    (Option.bind (c25 (x0, ())) fun (y1 : (Nd × ((List UInt8) × (Int × (Bool × PUnit))))) =>
      cond (!y1.2.2.2.1)
        (some ((Nd.mk 0 0 []), (150, ())))
        (cond (!(seq y1.2.1 []))
          (some ((Nd.mk 0 0 []), (150, ())))
          (cond (ilt 100 y1.2.2.1)
            (some ((Nd.mk 0 0 []), (151, ())))
            (some ((Nd.mk (Nd.kind y1.1) (Nd.tok y1.1) (Nd.kids y1.1)), (0, ()))))))
theorem eq10 (fu : Nat) (c25 : ((List UInt8) × PUnit) → (Option (Nd × ((List UInt8) × (Int × (Bool × PUnit)))))) (nf : Nat → Bool) (x0 : (List UInt8)) : run10 fu c25 nf x0 = sh10 fu c25 nf x0 := by kernel_rfl

def sh26 (fu : Nat) (c33 : ((List UInt8) × (Int × (Int × (Int × PUnit)))) → (Option (Int × (Int × PUnit)))) (nf : Nat → Bool) (x0 : (List UInt8)) : (Option ((List PieceT) × (Int × (Bool × PUnit)))) :=
  iter fu (fun (rec1 : ((List PieceT) × (Int × (Int × (Int × PUnit)))) → Option ((List PieceT) × (Int × (Bool × PUnit)))) (s1 : ((List PieceT) × (Int × (Int × (Int × PUnit))))) =>
      joinC (fun (join0 : ((List PieceT) × (Int × (Int × (Int × PUnit)))) → Option ((List PieceT) × (Int × (Bool × PUnit)))) =>
          cond (ilt s1.2.2.2.1 (lenI x0))
            (cond (inB s1.2.2.2.1 (List.length x0))
              (cond (ieq (byteAt x0 s1.2.2.2.1) 40)
                (Option.bind (c33 (x0, ((iadd .i64 s1.2.2.2.1 1), (1, (99, ()))))) fun (y1 : (Int × (Int × PUnit))) =>
                  cond (ilt y1.2.1 0)
                    (some ([], (0, (false, ()))))
                    (cond (okN 16 ((List.length s1.1) + (List.length [(PieceT.mk 1 y1.1)])))
                      (join0 ((s1.1 ++ [(PieceT.mk 1 y1.1)]), ((iadd .i64 s1.2.1 1), ((imax s1.2.2.1 (iadd .i64 s1.2.1 1)), (y1.2.1, ())))))
                      (none)))
                (Option.bind (c33 (x0, (s1.2.2.2.1, (0, (9999, ()))))) fun (y1 : (Int × (Int × PUnit))) =>
                  cond (ilt y1.2.1 0)
                    (some ([], (0, (false, ()))))
                    (cond (okN 16 ((List.length s1.1) + (List.length [(PieceT.mk 0 y1.1)])))
                      (join0 ((s1.1 ++ [(PieceT.mk 0 y1.1)]), (s1.2.1, (s1.2.2.1, (y1.2.1, ())))))
                      (none))))
              (none))
            (Option.bind (c33 (x0, (s1.2.2.2.1, (0, (9999, ()))))) fun (y1 : (Int × (Int × PUnit))) =>
              cond (ilt y1.2.1 0)
                (some ([], (0, (false, ()))))
                (cond (okN 16 ((List.length s1.1) + (List.length [(PieceT.mk 0 y1.1)])))
                  (join0 ((s1.1 ++ [(PieceT.mk 0 y1.1)]), (s1.2.1, (s1.2.2.1, (y1.2.1, ())))))
                  (none))))
        (fun (t0 : ((List PieceT) × (Int × (Int × (Int × PUnit))))) =>
          iter fu (fun (rec2 : ((List PieceT) × (Int × (Int × PUnit))) → Option ((List PieceT) × (Int × (Bool × PUnit)))) (s2 : ((List PieceT) × (Int × (Int × PUnit)))) =>
              cond (ilt 0 s2.2.1)
                (cond (ilt s2.2.2.1 (lenI x0))
                  (cond (inB s2.2.2.1 (List.length x0))
                    (cond (ieq (byteAt x0 s2.2.2.1) 41)
                      (cond (okN 16 ((List.length s2.1) + 1))
                        (rec2 ((s2.1 ++ [(PieceT.mk 2 0)]), ((isub .i64 s2.2.1 1), ((iadd .i64 s2.2.2.1 1), ()))))
                        (none))
                      (cond (ieq s2.2.1 0)
                        (some (s2.1, (t0.2.2.1, ((ieq s2.2.2.1 (lenI x0)), ()))))
                        (cond (ile (lenI x0) s2.2.2.1)
                          (some ([], (0, (false, ()))))
                          (cond (inB s2.2.2.1 (List.length x0))
                            (cond (ine (byteAt x0 s2.2.2.1) 32)
                              (some ([], (0, (false, ()))))
                              (rec1 (s2.1, (s2.2.1, (t0.2.2.1, ((iadd .i64 s2.2.2.1 1), ()))))))
                            (none)))))
                    (none))
                  (cond (ieq s2.2.1 0)
                    (some (s2.1, (t0.2.2.1, ((ieq s2.2.2.1 (lenI x0)), ()))))
                    (cond (ile (lenI x0) s2.2.2.1)
                      (some ([], (0, (false, ()))))
                      (cond (inB s2.2.2.1 (List.length x0))
                        (cond (ine (byteAt x0 s2.2.2.1) 32)
                          (some ([], (0, (false, ()))))
                          (rec1 (s2.1, (s2.2.1, (t0.2.2.1, ((iadd .i64 s2.2.2.1 1), ()))))))
                        (none)))))
                (cond (ieq s2.2.1 0)
                  (some (s2.1, (t0.2.2.1, ((ieq s2.2.2.1 (lenI x0)), ()))))
                  (cond (ile (lenI x0) s2.2.2.1)
                    (some ([], (0, (false, ()))))
                    (cond (inB s2.2.2.1 (List.length x0))
                      (cond (ine (byteAt x0 s2.2.2.1) 32)
                        (some ([], (0, (false, ()))))
                        (rec1 (s2.1, (s2.2.1, (t0.2.2.1, ((iadd .i64 s2.2.2.1 1), ()))))))
                      (none)))))
            (t0.1, (t0.2.1, (t0.2.2.2.1, ())))))
    ([], (0, (0, (0, ()))))
set_option maxRecDepth 100000 in
theorem eq26 (fu : Nat) (c33 : ((List UInt8) × (Int × (Int × (Int × PUnit)))) → (Option (Int × (Int × PUnit)))) (nf : Nat → Bool) (x0 : (List UInt8)) : run26 fu c33 nf x0 = sh26 fu c33 nf x0 := by kernel_rfl

def sh11 (fu : Nat) (c26 : ((List UInt8) × PUnit) → (Option ((List PieceT) × (Int × (Bool × PUnit))))) (nf : Nat → Bool) (x0 : (List UInt8)) : (Option (Int × PUnit)) :=
  cond (ilt 4000 (lenI x0))
    (some (2, ()))
    (Option.bind (c26 (x0, ())) fun (y1 : ((List PieceT) × (Int × (Bool × PUnit)))) =>
      cond (!y1.2.2.1)
        (some (150, ()))
        (cond (ilt 100 y1.2.1)
          (some (151, ()))
          (some (0, ()))))
theorem eq11 (fu : Nat) (c26 : ((List UInt8) × PUnit) → (Option ((List PieceT) × (Int × (Bool × PUnit))))) (nf : Nat → Bool) (x0 : (List UInt8)) : run11 fu c26 nf x0 = sh11 fu c26 nf x0 := by kernel_rfl

def sh17 (fu : Nat) (c26 : ((List UInt8) × PUnit) → (Option ((List PieceT) × (Int × (Bool × PUnit))))) (nf : Nat → Bool) (x0 : (List UInt8)) : (Option ((List Int) × PUnit)) :=
  Option.bind (c26 (x0, ())) fun (y1 : ((List PieceT) × (Int × (Bool × PUnit)))) =>
    iter fu (fun (rec1 : ((List Int) × (Int × PUnit)) → Option ((List Int) × PUnit)) (s1 : ((List Int) × (Int × PUnit))) =>
        cond (ilt s1.2.1 (lenI y1.1))
          (cond (inB s1.2.1 (List.length y1.1))
            (cond (ieq (PieceT.fdo (List.getD y1.1 (Int.toNat s1.2.1) pieceD)) 0)
              (cond (inB s1.2.1 (List.length y1.1))
                (cond (okN 8 ((List.length s1.1) + (List.length [(PieceT.n (List.getD y1.1 (Int.toNat s1.2.1) pieceD))])))
                  (rec1 ((s1.1 ++ [(PieceT.n (List.getD y1.1 (Int.toNat s1.2.1) pieceD))]), ((iadd .i64 s1.2.1 1), ())))
                  (none))
                (none))
              (rec1 (s1.1, ((iadd .i64 s1.2.1 1), ()))))
            (none))
          (some (s1.1, ())))
      ([], (0, ()))
theorem eq17 (fu : Nat) (c26 : ((List UInt8) × PUnit) → (Option ((List PieceT) × (Int × (Bool × PUnit))))) (nf : Nat → Bool) (x0 : (List UInt8)) : run17 fu c26 nf x0 = sh17 fu c26 nf x0 := by kernel_rfl

def sh18 (fu : Nat) (c26 : ((List UInt8) × PUnit) → (Option ((List PieceT) × (Int × (Bool × PUnit))))) (nf : Nat → Bool) (x0 : (List UInt8)) (x1 : Int) : (Option ((Bool × (List Int)) × PUnit)) :=
  Option.bind (c26 (x0, ())) fun (y1 : ((List PieceT) × (Int × (Bool × PUnit)))) =>
    iter fu (fun (rec1 : ((Option (List Int)) × (Int × PUnit)) → Option ((Bool × (List Int)) × PUnit)) (s1 : ((Option (List Int)) × (Int × PUnit))) =>
        oCase s1.1
          (cond (ilt s1.2.1 (lenI y1.1))
            (joinC (fun (join0 : ((Option (List Int)) × PUnit) → Option ((Bool × (List Int)) × PUnit)) =>
                cond (inB s1.2.1 (List.length y1.1))
                  (cond (ieq (PieceT.fdo (List.getD y1.1 (Int.toNat s1.2.1) pieceD)) 1)
                    (cond (inB s1.2.1 (List.length y1.1))
                      (cond (okN 8 (List.length [(PieceT.n (List.getD y1.1 (Int.toNat s1.2.1) pieceD))]))
                        (cond (eqN (List.length [(PieceT.n (List.getD y1.1 (Int.toNat s1.2.1) pieceD))]) (List.length (takeL (List.length [(PieceT.n (List.getD y1.1 (Int.toNat s1.2.1) pieceD))]) [(PieceT.n (List.getD y1.1 (Int.toNat s1.2.1) pieceD))])))
                          (join0 ((Option.some (takeL (List.length [(PieceT.n (List.getD y1.1 (Int.toNat s1.2.1) pieceD))]) [(PieceT.n (List.getD y1.1 (Int.toNat s1.2.1) pieceD))])), ()))
                          (none))
                        (none))
                      (none))
                    (join0 (Option.none, ())))
                  (none))
              (fun (t0 : ((Option (List Int)) × PUnit)) =>
                oCase t0.1
                  (joinC (fun (join0 : ((Option (List Int)) × PUnit) → Option ((Bool × (List Int)) × PUnit)) =>
                      cond (inB s1.2.1 (List.length y1.1))
                        (cond (ieq (PieceT.fdo (List.getD y1.1 (Int.toNat s1.2.1) pieceD)) 2)
                          (none)
                          (join0 (Option.none, ())))
                        (none))
                    (fun (t1 : ((Option (List Int)) × PUnit)) =>
                      oCase t1.1
                        (cond (inB s1.2.1 (List.length y1.1))
                          (cond (ieq (PieceT.fdo (List.getD y1.1 (Int.toNat s1.2.1) pieceD)) 0)
                            (cond (inB s1.2.1 (List.length y1.1))
                              (cond (ieq (PieceT.n (List.getD y1.1 (Int.toNat s1.2.1) pieceD)) x1)
                                (some ((true, []), ()))
                                (rec1 (Option.none, ((iadd .i64 s1.2.1 1), ()))))
                              (none))
                            (rec1 (Option.none, ((iadd .i64 s1.2.1 1), ()))))
                          (none))
                        fun (y2 : (List Int)) =>
                        cond (inB s1.2.1 (List.length y1.1))
                          (cond (ieq (PieceT.fdo (List.getD y1.1 (Int.toNat s1.2.1) pieceD)) 0)
                            (cond (inB s1.2.1 (List.length y1.1))
                              (cond (ieq (PieceT.n (List.getD y1.1 (Int.toNat s1.2.1) pieceD)) x1)
                                (cond (Nat.ble (List.length y2) (List.length y2))
                                  (some ((false, (takeL (List.length y2) y2)), ()))
                                  (none))
                                (cond (eqN (List.length y2) (List.length (takeL (List.length y2) y2)))
                                  (rec1 ((Option.some (takeL (List.length y2) y2)), ((iadd .i64 s1.2.1 1), ())))
                                  (none)))
                              (none))
                            (cond (eqN (List.length y2) (List.length (takeL (List.length y2) y2)))
                              (rec1 ((Option.some (takeL (List.length y2) y2)), ((iadd .i64 s1.2.1 1), ())))
                              (none)))
                          (none)))
                  fun (y2 : (List Int)) =>
                  joinC (fun (join0 : ((Option (List Int)) × PUnit) → Option ((Bool × (List Int)) × PUnit)) =>
                      cond (inB s1.2.1 (List.length y1.1))
                        (cond (ieq (PieceT.fdo (List.getD y1.1 (Int.toNat s1.2.1) pieceD)) 2)
                          (cond (inS 0 (isub .i64 (Int.ofNat (List.length y2)) 1) (List.length y2))
                            (cond (eqN (Int.toNat (isub .i64 (Int.ofNat (List.length y2)) 1)) (List.length (takeL (Int.toNat (isub .i64 (Int.ofNat (List.length y2)) 1)) y2)))
                              (join0 ((Option.some (takeL (Int.toNat (isub .i64 (Int.ofNat (List.length y2)) 1)) y2)), ()))
                              (none))
                            (none))
                          (cond (eqN (List.length y2) (List.length (takeL (List.length y2) y2)))
                            (join0 ((Option.some (takeL (List.length y2) y2)), ()))
                            (none)))
                        (none))
                    (fun (t1 : ((Option (List Int)) × PUnit)) =>
                      oCase t1.1
                        (cond (inB s1.2.1 (List.length y1.1))
                          (cond (ieq (PieceT.fdo (List.getD y1.1 (Int.toNat s1.2.1) pieceD)) 0)
                            (cond (inB s1.2.1 (List.length y1.1))
                              (cond (ieq (PieceT.n (List.getD y1.1 (Int.toNat s1.2.1) pieceD)) x1)
                                (some ((true, []), ()))
                                (rec1 (Option.none, ((iadd .i64 s1.2.1 1), ()))))
                              (none))
                            (rec1 (Option.none, ((iadd .i64 s1.2.1 1), ()))))
                          (none))
                        fun (y3 : (List Int)) =>
                        cond (inB s1.2.1 (List.length y1.1))
                          (cond (ieq (PieceT.fdo (List.getD y1.1 (Int.toNat s1.2.1) pieceD)) 0)
                            (cond (inB s1.2.1 (List.length y1.1))
                              (cond (ieq (PieceT.n (List.getD y1.1 (Int.toNat s1.2.1) pieceD)) x1)
                                (cond (Nat.ble (List.length y3) (List.length y3))
                                  (some ((false, (takeL (List.length y3) y3)), ()))
                                  (none))
                                (cond (eqN (List.length y3) (List.length (takeL (List.length y3) y3)))
                                  (rec1 ((Option.some (takeL (List.length y3) y3)), ((iadd .i64 s1.2.1 1), ())))
                                  (none)))
                              (none))
                            (cond (eqN (List.length y3) (List.length (takeL (List.length y3) y3)))
                              (rec1 ((Option.some (takeL (List.length y3) y3)), ((iadd .i64 s1.2.1 1), ())))
                              (none)))
                          (none))))
            (some ((true, []), ())))
          fun (y2 : (List Int)) =>
          cond (ilt s1.2.1 (lenI y1.1))
            (joinC (fun (join0 : ((Option (List Int)) × PUnit) → Option ((Bool × (List Int)) × PUnit)) =>
                cond (inB s1.2.1 (List.length y1.1))
                  (cond (ieq (PieceT.fdo (List.getD y1.1 (Int.toNat s1.2.1) pieceD)) 1)
                    (cond (inB s1.2.1 (List.length y1.1))
                      (cond ((Nat.ble (List.length y2) (List.length y2)) && (okN 8 ((List.length y2) + (List.length [(PieceT.n (List.getD y1.1 (Int.toNat s1.2.1) pieceD))]))))
                        (cond (eqN ((List.length y2) + (List.length [(PieceT.n (List.getD y1.1 (Int.toNat s1.2.1) pieceD))])) (List.length (takeL ((List.length y2) + (List.length [(PieceT.n (List.getD y1.1 (Int.toNat s1.2.1) pieceD))])) ((List.take (List.length y2) y2) ++ [(PieceT.n (List.getD y1.1 (Int.toNat s1.2.1) pieceD))]))))
                          (join0 ((Option.some (takeL ((List.length y2) + (List.length [(PieceT.n (List.getD y1.1 (Int.toNat s1.2.1) pieceD))])) ((List.take (List.length y2) y2) ++ [(PieceT.n (List.getD y1.1 (Int.toNat s1.2.1) pieceD))]))), ()))
                          (none))
                        (none))
                      (none))
                    (cond (eqN (List.length y2) (List.length (takeL (List.length y2) y2)))
                      (join0 ((Option.some (takeL (List.length y2) y2)), ()))
                      (none)))
                  (none))
              (fun (t0 : ((Option (List Int)) × PUnit)) =>
                oCase t0.1
                  (joinC (fun (join0 : ((Option (List Int)) × PUnit) → Option ((Bool × (List Int)) × PUnit)) =>
                      cond (inB s1.2.1 (List.length y1.1))
                        (cond (ieq (PieceT.fdo (List.getD y1.1 (Int.toNat s1.2.1) pieceD)) 2)
                          (none)
                          (join0 (Option.none, ())))
                        (none))
                    (fun (t1 : ((Option (List Int)) × PUnit)) =>
                      oCase t1.1
                        (cond (inB s1.2.1 (List.length y1.1))
                          (cond (ieq (PieceT.fdo (List.getD y1.1 (Int.toNat s1.2.1) pieceD)) 0)
                            (cond (inB s1.2.1 (List.length y1.1))
                              (cond (ieq (PieceT.n (List.getD y1.1 (Int.toNat s1.2.1) pieceD)) x1)
                                (some ((true, []), ()))
                                (rec1 (Option.none, ((iadd .i64 s1.2.1 1), ()))))
                              (none))
                            (rec1 (Option.none, ((iadd .i64 s1.2.1 1), ()))))
                          (none))
                        fun (y3 : (List Int)) =>
                        cond (inB s1.2.1 (List.length y1.1))
                          (cond (ieq (PieceT.fdo (List.getD y1.1 (Int.toNat s1.2.1) pieceD)) 0)
                            (cond (inB s1.2.1 (List.length y1.1))
                              (cond (ieq (PieceT.n (List.getD y1.1 (Int.toNat s1.2.1) pieceD)) x1)
                                (cond (Nat.ble (List.length y3) (List.length y3))
                                  (some ((false, (takeL (List.length y3) y3)), ()))
                                  (none))
                                (cond (eqN (List.length y3) (List.length (takeL (List.length y3) y3)))
                                  (rec1 ((Option.some (takeL (List.length y3) y3)), ((iadd .i64 s1.2.1 1), ())))
                                  (none)))
                              (none))
                            (cond (eqN (List.length y3) (List.length (takeL (List.length y3) y3)))
                              (rec1 ((Option.some (takeL (List.length y3) y3)), ((iadd .i64 s1.2.1 1), ())))
                              (none)))
                          (none)))
                  fun (y3 : (List Int)) =>
                  joinC (fun (join0 : ((Option (List Int)) × PUnit) → Option ((Bool × (List Int)) × PUnit)) =>
                      cond (inB s1.2.1 (List.length y1.1))
                        (cond (ieq (PieceT.fdo (List.getD y1.1 (Int.toNat s1.2.1) pieceD)) 2)
                          (cond (inS 0 (isub .i64 (Int.ofNat (List.length y3)) 1) (List.length y3))
                            (cond (eqN (Int.toNat (isub .i64 (Int.ofNat (List.length y3)) 1)) (List.length (takeL (Int.toNat (isub .i64 (Int.ofNat (List.length y3)) 1)) y3)))
                              (join0 ((Option.some (takeL (Int.toNat (isub .i64 (Int.ofNat (List.length y3)) 1)) y3)), ()))
                              (none))
                            (none))
                          (cond (eqN (List.length y3) (List.length (takeL (List.length y3) y3)))
                            (join0 ((Option.some (takeL (List.length y3) y3)), ()))
                            (none)))
                        (none))
                    (fun (t1 : ((Option (List Int)) × PUnit)) =>
                      oCase t1.1
                        (cond (inB s1.2.1 (List.length y1.1))
                          (cond (ieq (PieceT.fdo (List.getD y1.1 (Int.toNat s1.2.1) pieceD)) 0)
                            (cond (inB s1.2.1 (List.length y1.1))
                              (cond (ieq (PieceT.n (List.getD y1.1 (Int.toNat s1.2.1) pieceD)) x1)
                                (some ((true, []), ()))
                                (rec1 (Option.none, ((iadd .i64 s1.2.1 1), ()))))
                              (none))
                            (rec1 (Option.none, ((iadd .i64 s1.2.1 1), ()))))
                          (none))
                        fun (y4 : (List Int)) =>
                        cond (inB s1.2.1 (List.length y1.1))
                          (cond (ieq (PieceT.fdo (List.getD y1.1 (Int.toNat s1.2.1) pieceD)) 0)
                            (cond (inB s1.2.1 (List.length y1.1))
                              (cond (ieq (PieceT.n (List.getD y1.1 (Int.toNat s1.2.1) pieceD)) x1)
                                (cond (Nat.ble (List.length y4) (List.length y4))
                                  (some ((false, (takeL (List.length y4) y4)), ()))
                                  (none))
                                (cond (eqN (List.length y4) (List.length (takeL (List.length y4) y4)))
                                  (rec1 ((Option.some (takeL (List.length y4) y4)), ((iadd .i64 s1.2.1 1), ())))
                                  (none)))
                              (none))
                            (cond (eqN (List.length y4) (List.length (takeL (List.length y4) y4)))
                              (rec1 ((Option.some (takeL (List.length y4) y4)), ((iadd .i64 s1.2.1 1), ())))
                              (none)))
                          (none))))
            (some ((true, []), ())))
      (Option.none, (0, ()))
set_option maxRecDepth 100000 in
theorem eq18 (fu : Nat) (c26 : ((List UInt8) × PUnit) → (Option ((List PieceT) × (Int × (Bool × PUnit))))) (nf : Nat → Bool) (x0 : (List UInt8)) (x1 : Int) : run18 fu c26 nf x0 x1 = sh18 fu c26 nf x0 x1 := by kernel_rfl

def sh19 (fu : Nat) (c26 : ((List UInt8) × PUnit) → (Option ((List PieceT) × (Int × (Bool × PUnit))))) (nf : Nat → Bool) (x0 : (List UInt8)) (x1 : Int) : (Option (Int × PUnit)) :=
  Option.bind (c26 (x0, ())) fun (y1 : ((List PieceT) × (Int × (Bool × PUnit)))) =>
    iter fu (fun (rec1 : (Int × (Int × PUnit)) → Option (Int × PUnit)) (s1 : (Int × (Int × PUnit))) =>
        cond (ilt s1.2.1 (lenI y1.1))
          (cond (inB s1.2.1 (List.length y1.1))
            (cond (ieq (PieceT.fdo (List.getD y1.1 (Int.toNat s1.2.1) pieceD)) 1)
              (cond (inB s1.2.1 (List.length y1.1))
                (cond (ieq (PieceT.n (List.getD y1.1 (Int.toNat s1.2.1) pieceD)) x1)
                  (rec1 ((iadd .i64 s1.1 1), ((iadd .i64 s1.2.1 1), ())))
                  (cond (inB s1.2.1 (List.length y1.1))
                    (cond (ieq (PieceT.fdo (List.getD y1.1 (Int.toNat s1.2.1) pieceD)) 0)
                      (cond (ieq x1 0)
                        (rec1 ((iadd .i64 s1.1 1), ((iadd .i64 s1.2.1 1), ())))
                        (rec1 (s1.1, ((iadd .i64 s1.2.1 1), ()))))
                      (rec1 (s1.1, ((iadd .i64 s1.2.1 1), ()))))
                    (none)))
                (none))
              (cond (inB s1.2.1 (List.length y1.1))
                (cond (ieq (PieceT.fdo (List.getD y1.1 (Int.toNat s1.2.1) pieceD)) 0)
                  (cond (ieq x1 0)
                    (rec1 ((iadd .i64 s1.1 1), ((iadd .i64 s1.2.1 1), ())))
                    (rec1 (s1.1, ((iadd .i64 s1.2.1 1), ()))))
                  (rec1 (s1.1, ((iadd .i64 s1.2.1 1), ()))))
                (none)))
            (none))
          (some (s1.1, ())))
      (0, (0, ()))
theorem eq19 (fu : Nat) (c26 : ((List UInt8) × PUnit) → (Option ((List PieceT) × (Int × (Bool × PUnit))))) (nf : Nat → Bool) (x0 : (List UInt8)) (x1 : Int) : run19 fu c26 nf x0 x1 = sh19 fu c26 nf x0 x1 := by kernel_rfl

theorem con30 (fu : Nat)  : ConOk CC Tryd.prog 30 ⟨as30, rs30, fun x => sh30 fu (fun _ => false) x.1 x.2.1⟩ :=
  runF2_ok (c := ⟨as30, rs30, fun x => sh30 fu (fun _ => false) x.1 x.2.1⟩) (fu := fu) (d := 3) (inl := findF [(37, fd37)]) (orc := findF []) (pf := hasN []) Tb_ok CCok mixed (fun g => (findF_some (α := Con UU) (l := []) g).symm) (findF_cons fdok30_37 (findF_nil)) (findF_nil) fdok30 (by show 2 ≤ 8; decide) (noLs_spec rfl) (fun nf x => eq30 fu nf x.1 x.2.1)

theorem con32 (fu : Nat)  : ConOk CC Tryd.prog 32 ⟨as32, rs32, fun x => sh32 fu (fun _ => false) x.1 x.2.1⟩ :=
  runF2_ok (c := ⟨as32, rs32, fun x => sh32 fu (fun _ => false) x.1 x.2.1⟩) (fu := fu) (d := 4) (inl := findF [(37, fd37), (39, fd39)]) (orc := findF []) (pf := hasN []) Tb_ok CCok mixed (fun g => (findF_some (α := Con UU) (l := []) g).symm) (findF_cons fdok32_37 (findF_cons fdok32_39 (findF_nil))) (findF_nil) fdok32 (by show 2 ≤ 8; decide) (noLs_spec rfl) (fun nf x => eq32 fu nf x.1 x.2.1)

theorem con33 (fu : Nat)  : ConOk CC Tryd.prog 33 ⟨as33, rs33, fun x => sh33 fu (fun _ => false) x.1 x.2.1 x.2.2.1 x.2.2.2.1⟩ :=
  runF2_ok (c := ⟨as33, rs33, fun x => sh33 fu (fun _ => false) x.1 x.2.1 x.2.2.1 x.2.2.2.1⟩) (fu := fu) (d := 2) (inl := findF []) (orc := findF []) (pf := hasN []) Tb_ok CCok mixed (fun g => (findF_some (α := Con UU) (l := []) g).symm) (findF_nil) (findF_nil) fdok33 (by show 4 ≤ 90; decide) (noLs_spec rfl) (fun nf x => eq33 fu nf x.1 x.2.1 x.2.2.1 x.2.2.2.1)

theorem con31 (fu : Nat) (c38 : denAs as38 → Option (denAs rs38)) (h38 : ConOk CC Tryd.prog 38 ⟨as38, rs38, c38⟩) : ConOk CC Tryd.prog 31 ⟨as31, rs31, fun x => sh31 fu c38 (fun _ => false) x.1 x.2.1 x.2.2.1⟩ :=
  runF2_ok (c := ⟨as31, rs31, fun x => sh31 fu c38 (fun _ => false) x.1 x.2.1 x.2.2.1⟩) (fu := fu) (d := 2) (inl := findF []) (orc := findF [(38, (⟨as38, rs38, c38⟩ : Con UU))]) (pf := hasN [38]) Tb_ok CCok mixed (fun g => (findF_some (α := Con UU) (l := [(38, (⟨as38, rs38, c38⟩ : Con UU))]) g).symm) (findF_nil) (findF_cons ⟨code38, h38⟩ (findF_nil)) fdok31 (by show 3 ≤ 62; decide) (noLs_spec rfl) (fun nf x => eq31 fu c38 nf x.1 x.2.1 x.2.2.1)

theorem con24 (fu : Nat)  : ConOk CC Tryd.prog 24 ⟨as24, rs24, fun x => sh24 fu (fun _ => false) x.1⟩ :=
  runF2_ok (c := ⟨as24, rs24, fun x => sh24 fu (fun _ => false) x.1⟩) (fu := fu) (d := 2) (inl := findF []) (orc := findF []) (pf := hasN []) Tb_ok CCok mixed (fun g => (findF_some (α := Con UU) (l := []) g).symm) (findF_nil) (findF_nil) fdok24 (by show 1 ≤ 5; decide) (noLs_spec rfl) (fun nf x => eq24 fu nf x.1)

theorem con21 (fu : Nat)  : ConOk CC Tryd.prog 21 ⟨as21, rs21, fun x => sh21 fu (fun _ => false) x.1 x.2.1⟩ :=
  runF2_ok (c := ⟨as21, rs21, fun x => sh21 fu (fun _ => false) x.1 x.2.1⟩) (fu := fu) (d := 2) (inl := findF []) (orc := findF []) (pf := hasN []) Tb_ok CCok mixed (fun g => (findF_some (α := Con UU) (l := []) g).symm) (findF_nil) (findF_nil) fdok21 (by show 2 ≤ 8; decide) (noLs_spec rfl) (fun nf x => eq21 fu nf x.1 x.2.1)

theorem con20 (fu : Nat) (c20 : denAs as20 → Option (denAs rs20)) (h20 : ConOk CC Tryd.prog 20 ⟨as20, rs20, c20⟩) : ConOk CC Tryd.prog 20 ⟨as20, rs20, fun x => sh20 fu c20 (fun _ => false) x.1 x.2.1⟩ :=
  runF2_ok (c := ⟨as20, rs20, fun x => sh20 fu c20 (fun _ => false) x.1 x.2.1⟩) (fu := fu) (d := 2) (inl := findF []) (orc := findF [(20, (⟨as20, rs20, c20⟩ : Con UU))]) (pf := hasN [20]) Tb_ok CCok mixed (fun g => (findF_some (α := Con UU) (l := [(20, (⟨as20, rs20, c20⟩ : Con UU))]) g).symm) (findF_nil) (findF_cons ⟨code20, h20⟩ (findF_nil)) fdok20 (by show 2 ≤ 45; decide) (noLs_spec rfl) (fun nf x => eq20 fu c20 nf x.1 x.2.1)

theorem con16 (fu : Nat)  : ConOk CC Tryd.prog 16 ⟨as16, rs16, fun x => sh16 fu (fun _ => false) x.1 x.2.1⟩ :=
  runF2_ok (c := ⟨as16, rs16, fun x => sh16 fu (fun _ => false) x.1 x.2.1⟩) (fu := fu) (d := 2) (inl := findF []) (orc := findF []) (pf := hasN []) Tb_ok CCok mixed (fun g => (findF_some (α := Con UU) (l := []) g).symm) (findF_nil) (findF_nil) fdok16 (by show 2 ≤ 26; decide) (noLs_spec rfl) (fun nf x => eq16 fu nf x.1 x.2.1)

theorem con29 (fu : Nat) (c29 : denAs as29 → Option (denAs rs29)) (h29 : ConOk CC Tryd.prog 29 ⟨as29, rs29, c29⟩) : ConOk CC Tryd.prog 29 ⟨as29, rs29, fun x => sh29 fu c29 (fun _ => false) x.1 x.2.1⟩ :=
  runF2_ok (c := ⟨as29, rs29, fun x => sh29 fu c29 (fun _ => false) x.1 x.2.1⟩) (fu := fu) (d := 2) (inl := findF []) (orc := findF [(29, (⟨as29, rs29, c29⟩ : Con UU))]) (pf := hasN [29]) Tb_ok CCok mixed (fun g => (findF_some (α := Con UU) (l := [(29, (⟨as29, rs29, c29⟩ : Con UU))]) g).symm) (findF_nil) (findF_cons ⟨code29, h29⟩ (findF_nil)) fdok29 (by show 2 ≤ 37; decide) (noLs_spec rfl) (fun nf x => eq29 fu c29 nf x.1 x.2.1)

theorem con14 (fu : Nat) (c29 : denAs as29 → Option (denAs rs29)) (h29 : ConOk CC Tryd.prog 29 ⟨as29, rs29, c29⟩) : ConOk CC Tryd.prog 14 ⟨as14, rs14, fun x => sh14 fu c29 (fun _ => false) x.1 x.2.1⟩ :=
  runF2_ok (c := ⟨as14, rs14, fun x => sh14 fu c29 (fun _ => false) x.1 x.2.1⟩) (fu := fu) (d := 2) (inl := findF []) (orc := findF [(29, (⟨as29, rs29, c29⟩ : Con UU))]) (pf := hasN [29]) Tb_ok CCok mixed (fun g => (findF_some (α := Con UU) (l := [(29, (⟨as29, rs29, c29⟩ : Con UU))]) g).symm) (findF_nil) (findF_cons ⟨code29, h29⟩ (findF_nil)) fdok14 (by show 2 ≤ 14; decide) (noLs_spec rfl) (fun nf x => eq14 fu c29 nf x.1 x.2.1)

theorem con22 (fu : Nat) (c21 : denAs as21 → Option (denAs rs21)) (h21 : ConOk CC Tryd.prog 21 ⟨as21, rs21, c21⟩) (c22 : denAs as22 → Option (denAs rs22)) (h22 : ConOk CC Tryd.prog 22 ⟨as22, rs22, c22⟩) (c24 : denAs as24 → Option (denAs rs24)) (h24 : ConOk CC Tryd.prog 24 ⟨as24, rs24, c24⟩) : ConOk CC Tryd.prog 22 ⟨as22, rs22, fun x => sh22 fu c21 c22 c24 (fun _ => false) x.1 x.2.1⟩ :=
  runF2_ok (c := ⟨as22, rs22, fun x => sh22 fu c21 c22 c24 (fun _ => false) x.1 x.2.1⟩) (fu := fu) (d := 2) (inl := findF []) (orc := findF [(21, (⟨as21, rs21, c21⟩ : Con UU)), (22, (⟨as22, rs22, c22⟩ : Con UU)), (24, (⟨as24, rs24, c24⟩ : Con UU))]) (pf := hasN [21, 22, 24]) Tb_ok CCok mixed (fun g => (findF_some (α := Con UU) (l := [(21, (⟨as21, rs21, c21⟩ : Con UU)), (22, (⟨as22, rs22, c22⟩ : Con UU)), (24, (⟨as24, rs24, c24⟩ : Con UU))]) g).symm) (findF_nil) (findF_cons ⟨code21, h21⟩ (findF_cons ⟨code22, h22⟩ (findF_cons ⟨code24, h24⟩ (findF_nil)))) fdok22 (by show 2 ≤ 34; decide) (noLs_spec rfl) (fun nf x => eq22 fu c21 c22 c24 nf x.1 x.2.1)

theorem con12 (fu : Nat) (c12 : denAs as12 → Option (denAs rs12)) (h12 : ConOk CC Tryd.prog 12 ⟨as12, rs12, c12⟩) (c27 : denAs as27 → Option (denAs rs27)) (h27 : ConOk CC Tryd.prog 27 ⟨as27, rs27, c27⟩) : ConOk CC Tryd.prog 12 ⟨as12, rs12, fun x => sh12 fu c12 c27 (fun _ => false) x.1⟩ :=
  runF2_ok (c := ⟨as12, rs12, fun x => sh12 fu c12 c27 (fun _ => false) x.1⟩) (fu := fu) (d := 2) (inl := findF []) (orc := findF [(12, (⟨as12, rs12, c12⟩ : Con UU)), (27, (⟨as27, rs27, c27⟩ : Con UU))]) (pf := hasN [12, 27]) Tb_ok CCok mixed (fun g => (findF_some (α := Con UU) (l := [(12, (⟨as12, rs12, c12⟩ : Con UU)), (27, (⟨as27, rs27, c27⟩ : Con UU))]) g).symm) (findF_nil) (findF_cons ⟨code12, h12⟩ (findF_cons ⟨code27, h27⟩ (findF_nil))) fdok12 (by show 1 ≤ 31; decide) (noLs_spec rfl) (fun nf x => eq12 fu c12 c27 nf x.1)

theorem con25 (fu : Nat) (c25 : denAs as25 → Option (denAs rs25)) (h25 : ConOk CC Tryd.prog 25 ⟨as25, rs25, c25⟩) (c30 : denAs as30 → Option (denAs rs30)) (h30 : ConOk CC Tryd.prog 30 ⟨as30, rs30, c30⟩) (c31 : denAs as31 → Option (denAs rs31)) (h31 : ConOk CC Tryd.prog 31 ⟨as31, rs31, c31⟩) (c32 : denAs as32 → Option (denAs rs32)) (h32 : ConOk CC Tryd.prog 32 ⟨as32, rs32, c32⟩) : ConOk CC Tryd.prog 25 ⟨as25, rs25, fun x => sh25 fu c25 c30 c31 c32 (fun _ => false) x.1⟩ :=
  runF2_ok (c := ⟨as25, rs25, fun x => sh25 fu c25 c30 c31 c32 (fun _ => false) x.1⟩) (fu := fu) (d := 2) (inl := findF []) (orc := findF [(25, (⟨as25, rs25, c25⟩ : Con UU)), (30, (⟨as30, rs30, c30⟩ : Con UU)), (31, (⟨as31, rs31, c31⟩ : Con UU)), (32, (⟨as32, rs32, c32⟩ : Con UU))]) (pf := hasN [25, 30, 31, 32]) Tb_ok CCok mixed (fun g => (findF_some (α := Con UU) (l := [(25, (⟨as25, rs25, c25⟩ : Con UU)), (30, (⟨as30, rs30, c30⟩ : Con UU)), (31, (⟨as31, rs31, c31⟩ : Con UU)), (32, (⟨as32, rs32, c32⟩ : Con UU))]) g).symm) (findF_nil) (findF_cons ⟨code25, h25⟩ (findF_cons ⟨code30, h30⟩ (findF_cons ⟨code31, h31⟩ (findF_cons ⟨code32, h32⟩ (findF_nil))))) fdok25 (by show 1 ≤ 61; decide) (noLs_spec rfl) (fun nf x => eq25 fu c25 c30 c31 c32 nf x.1)

theorem con10 (fu : Nat) (c25 : denAs as25 → Option (denAs rs25)) (h25 : ConOk CC Tryd.prog 25 ⟨as25, rs25, c25⟩) : ConOk CC Tryd.prog 10 ⟨as10, rs10, fun x => sh10 fu c25 (fun _ => false) x.1⟩ :=
  runF2_ok (c := ⟨as10, rs10, fun x => sh10 fu c25 (fun _ => false) x.1⟩) (fu := fu) (d := 2) (inl := findF []) (orc := findF [(25, (⟨as25, rs25, c25⟩ : Con UU))]) (pf := hasN [25]) Tb_ok CCok mixed (fun g => (findF_some (α := Con UU) (l := [(25, (⟨as25, rs25, c25⟩ : Con UU))]) g).symm) (findF_nil) (findF_cons ⟨code25, h25⟩ (findF_nil)) fdok10 (by show 1 ≤ 32; decide) (noLs_spec rfl) (fun nf x => eq10 fu c25 nf x.1)

theorem con26 (fu : Nat) (c33 : denAs as33 → Option (denAs rs33)) (h33 : ConOk CC Tryd.prog 33 ⟨as33, rs33, c33⟩) : ConOk CC Tryd.prog 26 ⟨as26, rs26, fun x => sh26 fu c33 (fun _ => false) x.1⟩ :=
  runF2_ok (c := ⟨as26, rs26, fun x => sh26 fu c33 (fun _ => false) x.1⟩) (fu := fu) (d := 2) (inl := findF []) (orc := findF [(33, (⟨as33, rs33, c33⟩ : Con UU))]) (pf := hasN [33]) Tb_ok CCok mixed (fun g => (findF_some (α := Con UU) (l := [(33, (⟨as33, rs33, c33⟩ : Con UU))]) g).symm) (findF_nil) (findF_cons ⟨code33, h33⟩ (findF_nil)) fdok26 (by show 1 ≤ 99; decide) (noLs_spec rfl) (fun nf x => eq26 fu c33 nf x.1)

theorem con11 (fu : Nat) (c26 : denAs as26 → Option (denAs rs26)) (h26 : ConOk CC Tryd.prog 26 ⟨as26, rs26, c26⟩) : ConOk CC Tryd.prog 11 ⟨as11, rs11, fun x => sh11 fu c26 (fun _ => false) x.1⟩ :=
  runF2_ok (c := ⟨as11, rs11, fun x => sh11 fu c26 (fun _ => false) x.1⟩) (fu := fu) (d := 2) (inl := findF []) (orc := findF [(26, (⟨as26, rs26, c26⟩ : Con UU))]) (pf := hasN [26]) Tb_ok CCok mixed (fun g => (findF_some (α := Con UU) (l := [(26, (⟨as26, rs26, c26⟩ : Con UU))]) g).symm) (findF_nil) (findF_cons ⟨code26, h26⟩ (findF_nil)) fdok11 (by show 1 ≤ 19; decide) (noLs_spec rfl) (fun nf x => eq11 fu c26 nf x.1)

theorem con17 (fu : Nat) (c26 : denAs as26 → Option (denAs rs26)) (h26 : ConOk CC Tryd.prog 26 ⟨as26, rs26, c26⟩) : ConOk CC Tryd.prog 17 ⟨as17, rs17, fun x => sh17 fu c26 (fun _ => false) x.1⟩ :=
  runF2_ok (c := ⟨as17, rs17, fun x => sh17 fu c26 (fun _ => false) x.1⟩) (fu := fu) (d := 2) (inl := findF []) (orc := findF [(26, (⟨as26, rs26, c26⟩ : Con UU))]) (pf := hasN [26]) Tb_ok CCok mixed (fun g => (findF_some (α := Con UU) (l := [(26, (⟨as26, rs26, c26⟩ : Con UU))]) g).symm) (findF_nil) (findF_cons ⟨code26, h26⟩ (findF_nil)) fdok17 (by show 1 ≤ 35; decide) (noLs_spec rfl) (fun nf x => eq17 fu c26 nf x.1)

theorem con18 (fu : Nat) (c26 : denAs as26 → Option (denAs rs26)) (h26 : ConOk CC Tryd.prog 26 ⟨as26, rs26, c26⟩) : ConOk CC Tryd.prog 18 ⟨as18, rs18, fun x => sh18 fu c26 (fun _ => false) x.1 x.2.1⟩ :=
  runF2_ok (c := ⟨as18, rs18, fun x => sh18 fu c26 (fun _ => false) x.1 x.2.1⟩) (fu := fu) (d := 2) (inl := findF []) (orc := findF [(26, (⟨as26, rs26, c26⟩ : Con UU))]) (pf := hasN [26]) Tb_ok CCok mixed (fun g => (findF_some (α := Con UU) (l := [(26, (⟨as26, rs26, c26⟩ : Con UU))]) g).symm) (findF_nil) (findF_cons ⟨code26, h26⟩ (findF_nil)) fdok18 (by show 2 ≤ 63; decide) (noLs_spec rfl) (fun nf x => eq18 fu c26 nf x.1 x.2.1)

theorem con19 (fu : Nat) (c26 : denAs as26 → Option (denAs rs26)) (h26 : ConOk CC Tryd.prog 26 ⟨as26, rs26, c26⟩) : ConOk CC Tryd.prog 19 ⟨as19, rs19, fun x => sh19 fu c26 (fun _ => false) x.1 x.2.1⟩ :=
  runF2_ok (c := ⟨as19, rs19, fun x => sh19 fu c26 (fun _ => false) x.1 x.2.1⟩) (fu := fu) (d := 2) (inl := findF []) (orc := findF [(26, (⟨as26, rs26, c26⟩ : Con UU))]) (pf := hasN [26]) Tb_ok CCok mixed (fun g => (findF_some (α := Con UU) (l := [(26, (⟨as26, rs26, c26⟩ : Con UU))]) g).symm) (findF_nil) (findF_cons ⟨code26, h26⟩ (findF_nil)) fdok19 (by show 2 ≤ 52; decide) (noLs_spec rfl) (fun nf x => eq19 fu c26 nf x.1 x.2.1)
end Go.Proofs.YtegibhjgldpndaaDoor
