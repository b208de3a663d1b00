/-
  The runs, printed: what the functions work out, in plain Lean.
-/
import Derived.Test.YtegibhjgldpndaaDoorF2
set_option linter.unusedVariables false
set_option linter.unusedSimpArgs false
namespace Go.Proofs.YtegibhjgldpndaaDoor
open Go.Al Go.Den

def sh9 (fu : Nat) (c10 : ((List UInt8) × PUnit) → (Option (Nd × (Int × PUnit)))) (c12 : (Nd × PUnit) → (Option ((List UInt8) × PUnit))) (c13 : (Nd × PUnit) → (Option ((List Int) × PUnit))) (c14 : (Nd × (Int × PUnit)) → (Option ((List Int) × PUnit))) (c15 : (Nd × (Int × PUnit)) → (Option ((List Nd) × PUnit))) (c16 : ((List Int) × ((List Int) × PUnit)) → (Option (Bool × PUnit))) (c20 : (Nd × (Nd × PUnit)) → (Option (Bool × PUnit))) (c21 : (Int × ((List Nd) × PUnit)) → (Option (Nd × PUnit))) (c24 : (Int × PUnit) → (Option (Nd × PUnit))) (nf : Nat → Bool) : (Option (Bool × PUnit)) :=
  Option.bind (c24 (0, ())) fun (y1 : (Nd × PUnit)) =>
    Option.bind (c21 (4, ([], ()))) fun (y2 : (Nd × PUnit)) =>
      Option.bind (c24 (12, ())) fun (y3 : (Nd × PUnit)) =>
        Option.bind (c21 (3, ([(Nd.mk (Nd.kind y1.1) (Nd.tok y1.1) (Nd.kids y1.1)), (Nd.mk (Nd.kind y2.1) (Nd.tok y2.1) (Nd.kids y2.1)), (Nd.mk (Nd.kind y3.1) (Nd.tok y3.1) (Nd.kids y3.1))], ()))) fun (y4 : (Nd × PUnit)) =>
          Option.bind (c12 ((Nd.mk (Nd.kind y4.1) (Nd.tok y4.1) (Nd.kids y4.1)), ())) fun (y5 : ((List UInt8) × PUnit)) =>
            Option.bind (c10 ([40, 51, 32, 48, 32, 40, 52, 41, 32, 49, 50, 41], ())) fun (y6 : (Nd × (Int × PUnit))) =>
              Option.bind (c10 ([53], ())) fun (y7 : (Nd × (Int × PUnit))) =>
                Option.bind (c10 ([40, 48, 41], ())) fun (y8 : (Nd × (Int × PUnit))) =>
                  Option.bind (c10 ([40, 51, 32, 32, 48, 41], ())) fun (y9 : (Nd × (Int × PUnit))) =>
                    Option.bind (c10 ([40, 49, 48, 48, 41], ())) fun (y10 : (Nd × (Int × PUnit))) =>
                      Option.bind (c10 ([40, 51, 32, 48, 48, 41], ())) fun (y11 : (Nd × (Int × PUnit))) =>
                        Option.bind (c13 ((Nd.mk (Nd.kind y4.1) (Nd.tok y4.1) (Nd.kids y4.1)), ())) fun (y12 : ((List Int) × PUnit)) =>
                          Option.bind (c14 ((Nd.mk (Nd.kind y4.1) (Nd.tok y4.1) (Nd.kids y4.1)), (12, ()))) fun (y13 : ((List Int) × PUnit)) =>
                            Option.bind (c15 ((Nd.mk (Nd.kind y4.1) (Nd.tok y4.1) (Nd.kids y4.1)), (4, ()))) fun (y14 : ((List Nd) × PUnit)) =>
                              Option.bind (c20 ((Nd.mk (Nd.kind y4.1) (Nd.tok y4.1) (Nd.kids y4.1)), ((Nd.mk (Nd.kind y6.1) (Nd.tok y6.1) (Nd.kids y6.1)), ()))) fun (y15 : (Bool × PUnit)) =>
                                cond (seq y5.1 [40, 51, 32, 48, 32, 40, 52, 41, 32, 49, 50, 41])
                                  (cond (ieq y6.2.1 0)
                                    (cond y15.1
                                      (cond (ieq y7.2.1 0)
                                        (cond (ieq (Nd.tok y7.1) 5)
                                          (cond (ieq y8.2.1 150)
                                            (cond (ieq y9.2.1 150)
                                              (cond (ieq y10.2.1 150)
                                                (cond (ieq y11.2.1 150)
                                                  (Option.bind (c16 (y12.1, ([0, 12], ()))) fun (y16 : (Bool × PUnit)) =>
                                                    cond y16.1
                                                      (Option.bind (c16 (y13.1, ([3], ()))) fun (y17 : (Bool × PUnit)) =>
                                                        cond y17.1
                                                          (some ((ieq (lenI y14.1) 1), ()))
                                                          (some (false, ())))
                                                      (some (false, ())))
                                                  (some (false, ())))
                                                (some (false, ())))
                                              (some (false, ())))
                                            (some (false, ())))
                                          (some (false, ())))
                                        (some (false, ())))
                                      (some (false, ())))
                                    (some (false, ())))
                                  (some (false, ()))
theorem eq9 (fu : Nat) (c10 : ((List UInt8) × PUnit) → (Option (Nd × (Int × PUnit)))) (c12 : (Nd × PUnit) → (Option ((List UInt8) × PUnit))) (c13 : (Nd × PUnit) → (Option ((List Int) × PUnit))) (c14 : (Nd × (Int × PUnit)) → (Option ((List Int) × PUnit))) (c15 : (Nd × (Int × PUnit)) → (Option ((List Nd) × PUnit))) (c16 : ((List Int) × ((List Int) × PUnit)) → (Option (Bool × PUnit))) (c20 : (Nd × (Nd × PUnit)) → (Option (Bool × PUnit))) (c21 : (Int × ((List Nd) × PUnit)) → (Option (Nd × PUnit))) (c24 : (Int × PUnit) → (Option (Nd × PUnit))) (nf : Nat → Bool) : run9 fu c10 c12 c13 c14 c15 c16 c20 c21 c24 nf = sh9 fu c10 c12 c13 c14 c15 c16 c20 c21 c24 nf := by kernel_rfl

def sh3 (fu : Nat) (c9 : PUnit → (Option (Bool × PUnit))) (c10 : ((List UInt8) × PUnit) → (Option (Nd × (Int × PUnit)))) (c11 : ((List UInt8) × PUnit) → (Option (Int × PUnit))) (c12 : (Nd × PUnit) → (Option ((List UInt8) × PUnit))) (nf : Nat → Bool) (x0 : (List UInt8)) : (Option (Bool × PUnit)) :=
  Option.bind (c9 ()) fun (y1 : (Bool × PUnit)) =>
    Option.bind (c10 (x0, ())) fun (y2 : (Nd × (Int × PUnit))) =>
      Option.bind (c11 (x0, ())) fun (y3 : (Int × PUnit)) =>
        cond (ine y2.2.1 y3.1)
          (some (false, ()))
          (cond (ine y2.2.1 0)
            (cond y1.1
              (cond (ieq (Nd.kind y2.1) 0)
                (cond (ieq (Nd.tok y2.1) 0)
                  (some ((ieq (lenI (Nd.kids y2.1)) 0), ()))
                  (some (false, ())))
                (some (false, ())))
              (some (false, ())))
            (Option.bind (c12 ((Nd.mk (Nd.kind y2.1) (Nd.tok y2.1) (Nd.kids y2.1)), ())) fun (y4 : ((List UInt8) × PUnit)) =>
              cond y1.1
                (some ((seq y4.1 x0), ()))
                (some (false, ()))))
theorem eq3 (fu : Nat) (c9 : PUnit → (Option (Bool × PUnit))) (c10 : ((List UInt8) × PUnit) → (Option (Nd × (Int × PUnit)))) (c11 : ((List UInt8) × PUnit) → (Option (Int × PUnit))) (c12 : (Nd × PUnit) → (Option ((List UInt8) × PUnit))) (nf : Nat → Bool) (x0 : (List UInt8)) : run3 fu c9 c10 c11 c12 nf x0 = sh3 fu c9 c10 c11 c12 nf x0 := by kernel_rfl

def sh4 (fu : Nat) (c9 : PUnit → (Option (Bool × PUnit))) (c10 : ((List UInt8) × PUnit) → (Option (Nd × (Int × PUnit)))) (c13 : (Nd × PUnit) → (Option ((List Int) × PUnit))) (c14 : (Nd × (Int × PUnit)) → (Option ((List Int) × PUnit))) (c15 : (Nd × (Int × PUnit)) → (Option ((List Nd) × PUnit))) (c16 : ((List Int) × ((List Int) × PUnit)) → (Option (Bool × PUnit))) (c17 : ((List UInt8) × PUnit) → (Option ((List Int) × PUnit))) (c18 : ((List UInt8) × (Int × PUnit)) → (Option ((Bool × (List Int)) × PUnit))) (c19 : ((List UInt8) × (Int × PUnit)) → (Option (Int × PUnit))) (nf : Nat → Bool) (x0 : (List UInt8)) (x1 : Int) (x2 : Int) : (Option (Bool × PUnit)) :=
  Option.bind (c9 ()) fun (y1 : (Bool × PUnit)) =>
    Option.bind (c10 (x0, ())) fun (y2 : (Nd × (Int × PUnit))) =>
      cond (ine y2.2.1 0)
        (some (y1.1, ()))
        (Option.bind (c13 ((Nd.mk (Nd.kind y2.1) (Nd.tok y2.1) (Nd.kids y2.1)), ())) fun (y3 : ((List Int) × PUnit)) =>
          Option.bind (c14 ((Nd.mk (Nd.kind y2.1) (Nd.tok y2.1) (Nd.kids y2.1)), (x1, ()))) fun (y4 : ((List Int) × PUnit)) =>
            Option.bind (c15 ((Nd.mk (Nd.kind y2.1) (Nd.tok y2.1) (Nd.kids y2.1)), (x2, ()))) fun (y5 : ((List Nd) × PUnit)) =>
              iter fu (fun (rec1 : (Int × PUnit) → Option (Bool × PUnit)) (s1 : (Int × PUnit)) =>
                  cond (ilt s1.1 (lenI y5.1))
                    (cond (inB s1.1 (List.length y5.1))
                      (cond (ine (Nd.kind (List.getD y5.1 (Int.toNat s1.1) nodeD)) x2)
                        (some (false, ()))
                        (rec1 ((iadd .i64 s1.1 1), ())))
                      (none))
                    (cond y1.1
                      (Option.bind (c17 (x0, ())) fun (y6 : ((List Int) × PUnit)) =>
                        Option.bind (c16 (y3.1, (y6.1, ()))) fun (y7 : (Bool × PUnit)) =>
                          cond y7.1
                            (Option.bind (c18 (x0, (x1, ()))) fun (y8 : ((Bool × (List Int)) × PUnit)) =>
                              Option.bind (c16 (y4.1, (y8.1.2, ()))) fun (y9 : (Bool × PUnit)) =>
                                cond y9.1
                                  (Option.bind (c19 (x0, (x2, ()))) fun (y10 : (Int × PUnit)) =>
                                    some ((ieq (lenI y5.1) y10.1), ()))
                                  (some (false, ())))
                            (some (false, ())))
                      (some (false, ()))))
                (0, ()))
theorem eq4 (fu : Nat) (c9 : PUnit → (Option (Bool × PUnit))) (c10 : ((List UInt8) × PUnit) → (Option (Nd × (Int × PUnit)))) (c13 : (Nd × PUnit) → (Option ((List Int) × PUnit))) (c14 : (Nd × (Int × PUnit)) → (Option ((List Int) × PUnit))) (c15 : (Nd × (Int × PUnit)) → (Option ((List Nd) × PUnit))) (c16 : ((List Int) × ((List Int) × PUnit)) → (Option (Bool × PUnit))) (c17 : ((List UInt8) × PUnit) → (Option ((List Int) × PUnit))) (c18 : ((List UInt8) × (Int × PUnit)) → (Option ((Bool × (List Int)) × PUnit))) (c19 : ((List UInt8) × (Int × PUnit)) → (Option (Int × PUnit))) (nf : Nat → Bool) (x0 : (List UInt8)) (x1 : Int) (x2 : Int) : run4 fu c9 c10 c13 c14 c15 c16 c17 c18 c19 nf x0 x1 x2 = sh4 fu c9 c10 c13 c14 c15 c16 c17 c18 c19 nf x0 x1 x2 := by kernel_rfl

def sh5 (fu : Nat) (c9 : PUnit → (Option (Bool × PUnit))) (c10 : ((List UInt8) × PUnit) → (Option (Nd × (Int × PUnit)))) (c20 : (Nd × (Nd × PUnit)) → (Option (Bool × PUnit))) (nf : Nat → Bool) (x0 : (List UInt8)) (x1 : (List UInt8)) : (Option (Bool × PUnit)) :=
  Option.bind (c9 ()) fun (y1 : (Bool × PUnit)) =>
    Option.bind (c10 (x0, ())) fun (y2 : (Nd × (Int × PUnit))) =>
      Option.bind (c10 (x1, ())) fun (y3 : (Nd × (Int × PUnit))) =>
        cond (ine y2.2.1 0)
          (some (y1.1, ()))
          (cond (ine y3.2.1 0)
            (some (y1.1, ()))
            (Option.bind (c20 ((Nd.mk (Nd.kind y2.1) (Nd.tok y2.1) (Nd.kids y2.1)), ((Nd.mk (Nd.kind y3.1) (Nd.tok y3.1) (Nd.kids y3.1)), ()))) fun (y4 : (Bool × PUnit)) =>
              Option.bind (c20 ((Nd.mk (Nd.kind y2.1) (Nd.tok y2.1) (Nd.kids y2.1)), ((Nd.mk (Nd.kind y2.1) (Nd.tok y2.1) (Nd.kids y2.1)), ()))) fun (y5 : (Bool × PUnit)) =>
                cond y1.1
                  (cond y5.1
                    (some ((beqB y4.1 (seq x0 x1)), ()))
                    (some (false, ())))
                  (some (false, ()))))
theorem eq5 (fu : Nat) (c9 : PUnit → (Option (Bool × PUnit))) (c10 : ((List UInt8) × PUnit) → (Option (Nd × (Int × PUnit)))) (c20 : (Nd × (Nd × PUnit)) → (Option (Bool × PUnit))) (nf : Nat → Bool) (x0 : (List UInt8)) (x1 : (List UInt8)) : run5 fu c9 c10 c20 nf x0 x1 = sh5 fu c9 c10 c20 nf x0 x1 := by kernel_rfl

def sh6 (fu : Nat) (c9 : PUnit → (Option (Bool × PUnit))) (c10 : ((List UInt8) × PUnit) → (Option (Nd × (Int × PUnit)))) (c11 : ((List UInt8) × PUnit) → (Option (Int × PUnit))) (c12 : (Nd × PUnit) → (Option ((List UInt8) × PUnit))) (c15 : (Nd × (Int × PUnit)) → (Option ((List Nd) × PUnit))) (c21 : (Int × ((List Nd) × PUnit)) → (Option (Nd × PUnit))) (nf : Nat → Bool) (x0 : (List UInt8)) (x1 : (List UInt8)) (x2 : Int) : (Option (Bool × PUnit)) :=
  Option.bind (c9 ()) fun (y1 : (Bool × PUnit)) =>
    Option.bind (c10 (x0, ())) fun (y2 : (Nd × (Int × PUnit))) =>
      Option.bind (c10 (x1, ())) fun (y3 : (Nd × (Int × PUnit))) =>
        cond (ine y2.2.1 0)
          (some (y1.1, ()))
          (cond (ine y3.2.1 0)
            (some (y1.1, ()))
            (cond (ilt x2 1)
              (some (y1.1, ()))
              (cond (ilt 99 x2)
                (some (y1.1, ()))
                (cond (okS (4 + (List.length x0)))
                  (cond (okS ((List.length ([40, 57, 57, 32] ++ x0)) + 1))
                    (cond (okS ((List.length (([40, 57, 57, 32] ++ x0) ++ [32])) + (List.length x1)))
                      (cond (okS ((List.length ((([40, 57, 57, 32] ++ x0) ++ [32]) ++ x1)) + 1))
                        (Option.bind (c11 ((((([40, 57, 57, 32] ++ x0) ++ [32]) ++ x1) ++ [41]), ())) fun (y4 : (Int × PUnit)) =>
                          cond (ine y4.1 0)
                            (some (y1.1, ()))
                            (Option.bind (c21 (x2, ([(Nd.mk (Nd.kind y2.1) (Nd.tok y2.1) (Nd.kids y2.1)), (Nd.mk (Nd.kind y3.1) (Nd.tok y3.1) (Nd.kids y3.1))], ()))) fun (y5 : (Nd × PUnit)) =>
                              Option.bind (c12 ((Nd.mk (Nd.kind y5.1) (Nd.tok y5.1) (Nd.kids y5.1)), ())) fun (y6 : ((List UInt8) × PUnit)) =>
                                Option.bind (c21 (x2, ([], ()))) fun (y7 : (Nd × PUnit)) =>
                                  Option.bind (c12 ((Nd.mk (Nd.kind y7.1) (Nd.tok y7.1) (Nd.kids y7.1)), ())) fun (y8 : ((List UInt8) × PUnit)) =>
                                    cond (seq y8.1 [])
                                      (some (false, ()))
                                      (Option.bind (c15 ((Nd.mk (Nd.kind y2.1) (Nd.tok y2.1) (Nd.kids y2.1)), (x2, ()))) fun (y9 : ((List Nd) × PUnit)) =>
                                        Option.bind (c15 ((Nd.mk (Nd.kind y3.1) (Nd.tok y3.1) (Nd.kids y3.1)), (x2, ()))) fun (y10 : ((List Nd) × PUnit)) =>
                                          Option.bind (c15 ((Nd.mk (Nd.kind y5.1) (Nd.tok y5.1) (Nd.kids y5.1)), (x2, ()))) fun (y11 : ((List Nd) × PUnit)) =>
                                            cond y1.1
                                              (cond (inS 0 (isub .i64 (lenI y8.1) 1) (List.length y8.1))
                                                (cond (okS ((List.length (cutL y8.1 0 (isub .i64 (lenI y8.1) 1))) + 1))
                                                  (cond (okS ((List.length ((cutL y8.1 0 (isub .i64 (lenI y8.1) 1)) ++ [32])) + (List.length x0)))
                                                    (cond (okS ((List.length (((cutL y8.1 0 (isub .i64 (lenI y8.1) 1)) ++ [32]) ++ x0)) + 1))
                                                      (cond (okS ((List.length ((((cutL y8.1 0 (isub .i64 (lenI y8.1) 1)) ++ [32]) ++ x0) ++ [32])) + (List.length x1)))
                                                        (cond (okS ((List.length (((((cutL y8.1 0 (isub .i64 (lenI y8.1) 1)) ++ [32]) ++ x0) ++ [32]) ++ x1)) + 1))
                                                          (cond (seq y6.1 ((((((cutL y8.1 0 (isub .i64 (lenI y8.1) 1)) ++ [32]) ++ x0) ++ [32]) ++ x1) ++ [41]))
                                                            (some ((ieq (lenI y11.1) (iadd .i64 (iadd .i64 (lenI y9.1) (lenI y10.1)) 1)), ()))
                                                            (some (false, ())))
                                                          (none))
                                                        (none))
                                                      (none))
                                                    (none))
                                                  (none))
                                                (none))
                                              (some (false, ())))))
                        (none))
                      (none))
                    (none))
                  (none)))))
theorem eq6 (fu : Nat) (c9 : PUnit → (Option (Bool × PUnit))) (c10 : ((List UInt8) × PUnit) → (Option (Nd × (Int × PUnit)))) (c11 : ((List UInt8) × PUnit) → (Option (Int × PUnit))) (c12 : (Nd × PUnit) → (Option ((List UInt8) × PUnit))) (c15 : (Nd × (Int × PUnit)) → (Option ((List Nd) × PUnit))) (c21 : (Int × ((List Nd) × PUnit)) → (Option (Nd × PUnit))) (nf : Nat → Bool) (x0 : (List UInt8)) (x1 : (List UInt8)) (x2 : Int) : run6 fu c9 c10 c11 c12 c15 c21 nf x0 x1 x2 = sh6 fu c9 c10 c11 c12 c15 c21 nf x0 x1 x2 := by kernel_rfl

def sh7 (fu : Nat) (c9 : PUnit → (Option (Bool × PUnit))) (c10 : ((List UInt8) × PUnit) → (Option (Nd × (Int × PUnit)))) (c13 : (Nd × PUnit) → (Option ((List Int) × PUnit))) (c17 : ((List UInt8) × PUnit) → (Option ((List Int) × PUnit))) (c20 : (Nd × (Nd × PUnit)) → (Option (Bool × PUnit))) (c22 : (Nd × (Int × PUnit)) → (Option (Nd × PUnit))) (nf : Nat → Bool) (x0 : (List UInt8)) (x1 : Int) : (Option (Bool × PUnit)) :=
  Option.bind (c9 ()) fun (y1 : (Bool × PUnit)) =>
    Option.bind (c10 (x0, ())) fun (y2 : (Nd × (Int × PUnit))) =>
      cond (ine y2.2.1 0)
        (some (y1.1, ()))
        (cond (ilt x1 (Neg.neg 9999))
          (some (y1.1, ()))
          (cond (ilt 9999 x1)
            (some (y1.1, ()))
            (Option.bind (c17 (x0, ())) fun (y3 : ((List Int) × PUnit)) =>
              iter fu (fun (rec1 : ((Int × (Int × ((List Nd) × PUnit))) × (Int × PUnit)) → Option (Bool × PUnit)) (s1 : ((Int × (Int × ((List Nd) × PUnit))) × (Int × PUnit))) =>
                  cond (ilt s1.2.1 (lenI y3.1))
                    (cond (inB s1.2.1 (List.length y3.1))
                      (cond (ilt (iadd .i64 (List.getD y3.1 (Int.toNat s1.2.1) 0) x1) 0)
                        (some (y1.1, ()))
                        (cond (inB s1.2.1 (List.length y3.1))
                          (cond (ilt 9999 (iadd .i64 (List.getD y3.1 (Int.toNat s1.2.1) 0) x1))
                            (some (y1.1, ()))
                            (rec1 ((s1.1.1, (s1.1.2.1, (s1.1.2.2.1, ()))), ((iadd .i64 s1.2.1 1), ()))))
                          (none)))
                      (none))
                    (Option.bind (c22 ((Nd.mk s1.1.1 s1.1.2.1 s1.1.2.2.1), (x1, ()))) fun (y4 : (Nd × PUnit)) =>
                      Option.bind (c22 ((Nd.mk (Nd.kind y4.1) (Nd.tok y4.1) (Nd.kids y4.1)), ((isub .i64 0 x1), ()))) fun (y5 : (Nd × PUnit)) =>
                        Option.bind (c20 ((Nd.mk s1.1.1 s1.1.2.1 s1.1.2.2.1), ((Nd.mk (Nd.kind y5.1) (Nd.tok y5.1) (Nd.kids y5.1)), ()))) fun (y6 : (Bool × PUnit)) =>
                          Option.bind (c13 ((Nd.mk s1.1.1 s1.1.2.1 s1.1.2.2.1), ())) fun (y7 : ((List Int) × PUnit)) =>
                            Option.bind (c13 ((Nd.mk (Nd.kind y4.1) (Nd.tok y4.1) (Nd.kids y4.1)), ())) fun (y8 : ((List Int) × PUnit)) =>
                              cond (ine (lenI y7.1) (lenI y8.1))
                                (some (false, ()))
                                (iter fu (fun (rec2 : (Int × PUnit) → Option (Bool × PUnit)) (s2 : (Int × PUnit)) =>
                                    cond (ilt s2.1 (lenI y7.1))
                                      (cond (inB s2.1 (List.length y8.1))
                                        (cond (inB s2.1 (List.length y7.1))
                                          (cond (ine (List.getD y8.1 (Int.toNat s2.1) 0) (iadd .i64 (List.getD y7.1 (Int.toNat s2.1) 0) x1))
                                            (some (false, ()))
                                            (rec2 ((iadd .i64 s2.1 1), ())))
                                          (none))
                                        (none))
                                      (cond y1.1
                                        (some (y6.1, ()))
                                        (some (false, ()))))
                                  (0, ()))))
                (((Nd.kind y2.1), ((Nd.tok y2.1), ((Nd.kids y2.1), ()))), (0, ())))))
theorem eq7 (fu : Nat) (c9 : PUnit → (Option (Bool × PUnit))) (c10 : ((List UInt8) × PUnit) → (Option (Nd × (Int × PUnit)))) (c13 : (Nd × PUnit) → (Option ((List Int) × PUnit))) (c17 : ((List UInt8) × PUnit) → (Option ((List Int) × PUnit))) (c20 : (Nd × (Nd × PUnit)) → (Option (Bool × PUnit))) (c22 : (Nd × (Int × PUnit)) → (Option (Nd × PUnit))) (nf : Nat → Bool) (x0 : (List UInt8)) (x1 : Int) : run7 fu c9 c10 c13 c17 c20 c22 nf x0 x1 = sh7 fu c9 c10 c13 c17 c20 c22 nf x0 x1 := by kernel_rfl

def sh8 (fu : Nat) (c9 : PUnit → (Option (Bool × PUnit))) (c10 : ((List UInt8) × PUnit) → (Option (Nd × (Int × PUnit)))) (c11 : ((List UInt8) × PUnit) → (Option (Int × PUnit))) (c13 : (Nd × PUnit) → (Option ((List Int) × PUnit))) (c17 : ((List UInt8) × PUnit) → (Option ((List Int) × PUnit))) (c21 : (Int × ((List Nd) × PUnit)) → (Option (Nd × PUnit))) (c22 : (Nd × (Int × PUnit)) → (Option (Nd × PUnit))) (c23 : (Nd × (Int × PUnit)) → (Option (Bool × PUnit))) (nf : Nat → Bool) (x0 : (List UInt8)) (x1 : (List UInt8)) (x2 : Int) : (Option (Bool × PUnit)) :=
  Option.bind (c9 ()) fun (y1 : (Bool × PUnit)) =>
    Option.bind (c10 (x0, ())) fun (y2 : (Nd × (Int × PUnit))) =>
      Option.bind (c10 (x1, ())) fun (y3 : (Nd × (Int × PUnit))) =>
        cond (ine y2.2.1 0)
          (some (y1.1, ()))
          (cond (ine y3.2.1 0)
            (some (y1.1, ()))
            (cond (okS (3 + (List.length x0)))
              (cond (okS ((List.length ([40, 55, 32] ++ x0)) + 1))
                (cond (okS ((List.length (([40, 55, 32] ++ x0) ++ [32])) + (List.length x1)))
                  (cond (okS ((List.length ((([40, 55, 32] ++ x0) ++ [32]) ++ x1)) + 1))
                    (Option.bind (c11 ((((([40, 55, 32] ++ x0) ++ [32]) ++ x1) ++ [41]), ())) fun (y4 : (Int × PUnit)) =>
                      cond (ine y4.1 0)
                        (some (y1.1, ()))
                        (Option.bind (c17 (x1, ())) fun (y5 : ((List Int) × PUnit)) =>
                          iter fu (fun (rec1 : ((Int × (Int × ((List Nd) × PUnit))) × ((Int × (Int × ((List Nd) × PUnit))) × (Int × PUnit))) → Option (Bool × PUnit)) (s1 : ((Int × (Int × ((List Nd) × PUnit))) × ((Int × (Int × ((List Nd) × PUnit))) × (Int × PUnit)))) =>
                              cond (ilt s1.2.2.1 (lenI y5.1))
                                (cond (inB s1.2.2.1 (List.length y5.1))
                                  (cond (ilt 7000 (List.getD y5.1 (Int.toNat s1.2.2.1) 0))
                                    (some (y1.1, ()))
                                    (rec1 ((s1.1.1, (s1.1.2.1, (s1.1.2.2.1, ()))), ((s1.2.1.1, (s1.2.1.2.1, (s1.2.1.2.2.1, ()))), ((iadd .i64 s1.2.2.1 1), ())))))
                                  (none))
                                (Option.bind (c23 ((Nd.mk s1.1.1 s1.1.2.1 s1.1.2.2.1), (x2, ()))) fun (y6 : (Bool × PUnit)) =>
                                  Option.bind (c13 ((Nd.mk s1.1.1 s1.1.2.1 s1.1.2.2.1), ())) fun (y7 : ((List Int) × PUnit)) =>
                                    Option.bind (c13 ((Nd.mk s1.2.1.1 s1.2.1.2.1 s1.2.1.2.2.1), ())) fun (y8 : ((List Int) × PUnit)) =>
                                      iter fu (fun (rec2 : ((Int × (Int × ((List Nd) × PUnit))) × ((Int × (Int × ((List Nd) × PUnit))) × (Bool × (Int × PUnit)))) → Option (Bool × PUnit)) (s2 : ((Int × (Int × ((List Nd) × PUnit))) × ((Int × (Int × ((List Nd) × PUnit))) × (Bool × (Int × PUnit))))) =>
                                          cond (ilt s2.2.2.2.1 (lenI y7.1))
                                            (cond s2.2.2.1
                                              (cond (inB s2.2.2.2.1 (List.length y7.1))
                                                (rec2 ((s2.1.1, (s2.1.2.1, (s2.1.2.2.1, ()))), ((s2.2.1.1, (s2.2.1.2.1, (s2.2.1.2.2.1, ()))), ((ieq (List.getD y7.1 (Int.toNat s2.2.2.2.1) 0) s2.2.2.2.1), ((iadd .i64 s2.2.2.2.1 1), ())))))
                                                (none))
                                              (rec2 ((s2.1.1, (s2.1.2.1, (s2.1.2.2.1, ()))), ((s2.2.1.1, (s2.2.1.2.1, (s2.2.1.2.2.1, ()))), (false, ((iadd .i64 s2.2.2.2.1 1), ()))))))
                                            (Option.bind (c23 ((Nd.mk s2.1.1 s2.1.2.1 s2.1.2.2.1), ((lenI y7.1), ()))) fun (y9 : (Bool × PUnit)) =>
                                              Option.bind (c23 ((Nd.mk s2.2.1.1 s2.2.1.2.1 s2.2.1.2.2.1), ((lenI y8.1), ()))) fun (y10 : (Bool × PUnit)) =>
                                                Option.bind (c22 ((Nd.mk s2.2.1.1 s2.2.1.2.1 s2.2.1.2.2.1), ((lenI y7.1), ()))) fun (y11 : (Nd × PUnit)) =>
                                                  Option.bind (c21 (7, ([(Nd.mk s2.1.1 s2.1.2.1 s2.1.2.2.1), (Nd.mk (Nd.kind y11.1) (Nd.tok y11.1) (Nd.kids y11.1))], ()))) fun (y12 : (Nd × PUnit)) =>
                                                    Option.bind (c23 ((Nd.mk (Nd.kind y12.1) (Nd.tok y12.1) (Nd.kids y12.1)), ((iadd .i64 (lenI y7.1) (lenI y8.1)), ()))) fun (y13 : (Bool × PUnit)) =>
                                                      cond y1.1
                                                        (cond (beqB y6.1 s2.2.2.1)
                                                          (cond (!y9.1)
                                                            (some (true, ()))
                                                            (some ((beqB y13.1 y10.1), ())))
                                                          (some (false, ())))
                                                        (some (false, ()))))
                                        ((s1.1.1, (s1.1.2.1, (s1.1.2.2.1, ()))), ((s1.2.1.1, (s1.2.1.2.1, (s1.2.1.2.2.1, ()))), ((ieq (lenI y7.1) x2), (0, ()))))))
                            (((Nd.kind y2.1), ((Nd.tok y2.1), ((Nd.kids y2.1), ()))), (((Nd.kind y3.1), ((Nd.tok y3.1), ((Nd.kids y3.1), ()))), (0, ())))))
                    (none))
                  (none))
                (none))
              (none)))
theorem eq8 (fu : Nat) (c9 : PUnit → (Option (Bool × PUnit))) (c10 : ((List UInt8) × PUnit) → (Option (Nd × (Int × PUnit)))) (c11 : ((List UInt8) × PUnit) → (Option (Int × PUnit))) (c13 : (Nd × PUnit) → (Option ((List Int) × PUnit))) (c17 : ((List UInt8) × PUnit) → (Option ((List Int) × PUnit))) (c21 : (Int × ((List Nd) × PUnit)) → (Option (Nd × PUnit))) (c22 : (Nd × (Int × PUnit)) → (Option (Nd × PUnit))) (c23 : (Nd × (Int × PUnit)) → (Option (Bool × PUnit))) (nf : Nat → Bool) (x0 : (List UInt8)) (x1 : (List UInt8)) (x2 : Int) : run8 fu c9 c10 c11 c13 c17 c21 c22 c23 nf x0 x1 x2 = sh8 fu c9 c10 c11 c13 c17 c21 c22 c23 nf x0 x1 x2 := by kernel_rfl

def sh23 (fu : Nat) (c13 : (Nd × PUnit) → (Option ((List Int) × PUnit))) (nf : Nat → Bool) (x0 : Nd) (x1 : Int) : (Option (Bool × PUnit)) :=
  Option.bind (c13 ((Nd.mk (Nd.kind x0) (Nd.tok x0) (Nd.kids x0)), ())) fun (y1 : ((List Int) × PUnit)) =>
    iter fu (fun (rec1 : (Int × PUnit) → Option (Bool × PUnit)) (s1 : (Int × PUnit)) =>
        cond (ilt s1.1 (lenI y1.1))
          (cond (inB s1.1 (List.length y1.1))
            (cond (ine s1.1 (List.getD y1.1 (Int.toNat s1.1) 0))
              (some (false, ()))
              (rec1 ((iadd .i64 s1.1 1), ())))
            (none))
          (some ((ieq (lenI y1.1) x1), ())))
      (0, ())
theorem eq23 (fu : Nat) (c13 : (Nd × PUnit) → (Option ((List Int) × PUnit))) (nf : Nat → Bool) (x0 : Nd) (x1 : Int) : run23 fu c13 nf x0 x1 = sh23 fu c13 nf x0 x1 := by kernel_rfl

theorem con9 (fu : Nat) (c10 : denAs as10 → Option (denAs rs10)) (h10 : ConOk CC Tryd.prog 10 ⟨as10, rs10, c10⟩) (c12 : denAs as12 → Option (denAs rs12)) (h12 : ConOk CC Tryd.prog 12 ⟨as12, rs12, c12⟩) (c13 : denAs as13 → Option (denAs rs13)) (h13 : ConOk CC Tryd.prog 13 ⟨as13, rs13, c13⟩) (c14 : denAs as14 → Option (denAs rs14)) (h14 : ConOk CC Tryd.prog 14 ⟨as14, rs14, c14⟩) (c15 : denAs as15 → Option (denAs rs15)) (h15 : ConOk CC Tryd.prog 15 ⟨as15, rs15, c15⟩) (c16 : denAs as16 → Option (denAs rs16)) (h16 : ConOk CC Tryd.prog 16 ⟨as16, rs16, c16⟩) (c20 : denAs as20 → Option (denAs rs20)) (h20 : ConOk CC Tryd.prog 20 ⟨as20, rs20, c20⟩) (c21 : denAs as21 → Option (denAs rs21)) (h21 : ConOk CC Tryd.prog 21 ⟨as21, rs21, c21⟩) (c24 : denAs as24 → Option (denAs rs24)) (h24 : ConOk CC Tryd.prog 24 ⟨as24, rs24, c24⟩) : ConOk CC Tryd.prog 9 ⟨as9, rs9, fun x => sh9 fu c10 c12 c13 c14 c15 c16 c20 c21 c24 (fun _ => false)⟩ :=
  runF2_ok (c := ⟨as9, rs9, fun x => sh9 fu c10 c12 c13 c14 c15 c16 c20 c21 c24 (fun _ => false)⟩) (fu := fu) (d := 2) (inl := findF []) (orc := findF [(10, (⟨as10, rs10, c10⟩ : Con UU)), (12, (⟨as12, rs12, c12⟩ : Con UU)), (13, (⟨as13, rs13, c13⟩ : Con UU)), (14, (⟨as14, rs14, c14⟩ : Con UU)), (15, (⟨as15, rs15, c15⟩ : Con UU)), (16, (⟨as16, rs16, c16⟩ : Con UU)), (20, (⟨as20, rs20, c20⟩ : Con UU)), (21, (⟨as21, rs21, c21⟩ : Con UU)), (24, (⟨as24, rs24, c24⟩ : Con UU))]) (pf := hasN [10, 12, 13, 14, 15, 16, 20, 21, 24]) Tb_ok CCok mixed (fun g => (findF_some (α := Con UU) (l := [(10, (⟨as10, rs10, c10⟩ : Con UU)), (12, (⟨as12, rs12, c12⟩ : Con UU)), (13, (⟨as13, rs13, c13⟩ : Con UU)), (14, (⟨as14, rs14, c14⟩ : Con UU)), (15, (⟨as15, rs15, c15⟩ : Con UU)), (16, (⟨as16, rs16, c16⟩ : Con UU)), (20, (⟨as20, rs20, c20⟩ : Con UU)), (21, (⟨as21, rs21, c21⟩ : Con UU)), (24, (⟨as24, rs24, c24⟩ : Con UU))]) g).symm) (findF_nil) (findF_cons ⟨code10, h10⟩ (findF_cons ⟨code12, h12⟩ (findF_cons ⟨code13, h13⟩ (findF_cons ⟨code14, h14⟩ (findF_cons ⟨code15, h15⟩ (findF_cons ⟨code16, h16⟩ (findF_cons ⟨code20, h20⟩ (findF_cons ⟨code21, h21⟩ (findF_cons ⟨code24, h24⟩ (findF_nil)))))))))) fdok9 (by show 0 ≤ 108; decide) (noLs_spec rfl) (fun nf x => eq9 fu c10 c12 c13 c14 c15 c16 c20 c21 c24 nf)

theorem con3 (fu : Nat) (c9 : denAs as9 → Option (denAs rs9)) (h9 : ConOk CC Tryd.prog 9 ⟨as9, rs9, c9⟩) (c10 : denAs as10 → Option (denAs rs10)) (h10 : ConOk CC Tryd.prog 10 ⟨as10, rs10, c10⟩) (c11 : denAs as11 → Option (denAs rs11)) (h11 : ConOk CC Tryd.prog 11 ⟨as11, rs11, c11⟩) (c12 : denAs as12 → Option (denAs rs12)) (h12 : ConOk CC Tryd.prog 12 ⟨as12, rs12, c12⟩) : ConOk CC Tryd.prog 3 ⟨as3, rs3, fun x => sh3 fu c9 c10 c11 c12 (fun _ => false) x.1⟩ :=
  runF2_ok (c := ⟨as3, rs3, fun x => sh3 fu c9 c10 c11 c12 (fun _ => false) x.1⟩) (fu := fu) (d := 2) (inl := findF []) (orc := findF [(9, (⟨as9, rs9, c9⟩ : Con UU)), (10, (⟨as10, rs10, c10⟩ : Con UU)), (11, (⟨as11, rs11, c11⟩ : Con UU)), (12, (⟨as12, rs12, c12⟩ : Con UU))]) (pf := hasN [9, 10, 11, 12]) Tb_ok CCok mixed (fun g => (findF_some (α := Con UU) (l := [(9, (⟨as9, rs9, c9⟩ : Con UU)), (10, (⟨as10, rs10, c10⟩ : Con UU)), (11, (⟨as11, rs11, c11⟩ : Con UU)), (12, (⟨as12, rs12, c12⟩ : Con UU))]) g).symm) (findF_nil) (findF_cons ⟨code9, h9⟩ (findF_cons ⟨code10, h10⟩ (findF_cons ⟨code11, h11⟩ (findF_cons ⟨code12, h12⟩ (findF_nil))))) fdok3 (by show 1 ≤ 44; decide) (noLs_spec rfl) (fun nf x => eq3 fu c9 c10 c11 c12 nf x.1)

theorem con4 (fu : Nat) (c9 : denAs as9 → Option (denAs rs9)) (h9 : ConOk CC Tryd.prog 9 ⟨as9, rs9, c9⟩) (c10 : denAs as10 → Option (denAs rs10)) (h10 : ConOk CC Tryd.prog 10 ⟨as10, rs10, c10⟩) (c13 : denAs as13 → Option (denAs rs13)) (h13 : ConOk CC Tryd.prog 13 ⟨as13, rs13, c13⟩) (c14 : denAs as14 → Option (denAs rs14)) (h14 : ConOk CC Tryd.prog 14 ⟨as14, rs14, c14⟩) (c15 : denAs as15 → Option (denAs rs15)) (h15 : ConOk CC Tryd.prog 15 ⟨as15, rs15, c15⟩) (c16 : denAs as16 → Option (denAs rs16)) (h16 : ConOk CC Tryd.prog 16 ⟨as16, rs16, c16⟩) (c17 : denAs as17 → Option (denAs rs17)) (h17 : ConOk CC Tryd.prog 17 ⟨as17, rs17, c17⟩) (c18 : denAs as18 → Option (denAs rs18)) (h18 : ConOk CC Tryd.prog 18 ⟨as18, rs18, c18⟩) (c19 : denAs as19 → Option (denAs rs19)) (h19 : ConOk CC Tryd.prog 19 ⟨as19, rs19, c19⟩) : ConOk CC Tryd.prog 4 ⟨as4, rs4, fun x => sh4 fu c9 c10 c13 c14 c15 c16 c17 c18 c19 (fun _ => false) x.1 x.2.1 x.2.2.1⟩ :=
  runF2_ok (c := ⟨as4, rs4, fun x => sh4 fu c9 c10 c13 c14 c15 c16 c17 c18 c19 (fun _ => false) x.1 x.2.1 x.2.2.1⟩) (fu := fu) (d := 2) (inl := findF []) (orc := findF [(9, (⟨as9, rs9, c9⟩ : Con UU)), (10, (⟨as10, rs10, c10⟩ : Con UU)), (13, (⟨as13, rs13, c13⟩ : Con UU)), (14, (⟨as14, rs14, c14⟩ : Con UU)), (15, (⟨as15, rs15, c15⟩ : Con UU)), (16, (⟨as16, rs16, c16⟩ : Con UU)), (17, (⟨as17, rs17, c17⟩ : Con UU)), (18, (⟨as18, rs18, c18⟩ : Con UU)), (19, (⟨as19, rs19, c19⟩ : Con UU))]) (pf := hasN [9, 10, 13, 14, 15, 16, 17, 18, 19]) Tb_ok CCok mixed (fun g => (findF_some (α := Con UU) (l := [(9, (⟨as9, rs9, c9⟩ : Con UU)), (10, (⟨as10, rs10, c10⟩ : Con UU)), (13, (⟨as13, rs13, c13⟩ : Con UU)), (14, (⟨as14, rs14, c14⟩ : Con UU)), (15, (⟨as15, rs15, c15⟩ : Con UU)), (16, (⟨as16, rs16, c16⟩ : Con UU)), (17, (⟨as17, rs17, c17⟩ : Con UU)), (18, (⟨as18, rs18, c18⟩ : Con UU)), (19, (⟨as19, rs19, c19⟩ : Con UU))]) g).symm) (findF_nil) (findF_cons ⟨code9, h9⟩ (findF_cons ⟨code10, h10⟩ (findF_cons ⟨code13, h13⟩ (findF_cons ⟨code14, h14⟩ (findF_cons ⟨code15, h15⟩ (findF_cons ⟨code16, h16⟩ (findF_cons ⟨code17, h17⟩ (findF_cons ⟨code18, h18⟩ (findF_cons ⟨code19, h19⟩ (findF_nil)))))))))) fdok4 (by show 3 ≤ 66; decide) (noLs_spec rfl) (fun nf x => eq4 fu c9 c10 c13 c14 c15 c16 c17 c18 c19 nf x.1 x.2.1 x.2.2.1)

theorem con5 (fu : Nat) (c9 : denAs as9 → Option (denAs rs9)) (h9 : ConOk CC Tryd.prog 9 ⟨as9, rs9, c9⟩) (c10 : denAs as10 → Option (denAs rs10)) (h10 : ConOk CC Tryd.prog 10 ⟨as10, rs10, c10⟩) (c20 : denAs as20 → Option (denAs rs20)) (h20 : ConOk CC Tryd.prog 20 ⟨as20, rs20, c20⟩) : ConOk CC Tryd.prog 5 ⟨as5, rs5, fun x => sh5 fu c9 c10 c20 (fun _ => false) x.1 x.2.1⟩ :=
  runF2_ok (c := ⟨as5, rs5, fun x => sh5 fu c9 c10 c20 (fun _ => false) x.1 x.2.1⟩) (fu := fu) (d := 2) (inl := findF []) (orc := findF [(9, (⟨as9, rs9, c9⟩ : Con UU)), (10, (⟨as10, rs10, c10⟩ : Con UU)), (20, (⟨as20, rs20, c20⟩ : Con UU))]) (pf := hasN [9, 10, 20]) Tb_ok CCok mixed (fun g => (findF_some (α := Con UU) (l := [(9, (⟨as9, rs9, c9⟩ : Con UU)), (10, (⟨as10, rs10, c10⟩ : Con UU)), (20, (⟨as20, rs20, c20⟩ : Con UU))]) g).symm) (findF_nil) (findF_cons ⟨code9, h9⟩ (findF_cons ⟨code10, h10⟩ (findF_cons ⟨code20, h20⟩ (findF_nil)))) fdok5 (by show 2 ≤ 47; decide) (noLs_spec rfl) (fun nf x => eq5 fu c9 c10 c20 nf x.1 x.2.1)

theorem con6 (fu : Nat) (c9 : denAs as9 → Option (denAs rs9)) (h9 : ConOk CC Tryd.prog 9 ⟨as9, rs9, c9⟩) (c10 : denAs as10 → Option (denAs rs10)) (h10 : ConOk CC Tryd.prog 10 ⟨as10, rs10, c10⟩) (c11 : denAs as11 → Option (denAs rs11)) (h11 : ConOk CC Tryd.prog 11 ⟨as11, rs11, c11⟩) (c12 : denAs as12 → Option (denAs rs12)) (h12 : ConOk CC Tryd.prog 12 ⟨as12, rs12, c12⟩) (c15 : denAs as15 → Option (denAs rs15)) (h15 : ConOk CC Tryd.prog 15 ⟨as15, rs15, c15⟩) (c21 : denAs as21 → Option (denAs rs21)) (h21 : ConOk CC Tryd.prog 21 ⟨as21, rs21, c21⟩) : ConOk CC Tryd.prog 6 ⟨as6, rs6, fun x => sh6 fu c9 c10 c11 c12 c15 c21 (fun _ => false) x.1 x.2.1 x.2.2.1⟩ :=
  runF2_ok (c := ⟨as6, rs6, fun x => sh6 fu c9 c10 c11 c12 c15 c21 (fun _ => false) x.1 x.2.1 x.2.2.1⟩) (fu := fu) (d := 2) (inl := findF []) (orc := findF [(9, (⟨as9, rs9, c9⟩ : Con UU)), (10, (⟨as10, rs10, c10⟩ : Con UU)), (11, (⟨as11, rs11, c11⟩ : Con UU)), (12, (⟨as12, rs12, c12⟩ : Con UU)), (15, (⟨as15, rs15, c15⟩ : Con UU)), (21, (⟨as21, rs21, c21⟩ : Con UU))]) (pf := hasN [9, 10, 11, 12, 15, 21]) Tb_ok CCok mixed (fun g => (findF_some (α := Con UU) (l := [(9, (⟨as9, rs9, c9⟩ : Con UU)), (10, (⟨as10, rs10, c10⟩ : Con UU)), (11, (⟨as11, rs11, c11⟩ : Con UU)), (12, (⟨as12, rs12, c12⟩ : Con UU)), (15, (⟨as15, rs15, c15⟩ : Con UU)), (21, (⟨as21, rs21, c21⟩ : Con UU))]) g).symm) (findF_nil) (findF_cons ⟨code9, h9⟩ (findF_cons ⟨code10, h10⟩ (findF_cons ⟨code11, h11⟩ (findF_cons ⟨code12, h12⟩ (findF_cons ⟨code15, h15⟩ (findF_cons ⟨code21, h21⟩ (findF_nil))))))) fdok6 (by show 3 ≤ 103; decide) (noLs_spec rfl) (fun nf x => eq6 fu c9 c10 c11 c12 c15 c21 nf x.1 x.2.1 x.2.2.1)

theorem con7 (fu : Nat) (c9 : denAs as9 → Option (denAs rs9)) (h9 : ConOk CC Tryd.prog 9 ⟨as9, rs9, c9⟩) (c10 : denAs as10 → Option (denAs rs10)) (h10 : ConOk CC Tryd.prog 10 ⟨as10, rs10, c10⟩) (c13 : denAs as13 → Option (denAs rs13)) (h13 : ConOk CC Tryd.prog 13 ⟨as13, rs13, c13⟩) (c17 : denAs as17 → Option (denAs rs17)) (h17 : ConOk CC Tryd.prog 17 ⟨as17, rs17, c17⟩) (c20 : denAs as20 → Option (denAs rs20)) (h20 : ConOk CC Tryd.prog 20 ⟨as20, rs20, c20⟩) (c22 : denAs as22 → Option (denAs rs22)) (h22 : ConOk CC Tryd.prog 22 ⟨as22, rs22, c22⟩) : ConOk CC Tryd.prog 7 ⟨as7, rs7, fun x => sh7 fu c9 c10 c13 c17 c20 c22 (fun _ => false) x.1 x.2.1⟩ :=
  runF2_ok (c := ⟨as7, rs7, fun x => sh7 fu c9 c10 c13 c17 c20 c22 (fun _ => false) x.1 x.2.1⟩) (fu := fu) (d := 2) (inl := findF []) (orc := findF [(9, (⟨as9, rs9, c9⟩ : Con UU)), (10, (⟨as10, rs10, c10⟩ : Con UU)), (13, (⟨as13, rs13, c13⟩ : Con UU)), (17, (⟨as17, rs17, c17⟩ : Con UU)), (20, (⟨as20, rs20, c20⟩ : Con UU)), (22, (⟨as22, rs22, c22⟩ : Con UU))]) (pf := hasN [9, 10, 13, 17, 20, 22]) Tb_ok CCok mixed (fun g => (findF_some (α := Con UU) (l := [(9, (⟨as9, rs9, c9⟩ : Con UU)), (10, (⟨as10, rs10, c10⟩ : Con UU)), (13, (⟨as13, rs13, c13⟩ : Con UU)), (17, (⟨as17, rs17, c17⟩ : Con UU)), (20, (⟨as20, rs20, c20⟩ : Con UU)), (22, (⟨as22, rs22, c22⟩ : Con UU))]) g).symm) (findF_nil) (findF_cons ⟨code9, h9⟩ (findF_cons ⟨code10, h10⟩ (findF_cons ⟨code13, h13⟩ (findF_cons ⟨code17, h17⟩ (findF_cons ⟨code20, h20⟩ (findF_cons ⟨code22, h22⟩ (findF_nil))))))) fdok7 (by show 2 ≤ 98; decide) (noLs_spec rfl) (fun nf x => eq7 fu c9 c10 c13 c17 c20 c22 nf x.1 x.2.1)

theorem con8 (fu : Nat) (c9 : denAs as9 → Option (denAs rs9)) (h9 : ConOk CC Tryd.prog 9 ⟨as9, rs9, c9⟩) (c10 : denAs as10 → Option (denAs rs10)) (h10 : ConOk CC Tryd.prog 10 ⟨as10, rs10, c10⟩) (c11 : denAs as11 → Option (denAs rs11)) (h11 : ConOk CC Tryd.prog 11 ⟨as11, rs11, c11⟩) (c13 : denAs as13 → Option (denAs rs13)) (h13 : ConOk CC Tryd.prog 13 ⟨as13, rs13, c13⟩) (c17 : denAs as17 → Option (denAs rs17)) (h17 : ConOk CC Tryd.prog 17 ⟨as17, rs17, c17⟩) (c21 : denAs as21 → Option (denAs rs21)) (h21 : ConOk CC Tryd.prog 21 ⟨as21, rs21, c21⟩) (c22 : denAs as22 → Option (denAs rs22)) (h22 : ConOk CC Tryd.prog 22 ⟨as22, rs22, c22⟩) (c23 : denAs as23 → Option (denAs rs23)) (h23 : ConOk CC Tryd.prog 23 ⟨as23, rs23, c23⟩) : ConOk CC Tryd.prog 8 ⟨as8, rs8, fun x => sh8 fu c9 c10 c11 c13 c17 c21 c22 c23 (fun _ => false) x.1 x.2.1 x.2.2.1⟩ :=
  runF2_ok (c := ⟨as8, rs8, fun x => sh8 fu c9 c10 c11 c13 c17 c21 c22 c23 (fun _ => false) x.1 x.2.1 x.2.2.1⟩) (fu := fu) (d := 2) (inl := findF []) (orc := findF [(9, (⟨as9, rs9, c9⟩ : Con UU)), (10, (⟨as10, rs10, c10⟩ : Con UU)), (11, (⟨as11, rs11, c11⟩ : Con UU)), (13, (⟨as13, rs13, c13⟩ : Con UU)), (17, (⟨as17, rs17, c17⟩ : Con UU)), (21, (⟨as21, rs21, c21⟩ : Con UU)), (22, (⟨as22, rs22, c22⟩ : Con UU)), (23, (⟨as23, rs23, c23⟩ : Con UU))]) (pf := hasN [9, 10, 11, 13, 17, 21, 22, 23]) Tb_ok CCok mixed (fun g => (findF_some (α := Con UU) (l := [(9, (⟨as9, rs9, c9⟩ : Con UU)), (10, (⟨as10, rs10, c10⟩ : Con UU)), (11, (⟨as11, rs11, c11⟩ : Con UU)), (13, (⟨as13, rs13, c13⟩ : Con UU)), (17, (⟨as17, rs17, c17⟩ : Con UU)), (21, (⟨as21, rs21, c21⟩ : Con UU)), (22, (⟨as22, rs22, c22⟩ : Con UU)), (23, (⟨as23, rs23, c23⟩ : Con UU))]) g).symm) (findF_nil) (findF_cons ⟨code9, h9⟩ (findF_cons ⟨code10, h10⟩ (findF_cons ⟨code11, h11⟩ (findF_cons ⟨code13, h13⟩ (findF_cons ⟨code17, h17⟩ (findF_cons ⟨code21, h21⟩ (findF_cons ⟨code22, h22⟩ (findF_cons ⟨code23, h23⟩ (findF_nil))))))))) fdok8 (by show 3 ≤ 126; decide) (noLs_spec rfl) (fun nf x => eq8 fu c9 c10 c11 c13 c17 c21 c22 c23 nf x.1 x.2.1 x.2.2.1)

theorem con23 (fu : Nat) (c13 : denAs as13 → Option (denAs rs13)) (h13 : ConOk CC Tryd.prog 13 ⟨as13, rs13, c13⟩) : ConOk CC Tryd.prog 23 ⟨as23, rs23, fun x => sh23 fu c13 (fun _ => false) x.1 x.2.1⟩ :=
  runF2_ok (c := ⟨as23, rs23, fun x => sh23 fu c13 (fun _ => false) x.1 x.2.1⟩) (fu := fu) (d := 2) (inl := findF []) (orc := findF [(13, (⟨as13, rs13, c13⟩ : Con UU))]) (pf := hasN [13]) Tb_ok CCok mixed (fun g => (findF_some (α := Con UU) (l := [(13, (⟨as13, rs13, c13⟩ : Con UU))]) g).symm) (findF_nil) (findF_cons ⟨code13, h13⟩ (findF_nil)) fdok23 (by show 2 ≤ 25; decide) (noLs_spec rfl) (fun nf x => eq23 fu c13 nf x.1 x.2.1)
end Go.Proofs.YtegibhjgldpndaaDoor
