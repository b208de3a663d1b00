/-
  The runs, printed: what the functions work out, in plain Lean.
-/
import Derived.Test.YtdedkemkmccliaaF3
set_option linter.unusedVariables false
set_option linter.unusedSimpArgs false
namespace Go.Proofs.Ytdedkemkmccliaa
open Go.Al Go.Den

def sh9 (fu : Nat) (c10 : ((List LineT) × PUnit) → (Option ((List It) × (Int × (Int × PUnit))))) (c11 : ((List Int) × PUnit) → (Option ((List LineT) × PUnit))) (c13 : ((List It) × ((List It) × PUnit)) → (Option (Bool × PUnit))) (c14 : ((List It) × (Int × PUnit)) → (Option ((List Int) × PUnit))) (c15 : ((List Int) × ((List Int) × PUnit)) → (Option (Bool × PUnit))) (nf : Nat → Bool) : (Option (Bool × PUnit)) :=
  Option.bind (c11 ([1, 2, 1, 6, 1, 7], ())) fun (y1 : ((List LineT) × PUnit)) =>
    Option.bind (c10 (y1.1, ())) fun (y2 : ((List It) × (Int × (Int × PUnit)))) =>
      Option.bind (c11 ([7], ())) fun (y3 : ((List LineT) × PUnit)) =>
        Option.bind (c10 (y3.1, ())) fun (y4 : ((List It) × (Int × (Int × PUnit)))) =>
          Option.bind (c11 ([2, 6, 5, 7], ())) fun (y5 : ((List LineT) × PUnit)) =>
            Option.bind (c10 (y5.1, ())) fun (y6 : ((List It) × (Int × (Int × PUnit)))) =>
              Option.bind (c11 ([2, 3, 7], ())) fun (y7 : ((List LineT) × PUnit)) =>
                Option.bind (c10 (y7.1, ())) fun (y8 : ((List It) × (Int × (Int × PUnit)))) =>
                  Option.bind (c14 (y2.1, (4, ()))) fun (y9 : ((List Int) × PUnit)) =>
                    Option.bind (c14 (y2.1, (5, ()))) fun (y10 : ((List Int) × PUnit)) =>
                      Option.bind (c14 (y2.1, (0, ()))) fun (y11 : ((List Int) × PUnit)) =>
                        Option.bind (c13 (y2.1, ([(It.mk 0 0 []), (It.mk 1 5 [(Br.mk 1 [(It.mk 2 2 [])]), (Br.mk 3 [(It.mk 4 4 [])])])], ()))) fun (y12 : (Bool × PUnit)) =>
                          cond y12.1
                            (cond (ieq y2.2.1 0)
                              (cond (ieq y2.2.2.1 0)
                                (cond (ieq y4.2.1 0)
                                  (cond (ieq y4.2.2.1 50)
                                    (cond (ieq y6.2.1 2)
                                      (cond (ieq y6.2.2.1 50)
                                        (cond (ieq y8.2.1 0)
                                          (cond (ieq y8.2.2.1 51)
                                            (Option.bind (c15 (y9.1, ([3], ()))) fun (y13 : (Bool × PUnit)) =>
                                              cond y13.1
                                                (Option.bind (c15 (y10.1, ([3], ()))) fun (y14 : (Bool × PUnit)) =>
                                                  cond y14.1
                                                    (some ((ieq (lenI y11.1) 0), ()))
                                                    (some (false, ())))
                                                (some (false, ())))
                                            (some (false, ())))
                                          (some (false, ())))
                                        (some (false, ())))
                                      (some (false, ())))
                                    (some (false, ())))
                                  (some (false, ())))
                                (some (false, ())))
                              (some (false, ())))
                            (some (false, ()))
theorem eq9 (fu : Nat) (c10 : ((List LineT) × PUnit) → (Option ((List It) × (Int × (Int × PUnit))))) (c11 : ((List Int) × PUnit) → (Option ((List LineT) × PUnit))) (c13 : ((List It) × ((List It) × PUnit)) → (Option (Bool × PUnit))) (c14 : ((List It) × (Int × PUnit)) → (Option ((List Int) × PUnit))) (c15 : ((List Int) × ((List Int) × PUnit)) → (Option (Bool × PUnit))) (nf : Nat → Bool) : run9 fu c10 c11 c13 c14 c15 nf = sh9 fu c10 c11 c13 c14 c15 nf := by kernel_rfl

def sh3 (fu : Nat) (c9 : PUnit → (Option (Bool × PUnit))) (c10 : ((List LineT) × PUnit) → (Option ((List It) × (Int × (Int × PUnit))))) (c11 : ((List Int) × PUnit) → (Option ((List LineT) × PUnit))) (c12 : ((List LineT) × PUnit) → (Option ((List It) × (Int × (Int × PUnit))))) (c13 : ((List It) × ((List It) × PUnit)) → (Option (Bool × PUnit))) (nf : Nat → Bool) (x0 : (List Int)) : (Option (Bool × PUnit)) :=
  Option.bind (c9 ()) fun (y1 : (Bool × PUnit)) =>
    cond (ilt 500 (lenI x0))
      (some (y1.1, ()))
      (Option.bind (c11 (x0, ())) fun (y2 : ((List LineT) × PUnit)) =>
        Option.bind (c10 (y2.1, ())) fun (y3 : ((List It) × (Int × (Int × PUnit)))) =>
          Option.bind (c11 (x0, ())) fun (y4 : ((List LineT) × PUnit)) =>
            Option.bind (c12 (y4.1, ())) fun (y5 : ((List It) × (Int × (Int × PUnit)))) =>
              cond y1.1
                (cond (ieq y3.2.1 y5.2.1)
                  (cond (ieq y3.2.2.1 y5.2.2.1)
                    (Option.bind (c13 (y3.1, (y5.1, ()))) fun (y6 : (Bool × PUnit)) =>
                      some (y6.1, ()))
                    (some (false, ())))
                  (some (false, ())))
                (some (false, ())))
theorem eq3 (fu : Nat) (c9 : PUnit → (Option (Bool × PUnit))) (c10 : ((List LineT) × PUnit) → (Option ((List It) × (Int × (Int × PUnit))))) (c11 : ((List Int) × PUnit) → (Option ((List LineT) × PUnit))) (c12 : ((List LineT) × PUnit) → (Option ((List It) × (Int × (Int × PUnit))))) (c13 : ((List It) × ((List It) × PUnit)) → (Option (Bool × PUnit))) (nf : Nat → Bool) (x0 : (List Int)) : run3 fu c9 c10 c11 c12 c13 nf x0 = sh3 fu c9 c10 c11 c12 c13 nf x0 := by kernel_rfl

def sh4 (fu : Nat) (c9 : PUnit → (Option (Bool × PUnit))) (c10 : ((List LineT) × PUnit) → (Option ((List It) × (Int × (Int × PUnit))))) (c11 : ((List Int) × PUnit) → (Option ((List LineT) × PUnit))) (nf : Nat → Bool) (x0 : (List Int)) (x1 : (List Int)) : (Option (Bool × PUnit)) :=
  Option.bind (c9 ()) fun (y1 : (Bool × PUnit)) =>
    cond (ilt 200 (lenI x0))
      (some (y1.1, ()))
      (cond (ilt 200 (lenI x1))
        (some (y1.1, ()))
        (Option.bind (c11 (x0, ())) fun (y2 : ((List LineT) × PUnit)) =>
          Option.bind (c10 (y2.1, ())) fun (y3 : ((List It) × (Int × (Int × PUnit)))) =>
            cond (okN 8 (0 + (List.length x0)))
              (cond (okN 8 ((List.length ([] ++ x0)) + (List.length x1)))
                (Option.bind (c11 ((([] ++ x0) ++ x1), ())) fun (y4 : ((List LineT) × PUnit)) =>
                  Option.bind (c10 (y4.1, ())) fun (y5 : ((List It) × (Int × (Int × PUnit)))) =>
                    cond (ine y3.2.2.1 50)
                      (cond y1.1
                        (cond (ine y5.2.2.1 50)
                          (some (true, ()))
                          (some ((ile (lenI x0) y5.2.1), ())))
                        (some (false, ())))
                      (cond y1.1
                        (cond (ieq y5.2.2.1 50)
                          (some ((ieq y3.2.1 y5.2.1), ()))
                          (some (false, ())))
                        (some (false, ()))))
                (none))
              (none)))
theorem eq4 (fu : Nat) (c9 : PUnit → (Option (Bool × PUnit))) (c10 : ((List LineT) × PUnit) → (Option ((List It) × (Int × (Int × PUnit))))) (c11 : ((List Int) × PUnit) → (Option ((List LineT) × PUnit))) (nf : Nat → Bool) (x0 : (List Int)) (x1 : (List Int)) : run4 fu c9 c10 c11 nf x0 x1 = sh4 fu c9 c10 c11 nf x0 x1 := by kernel_rfl

def sh5 (fu : Nat) (c9 : PUnit → (Option (Bool × PUnit))) (c10 : ((List LineT) × PUnit) → (Option ((List It) × (Int × (Int × PUnit))))) (c11 : ((List Int) × PUnit) → (Option ((List LineT) × PUnit))) (c14 : ((List It) × (Int × PUnit)) → (Option ((List Int) × PUnit))) (c15 : ((List Int) × ((List Int) × PUnit)) → (Option (Bool × PUnit))) (c16 : ((List LineT) × (Int × PUnit)) → (Option ((List Int) × PUnit))) (c17 : ((List It) × PUnit) → (Option (Int × PUnit))) (nf : Nat → Bool) (x0 : (List Int)) : (Option (Bool × PUnit)) :=
  Option.bind (c9 ()) fun (y1 : (Bool × PUnit)) =>
    cond (ilt 100 (lenI x0))
      (some (y1.1, ()))
      (Option.bind (c11 (x0, ())) fun (y2 : ((List LineT) × PUnit)) =>
        Option.bind (c10 (y2.1, ())) fun (y3 : ((List It) × (Int × (Int × PUnit)))) =>
          cond (ine y3.2.2.1 0)
            (some (y1.1, ()))
            (iter fu (fun (rec1 : (Int × (Int × PUnit)) → Option (Bool × PUnit)) (s1 : (Int × (Int × PUnit))) =>
                cond (ilt s1.2.1 (lenI x0))
                  (Option.bind (c14 (y3.1, (s1.2.1, ()))) fun (y4 : ((List Int) × PUnit)) =>
                    Option.bind (c11 (x0, ())) fun (y5 : ((List LineT) × PUnit)) =>
                      Option.bind (c16 (y5.1, (s1.2.1, ()))) fun (y6 : ((List Int) × PUnit)) =>
                        Option.bind (c15 (y4.1, (y6.1, ()))) fun (y7 : (Bool × PUnit)) =>
                          cond (!y7.1)
                            (some (false, ()))
                            (rec1 ((imax s1.1 (lenI y4.1)), ((iadd .i64 s1.2.1 1), ()))))
                  (Option.bind (c17 (y3.1, ())) fun (y4 : (Int × PUnit)) =>
                    Option.bind (c14 (y3.1, ((lenI x0), ()))) fun (y5 : ((List Int) × PUnit)) =>
                      Option.bind (c14 (y3.1, ((Neg.neg 1), ()))) fun (y6 : ((List Int) × PUnit)) =>
                        cond y1.1
                          (cond (ieq y4.1 s1.1)
                            (cond (ieq (lenI y5.1) 0)
                              (some ((ieq (lenI y6.1) 0), ()))
                              (some (false, ())))
                            (some (false, ())))
                          (some (false, ()))))
              (0, (0, ()))))
theorem eq5 (fu : Nat) (c9 : PUnit → (Option (Bool × PUnit))) (c10 : ((List LineT) × PUnit) → (Option ((List It) × (Int × (Int × PUnit))))) (c11 : ((List Int) × PUnit) → (Option ((List LineT) × PUnit))) (c14 : ((List It) × (Int × PUnit)) → (Option ((List Int) × PUnit))) (c15 : ((List Int) × ((List Int) × PUnit)) → (Option (Bool × PUnit))) (c16 : ((List LineT) × (Int × PUnit)) → (Option ((List Int) × PUnit))) (c17 : ((List It) × PUnit) → (Option (Int × PUnit))) (nf : Nat → Bool) (x0 : (List Int)) : run5 fu c9 c10 c11 c14 c15 c16 c17 nf x0 = sh5 fu c9 c10 c11 c14 c15 c16 c17 nf x0 := by kernel_rfl

def sh6 (fu : Nat) (c9 : PUnit → (Option (Bool × PUnit))) (c10 : ((List LineT) × PUnit) → (Option ((List It) × (Int × (Int × PUnit))))) (c11 : ((List Int) × PUnit) → (Option ((List LineT) × PUnit))) (c18 : ((List It) × PUnit) → (Option ((List Int) × PUnit))) (nf : Nat → Bool) (x0 : (List Int)) : (Option (Bool × PUnit)) :=
  Option.bind (c9 ()) fun (y1 : (Bool × PUnit)) =>
    cond (ilt 500 (lenI x0))
      (some (y1.1, ()))
      (Option.bind (c11 (x0, ())) fun (y2 : ((List LineT) × PUnit)) =>
        Option.bind (c10 (y2.1, ())) fun (y3 : ((List It) × (Int × (Int × PUnit)))) =>
          Option.bind (c18 (y3.1, ())) fun (y4 : ((List Int) × PUnit)) =>
            cond (ine y3.2.2.1 0)
              (cond y1.1
                (some ((ieq (lenI y3.1) 0), ()))
                (some (false, ())))
              (iter fu (fun (rec1 : (Int × PUnit) → Option (Bool × PUnit)) (s1 : (Int × PUnit)) =>
                  cond (ilt s1.1 (lenI y4.1))
                    (cond (inB s1.1 (List.length y4.1))
                      (cond (ine (List.getD y4.1 (Int.toNat s1.1) 0) s1.1)
                        (some (false, ()))
                        (rec1 ((iadd .i64 s1.1 1), ())))
                      (none))
                    (cond y1.1
                      (some ((ieq (lenI y4.1) (lenI x0)), ()))
                      (some (false, ()))))
                (0, ())))
theorem eq6 (fu : Nat) (c9 : PUnit → (Option (Bool × PUnit))) (c10 : ((List LineT) × PUnit) → (Option ((List It) × (Int × (Int × PUnit))))) (c11 : ((List Int) × PUnit) → (Option ((List LineT) × PUnit))) (c18 : ((List It) × PUnit) → (Option ((List Int) × PUnit))) (nf : Nat → Bool) (x0 : (List Int)) : run6 fu c9 c10 c11 c18 nf x0 = sh6 fu c9 c10 c11 c18 nf x0 := by kernel_rfl

def sh7 (fu : Nat) (c9 : PUnit → (Option (Bool × PUnit))) (c10 : ((List LineT) × PUnit) → (Option ((List It) × (Int × (Int × PUnit))))) (c11 : ((List Int) × PUnit) → (Option ((List LineT) × PUnit))) (c13 : ((List It) × ((List It) × PUnit)) → (Option (Bool × PUnit))) (c18 : ((List It) × PUnit) → (Option ((List Int) × PUnit))) (nf : Nat → Bool) (x0 : (List Int)) (x1 : (List Int)) : (Option (Bool × PUnit)) :=
  Option.bind (c9 ()) fun (y1 : (Bool × PUnit)) =>
    cond (ilt 200 (lenI x0))
      (some (y1.1, ()))
      (cond (ilt 200 (lenI x1))
        (some (y1.1, ()))
        (Option.bind (c11 (x0, ())) fun (y2 : ((List LineT) × PUnit)) =>
          Option.bind (c10 (y2.1, ())) fun (y3 : ((List It) × (Int × (Int × PUnit)))) =>
            Option.bind (c11 (x1, ())) fun (y4 : ((List LineT) × PUnit)) =>
              Option.bind (c10 (y4.1, ())) fun (y5 : ((List It) × (Int × (Int × PUnit)))) =>
                cond (okN 8 (0 + (List.length x0)))
                  (cond (okN 8 ((List.length ([] ++ x0)) + (List.length x1)))
                    (Option.bind (c11 ((([] ++ x0) ++ x1), ())) fun (y6 : ((List LineT) × PUnit)) =>
                      Option.bind (c10 (y6.1, ())) fun (y7 : ((List It) × (Int × (Int × PUnit)))) =>
                        cond (ine y3.2.2.1 0)
                          (some (y1.1, ()))
                          (cond (ine y5.2.2.1 0)
                            (cond y1.1
                              (cond (ieq y7.2.2.1 y5.2.2.1)
                                (cond (ieq y7.2.1 (iadd .i64 y5.2.1 (lenI x0)))
                                  (some ((ieq (lenI y7.1) 0), ()))
                                  (some (false, ())))
                                (some (false, ())))
                              (some (false, ())))
                            (cond (ine y7.2.2.1 0)
                              (some (false, ()))
                              (cond (ine (lenI y7.1) (iadd .i64 (lenI y3.1) (lenI y5.1)))
                                (some (false, ()))
                                (cond (inS (lenI y3.1) (lenI y7.1) (List.length y7.1))
                                  (Option.bind (c18 ((cutL y7.1 (lenI y3.1) (lenI y7.1)), ())) fun (y8 : ((List Int) × PUnit)) =>
                                    Option.bind (c18 (y5.1, ())) fun (y9 : ((List Int) × PUnit)) =>
                                      iter fu (fun (rec1 : (Int × PUnit) → Option (Bool × PUnit)) (s1 : (Int × PUnit)) =>
                                          cond (ilt s1.1 (lenI y8.1))
                                            (cond (ilt s1.1 (lenI y9.1))
                                              (cond (inB s1.1 (List.length y8.1))
                                                (cond (inB s1.1 (List.length y9.1))
                                                  (cond (ine (List.getD y8.1 (Int.toNat s1.1) 0) (iadd .i64 (List.getD y9.1 (Int.toNat s1.1) 0) (lenI x0)))
                                                    (some (false, ()))
                                                    (rec1 ((iadd .i64 s1.1 1), ())))
                                                  (none))
                                                (none))
                                              (cond y1.1
                                                (cond (ieq (lenI y8.1) (lenI y9.1))
                                                  (cond (inS 0 (lenI y3.1) (List.length y7.1))
                                                    (Option.bind (c13 ((cutL y7.1 0 (lenI y3.1)), (y3.1, ()))) fun (y10 : (Bool × PUnit)) =>
                                                      some (y10.1, ()))
                                                    (none))
                                                  (some (false, ())))
                                                (some (false, ()))))
                                            (cond y1.1
                                              (cond (ieq (lenI y8.1) (lenI y9.1))
                                                (cond (inS 0 (lenI y3.1) (List.length y7.1))
                                                  (Option.bind (c13 ((cutL y7.1 0 (lenI y3.1)), (y3.1, ()))) fun (y10 : (Bool × PUnit)) =>
                                                    some (y10.1, ()))
                                                  (none))
                                                (some (false, ())))
                                              (some (false, ()))))
                                        (0, ()))
                                  (none))))))
                    (none))
                  (none)))
theorem eq7 (fu : Nat) (c9 : PUnit → (Option (Bool × PUnit))) (c10 : ((List LineT) × PUnit) → (Option ((List It) × (Int × (Int × PUnit))))) (c11 : ((List Int) × PUnit) → (Option ((List LineT) × PUnit))) (c13 : ((List It) × ((List It) × PUnit)) → (Option (Bool × PUnit))) (c18 : ((List It) × PUnit) → (Option ((List Int) × PUnit))) (nf : Nat → Bool) (x0 : (List Int)) (x1 : (List Int)) : run7 fu c9 c10 c11 c13 c18 nf x0 x1 = sh7 fu c9 c10 c11 c13 c18 nf x0 x1 := by kernel_rfl

def sh8 (fu : Nat) (c9 : PUnit → (Option (Bool × PUnit))) (c10 : ((List LineT) × PUnit) → (Option ((List It) × (Int × (Int × PUnit))))) (c11 : ((List Int) × PUnit) → (Option ((List LineT) × PUnit))) (c17 : ((List It) × PUnit) → (Option (Int × PUnit))) (c18 : ((List It) × PUnit) → (Option ((List Int) × PUnit))) (nf : Nat → Bool) (x0 : (List Int)) : (Option (Bool × PUnit)) :=
  Option.bind (c9 ()) fun (y1 : (Bool × PUnit)) =>
    cond (ilt 300 (lenI x0))
      (some (y1.1, ()))
      (Option.bind (c11 (x0, ())) fun (y2 : ((List LineT) × PUnit)) =>
        Option.bind (c10 (y2.1, ())) fun (y3 : ((List It) × (Int × (Int × PUnit)))) =>
          cond (ine y3.2.2.1 0)
            (some (y1.1, ()))
            (Option.bind (c17 (y3.1, ())) fun (y4 : (Int × PUnit)) =>
              cond (okN 8 (1 + (List.length x0)))
                (cond (okN 8 ((List.length ([4] ++ x0)) + 1))
                  (Option.bind (c11 ((([4] ++ x0) ++ [7]), ())) fun (y5 : ((List LineT) × PUnit)) =>
                    Option.bind (c10 (y5.1, ())) fun (y6 : ((List It) × (Int × (Int × PUnit)))) =>
                      cond (okN 8 (2 + (List.length x0)))
                        (cond (okN 8 ((List.length ([2, 6] ++ x0)) + 1))
                          (Option.bind (c11 ((([2, 6] ++ x0) ++ [7]), ())) fun (y7 : ((List LineT) × PUnit)) =>
                            Option.bind (c10 (y7.1, ())) fun (y8 : ((List It) × (Int × (Int × PUnit)))) =>
                              cond (ine y6.2.2.1 0)
                                (some (false, ()))
                                (cond (ine y8.2.2.1 0)
                                  (some (false, ()))
                                  (cond (ine (lenI y6.1) 1)
                                    (some (false, ()))
                                    (cond (ine (lenI y8.1) 1)
                                      (some (false, ()))
                                      (cond (inB 0 (List.length y6.1))
                                        (cond (ine (lenI (It.brs (List.getD y6.1 0 itemD))) 1)
                                          (some (false, ()))
                                          (cond (inB 0 (List.length y8.1))
                                            (cond (ine (lenI (It.brs (List.getD y8.1 0 itemD))) 2)
                                              (some (false, ()))
                                              (Option.bind (c17 (y6.1, ())) fun (y9 : (Int × PUnit)) =>
                                                cond (inB 0 (List.length y6.1))
                                                  (cond (inB 0 (List.length (It.brs (List.getD y6.1 0 itemD))))
                                                    (Option.bind (c18 ((Br.items (List.getD (It.brs (List.getD y6.1 0 itemD)) 0 brD)), ())) fun (y10 : ((List Int) × PUnit)) =>
                                                      cond (inB 0 (List.length y8.1))
                                                        (cond (inB 1 (List.length (It.brs (List.getD y8.1 0 itemD))))
                                                          (Option.bind (c18 ((Br.items (List.getD (It.brs (List.getD y8.1 0 itemD)) 1 brD)), ())) fun (y11 : ((List Int) × PUnit)) =>
                                                            cond (inB 0 (List.length y8.1))
                                                              (cond (inB 0 (List.length (It.brs (List.getD y8.1 0 itemD))))
                                                                (cond (ine (lenI y10.1) (lenI x0))
                                                                  (some (false, ()))
                                                                  (cond (ine (lenI y11.1) (lenI x0))
                                                                    (some (false, ()))
                                                                    (iter fu (fun (rec1 : (Int × PUnit) → Option (Bool × PUnit)) (s1 : (Int × PUnit)) =>
                                                                        cond (ilt s1.1 (lenI x0))
                                                                          (cond (inB s1.1 (List.length y10.1))
                                                                            (cond (ine (List.getD y10.1 (Int.toNat s1.1) 0) (iadd .i64 s1.1 1))
                                                                              (some (false, ()))
                                                                              (cond (inB s1.1 (List.length y11.1))
                                                                                (cond (ine (List.getD y11.1 (Int.toNat s1.1) 0) (iadd .i64 s1.1 2))
                                                                                  (some (false, ()))
                                                                                  (rec1 ((iadd .i64 s1.1 1), ())))
                                                                                (none)))
                                                                            (none))
                                                                          (cond y1.1
                                                                            (cond (ieq y9.1 (iadd .i64 y4.1 1))
                                                                              (cond (ieq (lenI (Br.items (List.getD (It.brs (List.getD y8.1 0 itemD)) 0 brD))) 0)
                                                                                (cond (inB 0 (List.length y6.1))
                                                                                  (cond (ieq (It.fin (List.getD y6.1 0 itemD)) (iadd .i64 (lenI x0) 1))
                                                                                    (cond (inB 0 (List.length y8.1))
                                                                                      (some ((ieq (It.fin (List.getD y8.1 0 itemD)) (iadd .i64 (lenI x0) 2)), ()))
                                                                                      (none))
                                                                                    (some (false, ())))
                                                                                  (none))
                                                                                (some (false, ())))
                                                                              (some (false, ())))
                                                                            (some (false, ()))))
                                                                      (0, ()))))
                                                                (none))
                                                              (none))
                                                          (none))
                                                        (none))
                                                    (none))
                                                  (none)))
                                            (none)))
                                        (none))))))
                          (none))
                        (none))
                  (none))
                (none)))
theorem eq8 (fu : Nat) (c9 : PUnit → (Option (Bool × PUnit))) (c10 : ((List LineT) × PUnit) → (Option ((List It) × (Int × (Int × PUnit))))) (c11 : ((List Int) × PUnit) → (Option ((List LineT) × PUnit))) (c17 : ((List It) × PUnit) → (Option (Int × PUnit))) (c18 : ((List It) × PUnit) → (Option ((List Int) × PUnit))) (nf : Nat → Bool) (x0 : (List Int)) : run8 fu c9 c10 c11 c17 c18 nf x0 = sh8 fu c9 c10 c11 c17 c18 nf x0 := by kernel_rfl

theorem con9 (fu : Nat) (c10 : denAs as10 → Option (denAs rs10)) (h10 : ConOk CC Try.prog 10 ⟨as10, rs10, c10⟩) (c11 : denAs as11 → Option (denAs rs11)) (h11 : ConOk CC Try.prog 11 ⟨as11, rs11, c11⟩) (c13 : denAs as13 → Option (denAs rs13)) (h13 : ConOk CC Try.prog 13 ⟨as13, rs13, c13⟩) (c14 : denAs as14 → Option (denAs rs14)) (h14 : ConOk CC Try.prog 14 ⟨as14, rs14, c14⟩) (c15 : denAs as15 → Option (denAs rs15)) (h15 : ConOk CC Try.prog 15 ⟨as15, rs15, c15⟩) : ConOk CC Try.prog 9 ⟨as9, rs9, fun x => sh9 fu c10 c11 c13 c14 c15 (fun _ => false)⟩ :=
  runF_ok (c := ⟨as9, rs9, fun x => sh9 fu c10 c11 c13 c14 c15 (fun _ => false)⟩) (fu := fu) (d := 2) (inl := findF []) (orc := findF [(10, (⟨as10, rs10, c10⟩ : Con UU)), (11, (⟨as11, rs11, c11⟩ : Con UU)), (13, (⟨as13, rs13, c13⟩ : Con UU)), (14, (⟨as14, rs14, c14⟩ : Con UU)), (15, (⟨as15, rs15, c15⟩ : Con UU))]) (pf := hasN [10, 11, 13, 14, 15]) Tb_ok CCok mixed (fun g => (findF_some (α := Con UU) (l := [(10, (⟨as10, rs10, c10⟩ : Con UU)), (11, (⟨as11, rs11, c11⟩ : Con UU)), (13, (⟨as13, rs13, c13⟩ : Con UU)), (14, (⟨as14, rs14, c14⟩ : Con UU)), (15, (⟨as15, rs15, c15⟩ : Con UU))]) g).symm) (findF_nil) (findF_cons ⟨code10, h10⟩ (findF_cons ⟨code11, h11⟩ (findF_cons ⟨code13, h13⟩ (findF_cons ⟨code14, h14⟩ (findF_cons ⟨code15, h15⟩ (findF_nil)))))) fdok9 (by show 0 ≤ 111; decide) (noLs_spec rfl) (fun nf x => eq9 fu c10 c11 c13 c14 c15 nf)

theorem con3 (fu : Nat) (c9 : denAs as9 → Option (denAs rs9)) (h9 : ConOk CC Try.prog 9 ⟨as9, rs9, c9⟩) (c10 : denAs as10 → Option (denAs rs10)) (h10 : ConOk CC Try.prog 10 ⟨as10, rs10, c10⟩) (c11 : denAs as11 → Option (denAs rs11)) (h11 : ConOk CC Try.prog 11 ⟨as11, rs11, c11⟩) (c12 : denAs as12 → Option (denAs rs12)) (h12 : ConOk CC Try.prog 12 ⟨as12, rs12, c12⟩) (c13 : denAs as13 → Option (denAs rs13)) (h13 : ConOk CC Try.prog 13 ⟨as13, rs13, c13⟩) : ConOk CC Try.prog 3 ⟨as3, rs3, fun x => sh3 fu c9 c10 c11 c12 c13 (fun _ => false) x.1⟩ :=
  runF_ok (c := ⟨as3, rs3, fun x => sh3 fu c9 c10 c11 c12 c13 (fun _ => false) x.1⟩) (fu := fu) (d := 2) (inl := findF []) (orc := findF [(9, (⟨as9, rs9, c9⟩ : Con UU)), (10, (⟨as10, rs10, c10⟩ : Con UU)), (11, (⟨as11, rs11, c11⟩ : Con UU)), (12, (⟨as12, rs12, c12⟩ : Con UU)), (13, (⟨as13, rs13, c13⟩ : Con UU))]) (pf := hasN [9, 10, 11, 12, 13]) Tb_ok CCok mixed (fun g => (findF_some (α := Con UU) (l := [(9, (⟨as9, rs9, c9⟩ : Con UU)), (10, (⟨as10, rs10, c10⟩ : Con UU)), (11, (⟨as11, rs11, c11⟩ : Con UU)), (12, (⟨as12, rs12, c12⟩ : Con UU)), (13, (⟨as13, rs13, c13⟩ : Con UU))]) g).symm) (findF_nil) (findF_cons ⟨code9, h9⟩ (findF_cons ⟨code10, h10⟩ (findF_cons ⟨code11, h11⟩ (findF_cons ⟨code12, h12⟩ (findF_cons ⟨code13, h13⟩ (findF_nil)))))) fdok3 (by show 1 ≤ 45; decide) (noLs_spec rfl) (fun nf x => eq3 fu c9 c10 c11 c12 c13 nf x.1)

theorem con4 (fu : Nat) (c9 : denAs as9 → Option (denAs rs9)) (h9 : ConOk CC Try.prog 9 ⟨as9, rs9, c9⟩) (c10 : denAs as10 → Option (denAs rs10)) (h10 : ConOk CC Try.prog 10 ⟨as10, rs10, c10⟩) (c11 : denAs as11 → Option (denAs rs11)) (h11 : ConOk CC Try.prog 11 ⟨as11, rs11, c11⟩) : ConOk CC Try.prog 4 ⟨as4, rs4, fun x => sh4 fu c9 c10 c11 (fun _ => false) x.1 x.2.1⟩ :=
  runF_ok (c := ⟨as4, rs4, fun x => sh4 fu c9 c10 c11 (fun _ => false) x.1 x.2.1⟩) (fu := fu) (d := 2) (inl := findF []) (orc := findF [(9, (⟨as9, rs9, c9⟩ : Con UU)), (10, (⟨as10, rs10, c10⟩ : Con UU)), (11, (⟨as11, rs11, c11⟩ : Con UU))]) (pf := hasN [9, 10, 11]) Tb_ok CCok mixed (fun g => (findF_some (α := Con UU) (l := [(9, (⟨as9, rs9, c9⟩ : Con UU)), (10, (⟨as10, rs10, c10⟩ : Con UU)), (11, (⟨as11, rs11, c11⟩ : Con UU))]) g).symm) (findF_nil) (findF_cons ⟨code9, h9⟩ (findF_cons ⟨code10, h10⟩ (findF_cons ⟨code11, h11⟩ (findF_nil)))) fdok4 (by show 2 ≤ 63; decide) (noLs_spec rfl) (fun nf x => eq4 fu c9 c10 c11 nf x.1 x.2.1)

theorem con5 (fu : Nat) (c9 : denAs as9 → Option (denAs rs9)) (h9 : ConOk CC Try.prog 9 ⟨as9, rs9, c9⟩) (c10 : denAs as10 → Option (denAs rs10)) (h10 : ConOk CC Try.prog 10 ⟨as10, rs10, c10⟩) (c11 : denAs as11 → Option (denAs rs11)) (h11 : ConOk CC Try.prog 11 ⟨as11, rs11, c11⟩) (c14 : denAs as14 → Option (denAs rs14)) (h14 : ConOk CC Try.prog 14 ⟨as14, rs14, c14⟩) (c15 : denAs as15 → Option (denAs rs15)) (h15 : ConOk CC Try.prog 15 ⟨as15, rs15, c15⟩) (c16 : denAs as16 → Option (denAs rs16)) (h16 : ConOk CC Try.prog 16 ⟨as16, rs16, c16⟩) (c17 : denAs as17 → Option (denAs rs17)) (h17 : ConOk CC Try.prog 17 ⟨as17, rs17, c17⟩) : ConOk CC Try.prog 5 ⟨as5, rs5, fun x => sh5 fu c9 c10 c11 c14 c15 c16 c17 (fun _ => false) x.1⟩ :=
  runF_ok (c := ⟨as5, rs5, fun x => sh5 fu c9 c10 c11 c14 c15 c16 c17 (fun _ => false) x.1⟩) (fu := fu) (d := 2) (inl := findF []) (orc := findF [(9, (⟨as9, rs9, c9⟩ : Con UU)), (10, (⟨as10, rs10, c10⟩ : Con UU)), (11, (⟨as11, rs11, c11⟩ : Con UU)), (14, (⟨as14, rs14, c14⟩ : Con UU)), (15, (⟨as15, rs15, c15⟩ : Con UU)), (16, (⟨as16, rs16, c16⟩ : Con UU)), (17, (⟨as17, rs17, c17⟩ : Con UU))]) (pf := hasN [9, 10, 11, 14, 15, 16, 17]) Tb_ok CCok mixed (fun g => (findF_some (α := Con UU) (l := [(9, (⟨as9, rs9, c9⟩ : Con UU)), (10, (⟨as10, rs10, c10⟩ : Con UU)), (11, (⟨as11, rs11, c11⟩ : Con UU)), (14, (⟨as14, rs14, c14⟩ : Con UU)), (15, (⟨as15, rs15, c15⟩ : Con UU)), (16, (⟨as16, rs16, c16⟩ : Con UU)), (17, (⟨as17, rs17, c17⟩ : Con UU))]) g).symm) (findF_nil) (findF_cons ⟨code9, h9⟩ (findF_cons ⟨code10, h10⟩ (findF_cons ⟨code11, h11⟩ (findF_cons ⟨code14, h14⟩ (findF_cons ⟨code15, h15⟩ (findF_cons ⟨code16, h16⟩ (findF_cons ⟨code17, h17⟩ (findF_nil)))))))) fdok5 (by show 1 ≤ 72; decide) (noLs_spec rfl) (fun nf x => eq5 fu c9 c10 c11 c14 c15 c16 c17 nf x.1)

theorem con6 (fu : Nat) (c9 : denAs as9 → Option (denAs rs9)) (h9 : ConOk CC Try.prog 9 ⟨as9, rs9, c9⟩) (c10 : denAs as10 → Option (denAs rs10)) (h10 : ConOk CC Try.prog 10 ⟨as10, rs10, c10⟩) (c11 : denAs as11 → Option (denAs rs11)) (h11 : ConOk CC Try.prog 11 ⟨as11, rs11, c11⟩) (c18 : denAs as18 → Option (denAs rs18)) (h18 : ConOk CC Try.prog 18 ⟨as18, rs18, c18⟩) : ConOk CC Try.prog 6 ⟨as6, rs6, fun x => sh6 fu c9 c10 c11 c18 (fun _ => false) x.1⟩ :=
  runF_ok (c := ⟨as6, rs6, fun x => sh6 fu c9 c10 c11 c18 (fun _ => false) x.1⟩) (fu := fu) (d := 2) (inl := findF []) (orc := findF [(9, (⟨as9, rs9, c9⟩ : Con UU)), (10, (⟨as10, rs10, c10⟩ : Con UU)), (11, (⟨as11, rs11, c11⟩ : Con UU)), (18, (⟨as18, rs18, c18⟩ : Con UU))]) (pf := hasN [9, 10, 11, 18]) Tb_ok CCok mixed (fun g => (findF_some (α := Con UU) (l := [(9, (⟨as9, rs9, c9⟩ : Con UU)), (10, (⟨as10, rs10, c10⟩ : Con UU)), (11, (⟨as11, rs11, c11⟩ : Con UU)), (18, (⟨as18, rs18, c18⟩ : Con UU))]) g).symm) (findF_nil) (findF_cons ⟨code9, h9⟩ (findF_cons ⟨code10, h10⟩ (findF_cons ⟨code11, h11⟩ (findF_cons ⟨code18, h18⟩ (findF_nil))))) fdok6 (by show 1 ≤ 51; decide) (noLs_spec rfl) (fun nf x => eq6 fu c9 c10 c11 c18 nf x.1)

theorem con7 (fu : Nat) (c9 : denAs as9 → Option (denAs rs9)) (h9 : ConOk CC Try.prog 9 ⟨as9, rs9, c9⟩) (c10 : denAs as10 → Option (denAs rs10)) (h10 : ConOk CC Try.prog 10 ⟨as10, rs10, c10⟩) (c11 : denAs as11 → Option (denAs rs11)) (h11 : ConOk CC Try.prog 11 ⟨as11, rs11, c11⟩) (c13 : denAs as13 → Option (denAs rs13)) (h13 : ConOk CC Try.prog 13 ⟨as13, rs13, c13⟩) (c18 : denAs as18 → Option (denAs rs18)) (h18 : ConOk CC Try.prog 18 ⟨as18, rs18, c18⟩) : ConOk CC Try.prog 7 ⟨as7, rs7, fun x => sh7 fu c9 c10 c11 c13 c18 (fun _ => false) x.1 x.2.1⟩ :=
  runF_ok (c := ⟨as7, rs7, fun x => sh7 fu c9 c10 c11 c13 c18 (fun _ => false) x.1 x.2.1⟩) (fu := fu) (d := 2) (inl := findF []) (orc := findF [(9, (⟨as9, rs9, c9⟩ : Con UU)), (10, (⟨as10, rs10, c10⟩ : Con UU)), (11, (⟨as11, rs11, c11⟩ : Con UU)), (13, (⟨as13, rs13, c13⟩ : Con UU)), (18, (⟨as18, rs18, c18⟩ : Con UU))]) (pf := hasN [9, 10, 11, 13, 18]) Tb_ok CCok mixed (fun g => (findF_some (α := Con UU) (l := [(9, (⟨as9, rs9, c9⟩ : Con UU)), (10, (⟨as10, rs10, c10⟩ : Con UU)), (11, (⟨as11, rs11, c11⟩ : Con UU)), (13, (⟨as13, rs13, c13⟩ : Con UU)), (18, (⟨as18, rs18, c18⟩ : Con UU))]) g).symm) (findF_nil) (findF_cons ⟨code9, h9⟩ (findF_cons ⟨code10, h10⟩ (findF_cons ⟨code11, h11⟩ (findF_cons ⟨code13, h13⟩ (findF_cons ⟨code18, h18⟩ (findF_nil)))))) fdok7 (by show 2 ≤ 136; decide) (noLs_spec rfl) (fun nf x => eq7 fu c9 c10 c11 c13 c18 nf x.1 x.2.1)

theorem con8 (fu : Nat) (c9 : denAs as9 → Option (denAs rs9)) (h9 : ConOk CC Try.prog 9 ⟨as9, rs9, c9⟩) (c10 : denAs as10 → Option (denAs rs10)) (h10 : ConOk CC Try.prog 10 ⟨as10, rs10, c10⟩) (c11 : denAs as11 → Option (denAs rs11)) (h11 : ConOk CC Try.prog 11 ⟨as11, rs11, c11⟩) (c17 : denAs as17 → Option (denAs rs17)) (h17 : ConOk CC Try.prog 17 ⟨as17, rs17, c17⟩) (c18 : denAs as18 → Option (denAs rs18)) (h18 : ConOk CC Try.prog 18 ⟨as18, rs18, c18⟩) : ConOk CC Try.prog 8 ⟨as8, rs8, fun x => sh8 fu c9 c10 c11 c17 c18 (fun _ => false) x.1⟩ :=
  runF_ok (c := ⟨as8, rs8, fun x => sh8 fu c9 c10 c11 c17 c18 (fun _ => false) x.1⟩) (fu := fu) (d := 2) (inl := findF []) (orc := findF [(9, (⟨as9, rs9, c9⟩ : Con UU)), (10, (⟨as10, rs10, c10⟩ : Con UU)), (11, (⟨as11, rs11, c11⟩ : Con UU)), (17, (⟨as17, rs17, c17⟩ : Con UU)), (18, (⟨as18, rs18, c18⟩ : Con UU))]) (pf := hasN [9, 10, 11, 17, 18]) Tb_ok CCok mixed (fun g => (findF_some (α := Con UU) (l := [(9, (⟨as9, rs9, c9⟩ : Con UU)), (10, (⟨as10, rs10, c10⟩ : Con UU)), (11, (⟨as11, rs11, c11⟩ : Con UU)), (17, (⟨as17, rs17, c17⟩ : Con UU)), (18, (⟨as18, rs18, c18⟩ : Con UU))]) g).symm) (findF_nil) (findF_cons ⟨code9, h9⟩ (findF_cons ⟨code10, h10⟩ (findF_cons ⟨code11, h11⟩ (findF_cons ⟨code17, h17⟩ (findF_cons ⟨code18, h18⟩ (findF_nil)))))) fdok8 (by show 1 ≤ 181; decide) (noLs_spec rfl) (fun nf x => eq8 fu c9 c10 c11 c17 c18 nf x.1)
end Go.Proofs.Ytdedkemkmccliaa
