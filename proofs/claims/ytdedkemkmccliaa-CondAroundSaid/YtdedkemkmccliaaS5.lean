/-
  The runs, printed: what the functions work out, in plain Lean.
-/
import Derived.Test.YtdedkemkmccliaaF5
set_option linter.unusedVariables false
set_option linter.unusedSimpArgs false
namespace Go.Proofs.Ytdedkemkmccliaa
open Go.Al Go.Den

def sh116 (fu : Nat) (nf : Nat → Bool) (x0 : (List LineT)) (x1 : Int) : (Option ((Bool × (List Int)) × PUnit)) :=
  iter fu (fun (rec1 : ((Option (List Int)) × (Int × PUnit)) → Option ((Bool × (List Int)) × PUnit)) (s1 : ((Option (List Int)) × (Int × PUnit))) =>
      oCase s1.1
        (cond (ile s1.2.1 x1)
          (cond (ilt s1.2.1 (lenI x0))
            (cond (inB s1.2.1 (List.length x0))
              (joinC (fun (join0 : ((Option (List Int)) × PUnit) → Option ((Bool × (List Int)) × PUnit)) =>
                  cond (ieq (LineT.kind (List.getD x0 (Int.toNat s1.2.1) lineD)) 2)
                    (cond (okN 8 (List.length [s1.2.1]))
                      (cond (eqN (List.length [s1.2.1]) (List.length (takeL (List.length [s1.2.1]) [s1.2.1])))
                        (join0 ((Option.some (takeL (List.length [s1.2.1]) [s1.2.1])), ()))
                        (none))
                      (none))
                    (cond (ieq (LineT.kind (List.getD x0 (Int.toNat s1.2.1) lineD)) 3)
                      (cond (okN 8 (List.length [s1.2.1]))
                        (cond (eqN (List.length [s1.2.1]) (List.length (takeL (List.length [s1.2.1]) [s1.2.1])))
                          (join0 ((Option.some (takeL (List.length [s1.2.1]) [s1.2.1])), ()))
                          (none))
                        (none))
                      (cond (ieq (LineT.kind (List.getD x0 (Int.toNat s1.2.1) lineD)) 4)
                        (cond (okN 8 (List.length [s1.2.1]))
                          (cond (eqN (List.length [s1.2.1]) (List.length (takeL (List.length [s1.2.1]) [s1.2.1])))
                            (join0 ((Option.some (takeL (List.length [s1.2.1]) [s1.2.1])), ()))
                            (none))
                          (none))
                        (join0 (Option.none, ())))))
                (fun (t0 : ((Option (List Int)) × PUnit)) =>
                  oCase t0.1
                    (joinC (fun (join0 : ((Option (List Int)) × PUnit) → Option ((Bool × (List Int)) × PUnit)) =>
                        cond (ieq (LineT.kind (List.getD x0 (Int.toNat s1.2.1) lineD)) 5)
                          (none)
                          (cond (ieq (LineT.kind (List.getD x0 (Int.toNat s1.2.1) lineD)) 6)
                            (none)
                            (join0 (Option.none, ()))))
                      (fun (t1 : ((Option (List Int)) × PUnit)) =>
                        oCase t1.1
                          (cond (ieq (LineT.kind (List.getD x0 (Int.toNat s1.2.1) lineD)) 7)
                            (cond (ilt s1.2.1 x1)
                              (none)
                              (rec1 (Option.none, ((iadd .i64 s1.2.1 1), ()))))
                            (rec1 (Option.none, ((iadd .i64 s1.2.1 1), ()))))
                          fun (y1 : (List Int)) =>
                          cond (ieq (LineT.kind (List.getD x0 (Int.toNat s1.2.1) lineD)) 7)
                            (cond (ilt s1.2.1 x1)
                              (cond (inS 0 (isub .i64 (Int.ofNat (List.length y1)) 1) (List.length y1))
                                (cond (eqN (Int.toNat (isub .i64 (Int.ofNat (List.length y1)) 1)) (List.length (takeL (Int.toNat (isub .i64 (Int.ofNat (List.length y1)) 1)) y1)))
                                  (rec1 ((Option.some (takeL (Int.toNat (isub .i64 (Int.ofNat (List.length y1)) 1)) y1)), ((iadd .i64 s1.2.1 1), ())))
                                  (none))
                                (none))
                              (cond (eqN (List.length y1) (List.length (takeL (List.length y1) y1)))
                                (rec1 ((Option.some (takeL (List.length y1) y1)), ((iadd .i64 s1.2.1 1), ())))
                                (none)))
                            (cond (eqN (List.length y1) (List.length (takeL (List.length y1) y1)))
                              (rec1 ((Option.some (takeL (List.length y1) y1)), ((iadd .i64 s1.2.1 1), ())))
                              (none))))
                    fun (y1 : (List Int)) =>
                    joinC (fun (join0 : ((Option (List Int)) × PUnit) → Option ((Bool × (List Int)) × PUnit)) =>
                        cond (ieq (LineT.kind (List.getD x0 (Int.toNat s1.2.1) lineD)) 5)
                          (cond (inB (isub .i64 (Int.ofNat (List.length y1)) 1) (List.length y1))
                            (cond (Nat.blt (Int.toNat (isub .i64 (Int.ofNat (List.length y1)) 1)) (List.length y1))
                              (cond (eqN (List.length y1) (List.length (takeL (List.length y1) (List.set y1 (Int.toNat (isub .i64 (Int.ofNat (List.length y1)) 1)) s1.2.1))))
                                (join0 ((Option.some (takeL (List.length y1) (List.set y1 (Int.toNat (isub .i64 (Int.ofNat (List.length y1)) 1)) s1.2.1))), ()))
                                (none))
                              (none))
                            (none))
                          (cond (ieq (LineT.kind (List.getD x0 (Int.toNat s1.2.1) lineD)) 6)
                            (cond (inB (isub .i64 (Int.ofNat (List.length y1)) 1) (List.length y1))
                              (cond (Nat.blt (Int.toNat (isub .i64 (Int.ofNat (List.length y1)) 1)) (List.length y1))
                                (cond (eqN (List.length y1) (List.length (takeL (List.length y1) (List.set y1 (Int.toNat (isub .i64 (Int.ofNat (List.length y1)) 1)) s1.2.1))))
                                  (join0 ((Option.some (takeL (List.length y1) (List.set y1 (Int.toNat (isub .i64 (Int.ofNat (List.length y1)) 1)) s1.2.1))), ()))
                                  (none))
                                (none))
                              (none))
                            (cond (eqN (List.length y1) (List.length (takeL (List.length y1) y1)))
                              (join0 ((Option.some (takeL (List.length y1) y1)), ()))
                              (none))))
                      (fun (t1 : ((Option (List Int)) × PUnit)) =>
                        oCase t1.1
                          (cond (ieq (LineT.kind (List.getD x0 (Int.toNat s1.2.1) lineD)) 7)
                            (cond (ilt s1.2.1 x1)
                              (none)
                              (rec1 (Option.none, ((iadd .i64 s1.2.1 1), ()))))
                            (rec1 (Option.none, ((iadd .i64 s1.2.1 1), ()))))
                          fun (y2 : (List Int)) =>
                          cond (ieq (LineT.kind (List.getD x0 (Int.toNat s1.2.1) lineD)) 7)
                            (cond (ilt s1.2.1 x1)
                              (cond (inS 0 (isub .i64 (Int.ofNat (List.length y2)) 1) (List.length y2))
                                (cond (eqN (Int.toNat (isub .i64 (Int.ofNat (List.length y2)) 1)) (List.length (takeL (Int.toNat (isub .i64 (Int.ofNat (List.length y2)) 1)) y2)))
                                  (rec1 ((Option.some (takeL (Int.toNat (isub .i64 (Int.ofNat (List.length y2)) 1)) y2)), ((iadd .i64 s1.2.1 1), ())))
                                  (none))
                                (none))
                              (cond (eqN (List.length y2) (List.length (takeL (List.length y2) y2)))
                                (rec1 ((Option.some (takeL (List.length y2) y2)), ((iadd .i64 s1.2.1 1), ())))
                                (none)))
                            (cond (eqN (List.length y2) (List.length (takeL (List.length y2) y2)))
                              (rec1 ((Option.some (takeL (List.length y2) y2)), ((iadd .i64 s1.2.1 1), ())))
                              (none)))))
              (none))
            (some ((true, []), ())))
          (some ((true, []), ())))
        fun (y1 : (List Int)) =>
        cond (ile s1.2.1 x1)
          (cond (ilt s1.2.1 (lenI x0))
            (cond (inB s1.2.1 (List.length x0))
              (joinC (fun (join0 : ((Option (List Int)) × PUnit) → Option ((Bool × (List Int)) × PUnit)) =>
                  cond (ieq (LineT.kind (List.getD x0 (Int.toNat s1.2.1) lineD)) 2)
                    (cond ((Nat.ble (List.length y1) (List.length y1)) && (okN 8 ((List.length y1) + (List.length [s1.2.1]))))
                      (cond (eqN ((List.length y1) + (List.length [s1.2.1])) (List.length (takeL ((List.length y1) + (List.length [s1.2.1])) ((List.take (List.length y1) y1) ++ [s1.2.1]))))
                        (join0 ((Option.some (takeL ((List.length y1) + (List.length [s1.2.1])) ((List.take (List.length y1) y1) ++ [s1.2.1]))), ()))
                        (none))
                      (none))
                    (cond (ieq (LineT.kind (List.getD x0 (Int.toNat s1.2.1) lineD)) 3)
                      (cond ((Nat.ble (List.length y1) (List.length y1)) && (okN 8 ((List.length y1) + (List.length [s1.2.1]))))
                        (cond (eqN ((List.length y1) + (List.length [s1.2.1])) (List.length (takeL ((List.length y1) + (List.length [s1.2.1])) ((List.take (List.length y1) y1) ++ [s1.2.1]))))
                          (join0 ((Option.some (takeL ((List.length y1) + (List.length [s1.2.1])) ((List.take (List.length y1) y1) ++ [s1.2.1]))), ()))
                          (none))
                        (none))
                      (cond (ieq (LineT.kind (List.getD x0 (Int.toNat s1.2.1) lineD)) 4)
                        (cond ((Nat.ble (List.length y1) (List.length y1)) && (okN 8 ((List.length y1) + (List.length [s1.2.1]))))
                          (cond (eqN ((List.length y1) + (List.length [s1.2.1])) (List.length (takeL ((List.length y1) + (List.length [s1.2.1])) ((List.take (List.length y1) y1) ++ [s1.2.1]))))
                            (join0 ((Option.some (takeL ((List.length y1) + (List.length [s1.2.1])) ((List.take (List.length y1) y1) ++ [s1.2.1]))), ()))
                            (none))
                          (none))
                        (cond (eqN (List.length y1) (List.length (takeL (List.length y1) y1)))
                          (join0 ((Option.some (takeL (List.length y1) y1)), ()))
                          (none)))))
                (fun (t0 : ((Option (List Int)) × PUnit)) =>
                  oCase t0.1
                    (joinC (fun (join0 : ((Option (List Int)) × PUnit) → Option ((Bool × (List Int)) × PUnit)) =>
                        cond (ieq (LineT.kind (List.getD x0 (Int.toNat s1.2.1) lineD)) 5)
                          (none)
                          (cond (ieq (LineT.kind (List.getD x0 (Int.toNat s1.2.1) lineD)) 6)
                            (none)
                            (join0 (Option.none, ()))))
                      (fun (t1 : ((Option (List Int)) × PUnit)) =>
                        oCase t1.1
                          (cond (ieq (LineT.kind (List.getD x0 (Int.toNat s1.2.1) lineD)) 7)
                            (cond (ilt s1.2.1 x1)
                              (none)
                              (rec1 (Option.none, ((iadd .i64 s1.2.1 1), ()))))
                            (rec1 (Option.none, ((iadd .i64 s1.2.1 1), ()))))
                          fun (y2 : (List Int)) =>
                          cond (ieq (LineT.kind (List.getD x0 (Int.toNat s1.2.1) lineD)) 7)
                            (cond (ilt s1.2.1 x1)
                              (cond (inS 0 (isub .i64 (Int.ofNat (List.length y2)) 1) (List.length y2))
                                (cond (eqN (Int.toNat (isub .i64 (Int.ofNat (List.length y2)) 1)) (List.length (takeL (Int.toNat (isub .i64 (Int.ofNat (List.length y2)) 1)) y2)))
                                  (rec1 ((Option.some (takeL (Int.toNat (isub .i64 (Int.ofNat (List.length y2)) 1)) y2)), ((iadd .i64 s1.2.1 1), ())))
                                  (none))
                                (none))
                              (cond (eqN (List.length y2) (List.length (takeL (List.length y2) y2)))
                                (rec1 ((Option.some (takeL (List.length y2) y2)), ((iadd .i64 s1.2.1 1), ())))
                                (none)))
                            (cond (eqN (List.length y2) (List.length (takeL (List.length y2) y2)))
                              (rec1 ((Option.some (takeL (List.length y2) y2)), ((iadd .i64 s1.2.1 1), ())))
                              (none))))
                    fun (y2 : (List Int)) =>
                    joinC (fun (join0 : ((Option (List Int)) × PUnit) → Option ((Bool × (List Int)) × PUnit)) =>
                        cond (ieq (LineT.kind (List.getD x0 (Int.toNat s1.2.1) lineD)) 5)
                          (cond (inB (isub .i64 (Int.ofNat (List.length y2)) 1) (List.length y2))
                            (cond (Nat.blt (Int.toNat (isub .i64 (Int.ofNat (List.length y2)) 1)) (List.length y2))
                              (cond (eqN (List.length y2) (List.length (takeL (List.length y2) (List.set y2 (Int.toNat (isub .i64 (Int.ofNat (List.length y2)) 1)) s1.2.1))))
                                (join0 ((Option.some (takeL (List.length y2) (List.set y2 (Int.toNat (isub .i64 (Int.ofNat (List.length y2)) 1)) s1.2.1))), ()))
                                (none))
                              (none))
                            (none))
                          (cond (ieq (LineT.kind (List.getD x0 (Int.toNat s1.2.1) lineD)) 6)
                            (cond (inB (isub .i64 (Int.ofNat (List.length y2)) 1) (List.length y2))
                              (cond (Nat.blt (Int.toNat (isub .i64 (Int.ofNat (List.length y2)) 1)) (List.length y2))
                                (cond (eqN (List.length y2) (List.length (takeL (List.length y2) (List.set y2 (Int.toNat (isub .i64 (Int.ofNat (List.length y2)) 1)) s1.2.1))))
                                  (join0 ((Option.some (takeL (List.length y2) (List.set y2 (Int.toNat (isub .i64 (Int.ofNat (List.length y2)) 1)) s1.2.1))), ()))
                                  (none))
                                (none))
                              (none))
                            (cond (eqN (List.length y2) (List.length (takeL (List.length y2) y2)))
                              (join0 ((Option.some (takeL (List.length y2) y2)), ()))
                              (none))))
                      (fun (t1 : ((Option (List Int)) × PUnit)) =>
                        oCase t1.1
                          (cond (ieq (LineT.kind (List.getD x0 (Int.toNat s1.2.1) lineD)) 7)
                            (cond (ilt s1.2.1 x1)
                              (none)
                              (rec1 (Option.none, ((iadd .i64 s1.2.1 1), ()))))
                            (rec1 (Option.none, ((iadd .i64 s1.2.1 1), ()))))
                          fun (y3 : (List Int)) =>
                          cond (ieq (LineT.kind (List.getD x0 (Int.toNat s1.2.1) lineD)) 7)
                            (cond (ilt s1.2.1 x1)
                              (cond (inS 0 (isub .i64 (Int.ofNat (List.length y3)) 1) (List.length y3))
                                (cond (eqN (Int.toNat (isub .i64 (Int.ofNat (List.length y3)) 1)) (List.length (takeL (Int.toNat (isub .i64 (Int.ofNat (List.length y3)) 1)) y3)))
                                  (rec1 ((Option.some (takeL (Int.toNat (isub .i64 (Int.ofNat (List.length y3)) 1)) y3)), ((iadd .i64 s1.2.1 1), ())))
                                  (none))
                                (none))
                              (cond (eqN (List.length y3) (List.length (takeL (List.length y3) y3)))
                                (rec1 ((Option.some (takeL (List.length y3) y3)), ((iadd .i64 s1.2.1 1), ())))
                                (none)))
                            (cond (eqN (List.length y3) (List.length (takeL (List.length y3) y3)))
                              (rec1 ((Option.some (takeL (List.length y3) y3)), ((iadd .i64 s1.2.1 1), ())))
                              (none)))))
              (none))
            (cond (Nat.ble (List.length y1) (List.length y1))
              (some ((false, (takeL (List.length y1) y1)), ()))
              (none)))
          (cond (Nat.ble (List.length y1) (List.length y1))
            (some ((false, (takeL (List.length y1) y1)), ()))
            (none)))
    (Option.none, (0, ()))
theorem eq116 (fu : Nat) (nf : Nat → Bool) (x0 : (List LineT)) (x1 : Int) : run116 fu nf x0 x1 = sh116 fu nf x0 x1 := by kernel_rfl

def sh105 (fu : Nat) (c9 : PUnit → (Option (Bool × PUnit))) (c10 : ((List LineT) × PUnit) → (Option ((List It) × (Int × (Int × PUnit))))) (c11 : ((List Int) × PUnit) → (Option ((List LineT) × PUnit))) (c14 : ((List It) × (Int × PUnit)) → (Option ((List Int) × PUnit))) (c15 : ((List Int) × ((List Int) × PUnit)) → (Option (Bool × PUnit))) (c16 : ((List LineT) × (Int × PUnit)) → (Option ((Bool × (List Int)) × PUnit))) (c17 : ((List It) × PUnit) → (Option (Int × PUnit))) (nf : Nat → Bool) (x0 : (List Int)) : (Option (Bool × PUnit)) :=
  Option.bind (c9 ()) fun (y1 : (Bool × PUnit)) =>
    cond (ilt 100 (lenI x0))
      (some (y1.1, ()))
      (Option.bind (c11 (x0, ())) fun (y2 : ((List LineT) × PUnit)) =>
        Option.bind (c10 (y2.1, ())) fun (y3 : ((List It) × (Int × (Int × PUnit)))) =>
          cond (ine y3.2.2.1 0)
            (some (y1.1, ()))
            (iter fu (fun (rec1 : (Int × (Int × PUnit)) → Option (Bool × PUnit)) (s1 : (Int × (Int × PUnit))) =>
                cond (ilt s1.2.1 (lenI x0))
                  (Option.bind (c14 (y3.1, (s1.2.1, ()))) fun (y4 : ((List Int) × PUnit)) =>
                    Option.bind (c11 (x0, ())) fun (y5 : ((List LineT) × PUnit)) =>
                      Option.bind (c16 (y5.1, (s1.2.1, ()))) fun (y6 : ((Bool × (List Int)) × PUnit)) =>
                        Option.bind (c15 (y4.1, (y6.1.2, ()))) fun (y7 : (Bool × PUnit)) =>
                          cond (!y7.1)
                            (some (false, ()))
                            (rec1 ((imax s1.1 (lenI y4.1)), ((iadd .i64 s1.2.1 1), ()))))
                  (Option.bind (c17 (y3.1, ())) fun (y4 : (Int × PUnit)) =>
                    Option.bind (c14 (y3.1, ((lenI x0), ()))) fun (y5 : ((List Int) × PUnit)) =>
                      Option.bind (c14 (y3.1, ((Neg.neg 1), ()))) fun (y6 : ((List Int) × PUnit)) =>
                        cond y1.1
                          (cond (ieq y4.1 s1.1)
                            (cond (ieq (lenI y5.1) 0)
                              (some ((ieq (lenI y6.1) 0), ()))
                              (some (false, ())))
                            (some (false, ())))
                          (some (false, ()))))
              (0, (0, ()))))
theorem eq105 (fu : Nat) (c9 : PUnit → (Option (Bool × PUnit))) (c10 : ((List LineT) × PUnit) → (Option ((List It) × (Int × (Int × PUnit))))) (c11 : ((List Int) × PUnit) → (Option ((List LineT) × PUnit))) (c14 : ((List It) × (Int × PUnit)) → (Option ((List Int) × PUnit))) (c15 : ((List Int) × ((List Int) × PUnit)) → (Option (Bool × PUnit))) (c16 : ((List LineT) × (Int × PUnit)) → (Option ((Bool × (List Int)) × PUnit))) (c17 : ((List It) × PUnit) → (Option (Int × PUnit))) (nf : Nat → Bool) (x0 : (List Int)) : run105 fu c9 c10 c11 c14 c15 c16 c17 nf x0 = sh105 fu c9 c10 c11 c14 c15 c16 c17 nf x0 := by kernel_rfl

theorem con105 (fu : Nat) (c9 : denAs as9 → Option (denAs rs9)) (h9 : ConOk CC Try.prog 9 ⟨as9, rs9, c9⟩) (c10 : denAs as10 → Option (denAs rs10)) (h10 : ConOk CC Try.prog 10 ⟨as10, rs10, c10⟩) (c11 : denAs as11 → Option (denAs rs11)) (h11 : ConOk CC Try.prog 11 ⟨as11, rs11, c11⟩) (c14 : denAs as14 → Option (denAs rs14)) (h14 : ConOk CC Try.prog 14 ⟨as14, rs14, c14⟩) (c15 : denAs as15 → Option (denAs rs15)) (h15 : ConOk CC Try.prog 15 ⟨as15, rs15, c15⟩) (c16 : denAs as16 → Option (denAs rs116)) (h16 : ConOk CC Try.prog 16 ⟨as16, rs116, c16⟩) (c17 : denAs as17 → Option (denAs rs17)) (h17 : ConOk CC Try.prog 17 ⟨as17, rs17, c17⟩) : ConOk CC Try.prog 5 ⟨as5, rs5, fun x => sh105 fu c9 c10 c11 c14 c15 c16 c17 (fun _ => false) x.1⟩ :=
  runF_ok (c := ⟨as5, rs5, fun x => sh105 fu c9 c10 c11 c14 c15 c16 c17 (fun _ => false) x.1⟩) (fu := fu) (d := 2) (inl := findF []) (orc := findF [(9, (⟨as9, rs9, c9⟩ : Con UU)), (10, (⟨as10, rs10, c10⟩ : Con UU)), (11, (⟨as11, rs11, c11⟩ : Con UU)), (14, (⟨as14, rs14, c14⟩ : Con UU)), (15, (⟨as15, rs15, c15⟩ : Con UU)), (16, (⟨as16, rs116, c16⟩ : Con UU)), (17, (⟨as17, rs17, c17⟩ : Con UU))]) (pf := hasN [9, 10, 11, 14, 15, 16, 17]) Tb_ok CCok mixed (fun g => (findF_some (α := Con UU) (l := [(9, (⟨as9, rs9, c9⟩ : Con UU)), (10, (⟨as10, rs10, c10⟩ : Con UU)), (11, (⟨as11, rs11, c11⟩ : Con UU)), (14, (⟨as14, rs14, c14⟩ : Con UU)), (15, (⟨as15, rs15, c15⟩ : Con UU)), (16, (⟨as16, rs116, c16⟩ : Con UU)), (17, (⟨as17, rs17, c17⟩ : Con UU))]) g).symm) (findF_nil) (findF_cons ⟨code9, h9⟩ (findF_cons ⟨code10, h10⟩ (findF_cons ⟨code11, h11⟩ (findF_cons ⟨code14, h14⟩ (findF_cons ⟨code15, h15⟩ (findF_cons ⟨code16, h16⟩ (findF_cons ⟨code17, h17⟩ (findF_nil)))))))) fdok5 (by show 1 ≤ 72; decide) (noLs_spec rfl) (fun nf x => eq105 fu c9 c10 c11 c14 c15 c16 c17 nf x.1)
theorem con116 (fu : Nat)  : ConOk CC Try.prog 16 ⟨as16, rs116, fun x => sh116 fu (fun _ => false) x.1 x.2.1⟩ :=
  runF2_ok (c := ⟨as16, rs116, fun x => sh116 fu (fun _ => false) x.1 x.2.1⟩) (fu := fu) (d := 3) (inl := findF [(25, fd25)]) (orc := findF []) (pf := hasN []) Tb_ok CCok mixed (fun g => (findF_some (α := Con UU) (l := []) g).symm) (findF_cons fdok16_25 (findF_nil)) (findF_nil) fdok16 (by show 2 ≤ 55; decide) (noLs_spec rfl) (fun nf x => eq116 fu nf x.1 x.2.1)
end Go.Proofs.Ytdedkemkmccliaa
