/-
  The runs, printed: what the functions work out, in plain Lean.
-/
import Derived.Test.YtdedkemkmccliaaF2
set_option linter.unusedVariables false
set_option linter.unusedSimpArgs false
namespace Go.Proofs.Ytdedkemkmccliaa
open Go.Al Go.Den

def sh13 (fu : Nat) (c13 : ((List It) × ((List It) × PUnit)) → (Option (Bool × PUnit))) (nf : Nat → Bool) (x0 : (List It)) (x1 : (List It)) : (Option (Bool × PUnit)) :=
  cond (ine (lenI x0) (lenI x1))
    (some (false, ()))
    (iter fu (fun (rec1 : (Int × PUnit) → Option (Bool × PUnit)) (s1 : (Int × PUnit)) =>
        cond (ilt s1.1 (lenI x0))
          (cond (inB s1.1 (List.length x0))
            (cond (inB s1.1 (List.length x1))
              (cond (ine (It.line (List.getD x0 (Int.toNat s1.1) itemD)) (It.line (List.getD x1 (Int.toNat s1.1) itemD)))
                (some (false, ()))
                (cond (inB s1.1 (List.length x0))
                  (cond (inB s1.1 (List.length x1))
                    (cond (ine (It.fin (List.getD x0 (Int.toNat s1.1) itemD)) (It.fin (List.getD x1 (Int.toNat s1.1) itemD)))
                      (some (false, ()))
                      (cond (inB s1.1 (List.length x0))
                        (cond (inB s1.1 (List.length x1))
                          (cond (ine (lenI (It.brs (List.getD x0 (Int.toNat s1.1) itemD))) (lenI (It.brs (List.getD x1 (Int.toNat s1.1) itemD))))
                            (some (false, ()))
                            (iter fu (fun (rec2 : (Int × PUnit) → Option (Bool × PUnit)) (s2 : (Int × PUnit)) =>
                                cond (inB s1.1 (List.length x0))
                                  (cond (ilt s2.1 (lenI (It.brs (List.getD x0 (Int.toNat s1.1) itemD))))
                                    (cond (inB s1.1 (List.length x0))
                                      (cond (inB s2.1 (List.length (It.brs (List.getD x0 (Int.toNat s1.1) itemD))))
                                        (cond (inB s1.1 (List.length x1))
                                          (cond (inB s2.1 (List.length (It.brs (List.getD x1 (Int.toNat s1.1) itemD))))
                                            (Option.bind (c13 ((Br.items (List.getD (It.brs (List.getD x0 (Int.toNat s1.1) itemD)) (Int.toNat s2.1) brD)), ((Br.items (List.getD (It.brs (List.getD x1 (Int.toNat s1.1) itemD)) (Int.toNat s2.1) brD)), ()))) fun (y1 : (Bool × PUnit)) =>
                                              cond (!y1.1)
                                                (some (false, ()))
                                                (cond (inB s1.1 (List.length x0))
                                                  (cond (inB s2.1 (List.length (It.brs (List.getD x0 (Int.toNat s1.1) itemD))))
                                                    (cond (inB s1.1 (List.length x1))
                                                      (cond (inB s2.1 (List.length (It.brs (List.getD x1 (Int.toNat s1.1) itemD))))
                                                        (cond (ine (Br.line (List.getD (It.brs (List.getD x0 (Int.toNat s1.1) itemD)) (Int.toNat s2.1) brD)) (Br.line (List.getD (It.brs (List.getD x1 (Int.toNat s1.1) itemD)) (Int.toNat s2.1) brD)))
                                                          (some (false, ()))
                                                          (rec2 ((iadd .i64 s2.1 1), ())))
                                                        (none))
                                                      (none))
                                                    (none))
                                                  (none)))
                                            (none))
                                          (none))
                                        (none))
                                      (none))
                                    (rec1 ((iadd .i64 s1.1 1), ())))
                                  (none))
                              (0, ())))
                          (none))
                        (none)))
                    (none))
                  (none)))
              (none))
            (none))
          (some (true, ())))
      (0, ()))
theorem eq13 (fu : Nat) (c13 : ((List It) × ((List It) × PUnit)) → (Option (Bool × PUnit))) (nf : Nat → Bool) (x0 : (List It)) (x1 : (List It)) : run13 fu c13 nf x0 x1 = sh13 fu c13 nf x0 x1 := by kernel_rfl

def sh14 (fu : Nat) (c14 : ((List It) × (Int × PUnit)) → (Option ((List Int) × PUnit))) (nf : Nat → Bool) (x0 : (List It)) (x1 : Int) : (Option ((List Int) × PUnit)) :=
  iter fu (fun (rec1 : (Int × PUnit) → Option ((List Int) × PUnit)) (s1 : (Int × PUnit)) =>
      cond (ilt s1.1 (lenI x0))
        (cond (inB s1.1 (List.length x0))
          (iter fu (fun (rec2 : ((Int × (Int × ((List Br) × PUnit))) × (Int × PUnit)) → Option ((List Int) × PUnit)) (s2 : ((Int × (Int × ((List Br) × PUnit))) × (Int × PUnit))) =>
              cond (ilt s2.2.1 (lenI (It.brs (List.getD x0 (Int.toNat s1.1) itemD))))
                (cond (inB s2.2.1 (List.length (It.brs (List.getD x0 (Int.toNat s1.1) itemD))))
                  (cond (ieq (Br.line (List.getD (It.brs (List.getD x0 (Int.toNat s1.1) itemD)) (Int.toNat s2.2.1) brD)) x1)
                    (some ([(Br.line (List.getD (It.brs (List.getD x0 (Int.toNat s1.1) itemD)) (Int.toNat s2.2.1) brD))], ()))
                    (cond (ieq s2.2.1 (isub .i64 (lenI s2.1.2.2.1) 1))
                      (cond (ieq s2.1.2.1 x1)
                        (some ([(Br.line (List.getD (It.brs (List.getD x0 (Int.toNat s1.1) itemD)) (Int.toNat s2.2.1) brD))], ()))
                        (Option.bind (c14 ((Br.items (List.getD (It.brs (List.getD x0 (Int.toNat s1.1) itemD)) (Int.toNat s2.2.1) brD)), (x1, ()))) fun (y1 : ((List Int) × PUnit)) =>
                          cond (!(nilT TM.dl y1.1))
                            (cond (okN 8 ((List.length [(Br.line (List.getD (It.brs (List.getD x0 (Int.toNat s1.1) itemD)) (Int.toNat s2.2.1) brD))]) + (List.length y1.1)))
                              (some (([(Br.line (List.getD (It.brs (List.getD x0 (Int.toNat s1.1) itemD)) (Int.toNat s2.2.1) brD))] ++ y1.1), ()))
                              (none))
                            (iter fu (fun (rec3 : ((Int × (Int × ((List Br) × PUnit))) × ((Int × ((List It) × PUnit)) × (Int × PUnit))) → Option ((List Int) × PUnit)) (s3 : ((Int × (Int × ((List Br) × PUnit))) × ((Int × ((List It) × PUnit)) × (Int × PUnit)))) =>
                                cond (ilt s3.2.2.1 (lenI (Br.items (List.getD (It.brs (List.getD x0 (Int.toNat s1.1) itemD)) (Int.toNat s2.2.1) brD))))
                                  (cond (inB s3.2.2.1 (List.length (Br.items (List.getD (It.brs (List.getD x0 (Int.toNat s1.1) itemD)) (Int.toNat s2.2.1) brD))))
                                    (cond (ieq (lenI (It.brs (List.getD (Br.items (List.getD (It.brs (List.getD x0 (Int.toNat s1.1) itemD)) (Int.toNat s2.2.1) brD)) (Int.toNat s3.2.2.1) itemD))) 0)
                                      (cond (ieq (It.line (List.getD (Br.items (List.getD (It.brs (List.getD x0 (Int.toNat s1.1) itemD)) (Int.toNat s2.2.1) brD)) (Int.toNat s3.2.2.1) itemD)) x1)
                                        (some ([s3.2.1.1], ()))
                                        (rec3 ((s3.1.1, (s3.1.2.1, (s3.1.2.2.1, ()))), ((s3.2.1.1, (s3.2.1.2.1, ())), ((iadd .i64 s3.2.2.1 1), ())))))
                                      (rec3 ((s3.1.1, (s3.1.2.1, (s3.1.2.2.1, ()))), ((s3.2.1.1, (s3.2.1.2.1, ())), ((iadd .i64 s3.2.2.1 1), ())))))
                                    (none))
                                  (rec2 ((s3.1.1, (s3.1.2.1, (s3.1.2.2.1, ()))), ((iadd .i64 s2.2.1 1), ()))))
                              ((s2.1.1, (s2.1.2.1, (s2.1.2.2.1, ()))), (((Br.line (List.getD (It.brs (List.getD x0 (Int.toNat s1.1) itemD)) (Int.toNat s2.2.1) brD)), ((Br.items (List.getD (It.brs (List.getD x0 (Int.toNat s1.1) itemD)) (Int.toNat s2.2.1) brD)), ())), (0, ()))))))
                      (Option.bind (c14 ((Br.items (List.getD (It.brs (List.getD x0 (Int.toNat s1.1) itemD)) (Int.toNat s2.2.1) brD)), (x1, ()))) fun (y1 : ((List Int) × PUnit)) =>
                        cond (!(nilT TM.dl y1.1))
                          (cond (okN 8 ((List.length [(Br.line (List.getD (It.brs (List.getD x0 (Int.toNat s1.1) itemD)) (Int.toNat s2.2.1) brD))]) + (List.length y1.1)))
                            (some (([(Br.line (List.getD (It.brs (List.getD x0 (Int.toNat s1.1) itemD)) (Int.toNat s2.2.1) brD))] ++ y1.1), ()))
                            (none))
                          (iter fu (fun (rec3 : ((Int × (Int × ((List Br) × PUnit))) × ((Int × ((List It) × PUnit)) × (Int × PUnit))) → Option ((List Int) × PUnit)) (s3 : ((Int × (Int × ((List Br) × PUnit))) × ((Int × ((List It) × PUnit)) × (Int × PUnit)))) =>
                              cond (ilt s3.2.2.1 (lenI (Br.items (List.getD (It.brs (List.getD x0 (Int.toNat s1.1) itemD)) (Int.toNat s2.2.1) brD))))
                                (cond (inB s3.2.2.1 (List.length (Br.items (List.getD (It.brs (List.getD x0 (Int.toNat s1.1) itemD)) (Int.toNat s2.2.1) brD))))
                                  (cond (ieq (lenI (It.brs (List.getD (Br.items (List.getD (It.brs (List.getD x0 (Int.toNat s1.1) itemD)) (Int.toNat s2.2.1) brD)) (Int.toNat s3.2.2.1) itemD))) 0)
                                    (cond (ieq (It.line (List.getD (Br.items (List.getD (It.brs (List.getD x0 (Int.toNat s1.1) itemD)) (Int.toNat s2.2.1) brD)) (Int.toNat s3.2.2.1) itemD)) x1)
                                      (some ([s3.2.1.1], ()))
                                      (rec3 ((s3.1.1, (s3.1.2.1, (s3.1.2.2.1, ()))), ((s3.2.1.1, (s3.2.1.2.1, ())), ((iadd .i64 s3.2.2.1 1), ())))))
                                    (rec3 ((s3.1.1, (s3.1.2.1, (s3.1.2.2.1, ()))), ((s3.2.1.1, (s3.2.1.2.1, ())), ((iadd .i64 s3.2.2.1 1), ())))))
                                  (none))
                                (rec2 ((s3.1.1, (s3.1.2.1, (s3.1.2.2.1, ()))), ((iadd .i64 s2.2.1 1), ()))))
                            ((s2.1.1, (s2.1.2.1, (s2.1.2.2.1, ()))), (((Br.line (List.getD (It.brs (List.getD x0 (Int.toNat s1.1) itemD)) (Int.toNat s2.2.1) brD)), ((Br.items (List.getD (It.brs (List.getD x0 (Int.toNat s1.1) itemD)) (Int.toNat s2.2.1) brD)), ())), (0, ())))))))
                  (none))
                (rec1 ((iadd .i64 s1.1 1), ())))
            (((It.line (List.getD x0 (Int.toNat s1.1) itemD)), ((It.fin (List.getD x0 (Int.toNat s1.1) itemD)), ((It.brs (List.getD x0 (Int.toNat s1.1) itemD)), ()))), (0, ())))
          (none))
        (some ([], ())))
    (0, ())
theorem eq14 (fu : Nat) (c14 : ((List It) × (Int × PUnit)) → (Option ((List Int) × PUnit))) (nf : Nat → Bool) (x0 : (List It)) (x1 : Int) : run14 fu c14 nf x0 x1 = sh14 fu c14 nf x0 x1 := by kernel_rfl

def sh18 (fu : Nat) (c18 : ((List It) × PUnit) → (Option ((List Int) × PUnit))) (nf : Nat → Bool) (x0 : (List It)) : (Option ((List Int) × PUnit)) :=
  iter fu (fun (rec1 : ((List Int) × (Int × PUnit)) → Option ((List Int) × PUnit)) (s1 : ((List Int) × (Int × PUnit))) =>
      cond (ilt s1.2.1 (lenI x0))
        (cond (inB s1.2.1 (List.length x0))
          (cond (ieq (lenI (It.brs (List.getD x0 (Int.toNat s1.2.1) itemD))) 0)
            (cond (okN 8 ((List.length s1.1) + (List.length [(It.line (List.getD x0 (Int.toNat s1.2.1) itemD))])))
              (rec1 ((s1.1 ++ [(It.line (List.getD x0 (Int.toNat s1.2.1) itemD))]), ((iadd .i64 s1.2.1 1), ())))
              (none))
            (iter fu (fun (rec2 : ((List Int) × ((Int × (Int × ((List Br) × PUnit))) × (Int × PUnit))) → Option ((List Int) × PUnit)) (s2 : ((List Int) × ((Int × (Int × ((List Br) × PUnit))) × (Int × PUnit)))) =>
                cond (ilt s2.2.2.1 (lenI (It.brs (List.getD x0 (Int.toNat s1.2.1) itemD))))
                  (cond (inB s2.2.2.1 (List.length (It.brs (List.getD x0 (Int.toNat s1.2.1) itemD))))
                    (cond (okN 8 ((List.length s2.1) + (List.length [(Br.line (List.getD (It.brs (List.getD x0 (Int.toNat s1.2.1) itemD)) (Int.toNat s2.2.2.1) brD))])))
                      (Option.bind (c18 ((Br.items (List.getD (It.brs (List.getD x0 (Int.toNat s1.2.1) itemD)) (Int.toNat s2.2.2.1) brD)), ())) fun (y1 : ((List Int) × PUnit)) =>
                        cond (okN 8 ((List.length (s2.1 ++ [(Br.line (List.getD (It.brs (List.getD x0 (Int.toNat s1.2.1) itemD)) (Int.toNat s2.2.2.1) brD))])) + (List.length y1.1)))
                          (rec2 (((s2.1 ++ [(Br.line (List.getD (It.brs (List.getD x0 (Int.toNat s1.2.1) itemD)) (Int.toNat s2.2.2.1) brD))]) ++ y1.1), ((s2.2.1.1, (s2.2.1.2.1, (s2.2.1.2.2.1, ()))), ((iadd .i64 s2.2.2.1 1), ()))))
                          (none))
                      (none))
                    (none))
                  (cond (okN 8 ((List.length s2.1) + (List.length [s2.2.1.2.1])))
                    (rec1 ((s2.1 ++ [s2.2.1.2.1]), ((iadd .i64 s1.2.1 1), ())))
                    (none)))
              (s1.1, (((It.line (List.getD x0 (Int.toNat s1.2.1) itemD)), ((It.fin (List.getD x0 (Int.toNat s1.2.1) itemD)), ((It.brs (List.getD x0 (Int.toNat s1.2.1) itemD)), ()))), (0, ())))))
          (none))
        (some (s1.1, ())))
    ([], (0, ()))
theorem eq18 (fu : Nat) (c18 : ((List It) × PUnit) → (Option ((List Int) × PUnit))) (nf : Nat → Bool) (x0 : (List It)) : run18 fu c18 nf x0 = sh18 fu c18 nf x0 := by kernel_rfl

theorem con13 (fu : Nat) (c13 : denAs as13 → Option (denAs rs13)) (h13 : ConOk CC Try.prog 13 ⟨as13, rs13, c13⟩) : ConOk CC Try.prog 13 ⟨as13, rs13, fun x => sh13 fu c13 (fun _ => false) x.1 x.2.1⟩ :=
  runF_ok (c := ⟨as13, rs13, fun x => sh13 fu c13 (fun _ => false) x.1 x.2.1⟩) (fu := fu) (d := 2) (inl := findF []) (orc := findF [(13, (⟨as13, rs13, c13⟩ : Con UU))]) (pf := hasN [13]) Tb_ok CCok mixed (fun g => (findF_some (α := Con UU) (l := [(13, (⟨as13, rs13, c13⟩ : Con UU))]) g).symm) (findF_nil) (findF_cons ⟨code13, h13⟩ (findF_nil)) fdok13 (by show 2 ≤ 110; decide) (noLs_spec rfl) (fun nf x => eq13 fu c13 nf x.1 x.2.1)

theorem con14 (fu : Nat) (c14 : denAs as14 → Option (denAs rs14)) (h14 : ConOk CC Try.prog 14 ⟨as14, rs14, c14⟩) : ConOk CC Try.prog 14 ⟨as14, rs14, fun x => sh14 fu c14 (fun _ => false) x.1 x.2.1⟩ :=
  runF_ok (c := ⟨as14, rs14, fun x => sh14 fu c14 (fun _ => false) x.1 x.2.1⟩) (fu := fu) (d := 2) (inl := findF []) (orc := findF [(14, (⟨as14, rs14, c14⟩ : Con UU))]) (pf := hasN [14]) Tb_ok CCok mixed (fun g => (findF_some (α := Con UU) (l := [(14, (⟨as14, rs14, c14⟩ : Con UU))]) g).symm) (findF_nil) (findF_cons ⟨code14, h14⟩ (findF_nil)) fdok14 (by show 2 ≤ 83; decide) (noLs_spec rfl) (fun nf x => eq14 fu c14 nf x.1 x.2.1)

theorem con18 (fu : Nat) (c18 : denAs as18 → Option (denAs rs18)) (h18 : ConOk CC Try.prog 18 ⟨as18, rs18, c18⟩) : ConOk CC Try.prog 18 ⟨as18, rs18, fun x => sh18 fu c18 (fun _ => false) x.1⟩ :=
  runF_ok (c := ⟨as18, rs18, fun x => sh18 fu c18 (fun _ => false) x.1⟩) (fu := fu) (d := 2) (inl := findF []) (orc := findF [(18, (⟨as18, rs18, c18⟩ : Con UU))]) (pf := hasN [18]) Tb_ok CCok mixed (fun g => (findF_some (α := Con UU) (l := [(18, (⟨as18, rs18, c18⟩ : Con UU))]) g).symm) (findF_nil) (findF_cons ⟨code18, h18⟩ (findF_nil)) fdok18 (by show 1 ≤ 47; decide) (noLs_spec rfl) (fun nf x => eq18 fu c18 nf x.1)
end Go.Proofs.Ytdedkemkmccliaa
