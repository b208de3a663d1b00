/-
  The runs, printed: what the functions work out, in plain Lean.
-/
import Derived.Test.YtdedkemkmccliaaF1
set_option linter.unusedVariables false
set_option linter.unusedSimpArgs false
namespace Go.Proofs.Ytdedkemkmccliaa
open Go.Al Go.Den

def sh15 (fu : Nat) (nf : Nat → Bool) (x0 : (List Int)) (x1 : (List Int)) : (Option (Bool × PUnit)) :=
  cond (ine (lenI x0) (lenI x1))
    (some (false, ()))
    (iter fu (fun (rec1 : (Int × PUnit) → Option (Bool × PUnit)) (s1 : (Int × PUnit)) =>
        cond (ilt s1.1 (lenI x0))
          (cond (inB s1.1 (List.length x0))
            (cond (inB s1.1 (List.length x1))
              (cond (ine (List.getD x0 (Int.toNat s1.1) 0) (List.getD x1 (Int.toNat s1.1) 0))
                (some (false, ()))
                (rec1 ((iadd .i64 s1.1 1), ())))
              (none))
            (none))
          (some (true, ())))
      (0, ()))
theorem eq15 (fu : Nat) (nf : Nat → Bool) (x0 : (List Int)) (x1 : (List Int)) : run15 fu nf x0 x1 = sh15 fu nf x0 x1 := by kernel_rfl

def sh11 (fu : Nat) (nf : Nat → Bool) (x0 : (List Int)) : (Option ((List LineT) × PUnit)) :=
  iter fu (fun (rec1 : ((List LineT) × (Int × PUnit)) → Option ((List LineT) × PUnit)) (s1 : ((List LineT) × (Int × PUnit))) =>
      cond (ilt s1.2.1 (lenI x0))
        (cond (inB s1.2.1 (List.length x0))
          (cond (okN 48 ((List.length s1.1) + (List.length [(LineT.mk (List.getD x0 (Int.toNat s1.2.1) 0) 0 0 [])])))
            (rec1 ((s1.1 ++ [(LineT.mk (List.getD x0 (Int.toNat s1.2.1) 0) 0 0 [])]), ((iadd .i64 s1.2.1 1), ())))
            (none))
          (none))
        (some (s1.1, ())))
    ([], (0, ()))
theorem eq11 (fu : Nat) (nf : Nat → Bool) (x0 : (List Int)) : run11 fu nf x0 = sh11 fu nf x0 := by kernel_rfl

theorem con15 (fu : Nat)  : ConOk CC Try.prog 15 ⟨as15, rs15, fun x => sh15 fu (fun _ => false) x.1 x.2.1⟩ :=
  runF_ok (c := ⟨as15, rs15, fun x => sh15 fu (fun _ => false) x.1 x.2.1⟩) (fu := fu) (d := 2) (inl := findF []) (orc := findF []) (pf := hasN []) Tb_ok CCok mixed (fun g => (findF_some (α := Con UU) (l := []) g).symm) (findF_nil) (findF_nil) fdok15 (by show 2 ≤ 26; decide) (noLs_spec rfl) (fun nf x => eq15 fu nf x.1 x.2.1)

theorem con11 (fu : Nat)  : ConOk CC Try.prog 11 ⟨as11, rs11, fun x => sh11 fu (fun _ => false) x.1⟩ :=
  runF_ok (c := ⟨as11, rs11, fun x => sh11 fu (fun _ => false) x.1⟩) (fu := fu) (d := 2) (inl := findF []) (orc := findF []) (pf := hasN []) Tb_ok CCok mixed (fun g => (findF_some (α := Con UU) (l := []) g).symm) (findF_nil) (findF_nil) fdok11 (by show 1 ≤ 20; decide) (noLs_spec rfl) (fun nf x => eq11 fu nf x.1)
end Go.Proofs.Ytdedkemkmccliaa
