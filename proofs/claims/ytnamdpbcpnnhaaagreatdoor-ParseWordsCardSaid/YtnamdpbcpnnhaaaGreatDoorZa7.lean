/-
  Whether any word is a keyword is as the document says; more tokens than there may be are told: for every word and every number the law ParseWords answers true, and leaves its arguments as they were. No condition, but that the listed package-level variables hold what the program's text lays (the card ties them).
-/
import Derived.Test.YtnamdpbcpnnhaaaGreatDoorZa6
import Derived.Test.YtnamdpbcpnnhaaaGreatDoorCards
section
set_option linter.unusedVariables false
set_option linter.unusedSimpArgs false
namespace Go.Proofs.YtnamdpbcpnnhaaaGreatDoor.parseWords
open Go.Al Go.Den Go.ChangeShapes Go.WideShapes Go.ChangeAt Go.RowKit
open Go.ChangeMaps (open_string shut_string)
set_option linter.unusedVariables false
theorem own : ownKnob Tryz.prog.godebug = none := by kernel_rfl
theorem laidOut : laidOutB Tryz.prog = true := by kernel_rfl
theorem walk (z0 : List UInt8) (z1 : Int) (W : World) (hgl : GlobOk W.heap.size (wmOf W) W) (v0 v1 : Value) (h0 : RV1 ⟨wmOf W, fun _ => none, Fr.no⟩ W (.at (.string ⟨z0.toArray⟩)) v0) (h1 : RV1 ⟨wmOf W, fun _ => none, Fr.no⟩ W (.at (.int .i64 z1)) v1) : Calls Tryz.prog 3 #[v0, v1] W fun e W' => e = .returned (.bool true) ∧ Below W.heap.size W W' := by
  have hp := ok3 (z0, z1, ()) (true, ()) rfl _ ⟨_, _, rfl, rfl, ⟨_, _, rfl, rfl, rfl⟩⟩
  refine (hp (wmOf W) W [v0, v1] (wmOf_fresh W) hgl (.cons h0 (.cons h1 RVs.nil))).mono ?_
  rintro e W' ⟨v, wm', rfl, _, hst, hr⟩
  have hv : v = .bool true := RV_at hr
  subst hv
  exact ⟨rfl, hst.below⟩
set_option maxRecDepth 100000 in
theorem lifted (os : Os) (started : os.Started) (H : Type) (enc : TypeId × Value → H) :
    ReturnsInHanded {} Tryz.checked os 3 .any (fun w args => (Rows.parseWordsSpec.pre enc Tryz.prog Tryz.f3 [] false w args ∧ laidMetH Tryz.prog laid7 w) ∧ sizedMet enc Tryz.prog Tryz.f3 (OpenSpec.ofChange Rows.parseWordsSpec) false w args)
      (Rows.parseWordsSpec.post enc Tryz.prog Tryz.f3 false true false false) := by
  refine returns_laid_shaped (C := Tryz.checked) (X := fun w _ => laidMetH Tryz.prog laid7 w) (fun _ _ _ hh h => laidMetH.of_heap hh h) own started (by kernel_rfl) Tryz.func3
    (ChangeSpec.witness_shaped (enc := enc) (C := Tryz.checked) (os := os) (X := fun w _ => laidMetH Tryz.prog laid7 w) false (World.doorLaid Tryz.prog 400 os) #[.string ByteArray.empty, .int .i64 0] 8 rfl (World.shaped_of_RefB (by kernel_rfl) (by kernel_rfl)) (by kernel_rfl) (by kernel_rfl) (by kernel_rfl) (door_met os _)) ?_
  intro W base args ds gs before hval0 hW hsh hL
  have hval : ∀ (j : Nat) t v, Tryz.f3.params[j]? = some t → args[j]? = some v → Value.okWide Tryz.prog W .any base t v := hval0
  have hW' := hW
  obtain ⟨p, q, hA0, hV, rfl, hfz, hnd⟩ := hW
  have hA : DataW.TrodAll enc Tryz.prog W 0 (fun _ => true) true Tryz.f3.params.toList args.toList ds p := hA0
  rw [Tryz.params3] at hA hval
  obtain ⟨v0, vs0, d0, ds0, p0, q0, hargs, rfl, rfl, h0, r0⟩ := trodAll_cons hA
  obtain ⟨v1, vs1, d1, ds1, p1, q1, rfl, rfl, rfl, h1, r1⟩ := trodAll_cons r0
  obtain ⟨rfl, rfl, rfl⟩ := trodAll_nil r1
  obtain rfl : args = #[v0, v1] := by cases args; simp_all
  obtain ⟨rfl, rfl⟩ := trodVars_none hV
  have hgl := globOk_of_laid hsh hL
  have k0 := h0
  have lt0 : ∀ x ∈ p0, x.block < W.heap.size := by obtain ⟨m, hm⟩ := k0; exact DataW.trod_lt m _ _ _ hm
  obtain ⟨s0, rfl, rfl, rfl, w0⟩ := open_string Tryz.underlying9 (hval 0 9 v0 rfl rfl) h0
  have k1 := h1
  have lt1 : ∀ x ∈ p1, x.block < W.heap.size := by obtain ⟨m, hm⟩ := k1; exact DataW.trod_lt m _ _ _ hm
  obtain ⟨z1, rfl, rfl, rfl, w1⟩ := open_int Tryz.underlying3 (hval 1 3 v1 rfl rfl) h1
  clear hA0 hval0
  refine (walk s0.data.toList z1 W hgl _ _ (RV1_str s0) (RV1_int .i64 z1)).mono fun e W' ⟨he, bel⟩ => ?_
  subst he
  exact ⟨_, rfl, _, _, _, [], _, [], hW', trodAll_mk1 (shut_bool Tryz.underlying4 _), (trodAll_cons_mk (Below.trod laidOut (by kernel_rfl) (of_decide_eq_true (by kernel_rfl)) k0 bel lt0) (trodAll_cons_mk (Below.trod laidOut (by kernel_rfl) (of_decide_eq_true (by kernel_rfl)) k1 bel lt1) trodAll_mk0)), rfl, bel.frame _, fun h => by cases h⟩
theorem over : Rows.ParseWordsSaid :=
  OpenClaim.holds_of_wide 3 Tryz.f3 rfl rfl rfl rfl rfl rfl rfl ⟨rfl, rfl, rfl, rfl, rfl⟩ rfl rfl rfl rfl rfl (by kernel_rfl) Tryz.func3 (by kernel_rfl)
    (of_decide_eq_true (by kernel_rfl)) (by unfold Func.isWrapper; first | (rw [if_pos (by decide +kernel)]; kernel_rfl) | (rw [if_neg (by decide +kernel)]; exact ⟨rfl, rfl⟩))
    (fun os started H enc _ => lifted os started H enc)
theorem parseWords_holds : Rows.ParseWordsCardSaid :=
  Claim7.holds_tied_plain_at .later [] [.data, .data, .data, .data, .widerDeep, .widerDeep, .widerDeep] true (true, "7c58562b21b618913f75bececb98783b54f88d308e840749b21184127f6feb62") true
    over (fun _ h => by cases h) (by kernel_rfl) (fun _ h => by cases h) parseWords_row_tie rfl ⟨rfl, rfl⟩ (by kernel_rfl) rfl
    (fun f fn hf hfn => by
      obtain rfl : f = 3 := Option.some.inj ((show Tryz.prog.funcNamed "emend/emendlaw16.ParseWords" = some 3 by kernel_rfl).symm.trans hf) |>.symm
      obtain rfl : fn = Tryz.f3 := (Option.some.inj (Tryz.func3.symm.trans hfn)).symm
      exact ⟨by kernel_rfl, fun j t ht => by
        rw [Tryz.params3] at ht
        have hm : t ∈ [9, 3] := by simpa using Array.mem_of_getElem? ht
        have hall : ([9, 3].all fun u => !Tryz.prog.wantsStandIn u) = true := by kernel_rfl
        exact (show Tryz.prog.wantsStandIn t = false by simpa using List.all_eq_true.1 hall t hm)⟩)
    (by kernel_rfl)
end Go.Proofs.YtnamdpbcpnnhaaaGreatDoor.parseWords
end
