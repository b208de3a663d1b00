/-
  Part 6 of what the last text needs: library, runs, contracts, plain laws. No condition of its own.
-/
import Derived.Test.YtnamdpbcpnnhaaaGreatDoorZa5
import Derived.Test.YtnamdpbcpnnhaaaGreatDoorTie
import Derived.LaidLaws
import Derived.LaidMore
import Derived.LaidHandle
import Derived.MakeChecks
import Derived.Shelf.Vars
import Derived.Handed
import Derived.SevenTiedAt
import Derived.RangeFuncNested
import Derived.RangeFuncBound
import Derived.RangeFuncLeaves
import Derived.RangeFuncWrites
import Derived.Shelf.Abstract
import Derived.OwnWalkIn
import Derived.TacticsInMore
import Derived.LoopNIn
import Derived.LoopIn
import Derived.RecoverIn
import Derived.Maps.AppendAt
import Derived.Shelf.Small.Strs
import Derived.Shelf.Strconv.Itoa0
import Derived.Shelf.Strconv.Itoa1
import Derived.Shelf.LaysM
import Derived.Shelf.Strconv.Itoa2
import Derived.Shelf.Strconv.Itoa3
import Derived.Shelf.Strings.Search1
import Derived.Shelf.Strings.Search2
import Derived.Shelf.Strings.Search3
import Derived.Shelf.Strings.Prefix
import Derived.Lib.QuietBelow
import GoSem.Claims
import Derived.Laws.OwnMore
import Derived.Laws.BytesArg
section
set_option linter.unusedVariables false
set_option linter.unusedSimpArgs false
namespace Go.Proofs.YtnamdpbcpnnhaaaGreatDoor
open Go.Al Go.Den Go.ChangeShapes Go.WideShapes Go.ChangeAt Go.RowKit
def laid7 : List (String × DataW Unit) := [("math/bits.deBruijn32tab", Rows.laid_math_bits_deBruijn32tab), ("math/bits.deBruijn64tab", Rows.laid_math_bits_deBruijn64tab), ("internal/strconv.uint64pow10", Rows.laid_internal_strconv_uint64pow10), ("emend/pptok.signs", Rows.laid_emend_pptok_signs), ("emend/parse.keywords", Rows.laid_emend_parse_keywords), ("emend/parse.marks", Rows.laid_emend_parse_marks), ("emend/parse.words", Rows.laid_emend_parse_words)]
theorem var_heap {P : Program} {W : World} {n : String} {g : Nat} {cs : Array Value} (hg : P.globalNamed n = some g) (h : W.var? P n = some cs) : ∃ el m, W.heap[g]? = some (.cells cs el m) := by
  unfold World.var? at h
  rw [hg] at h
  simp only [Option.bind_some] at h
  split at h
  · rename_i c el m hc
    injection h with h
    subst h
    exact ⟨el, m, hc⟩
  · cases h
theorem ints_of_trod {H : Type} {enc : TypeId × Value → H} {P : Program} {w : World} {base : Nat} {sp : Nat → Bool} {held : Bool} {fuel n : Nat} {t e : TypeId} {k : IntKind} {cs : List Value} {l : List Int} {p : List MemPlace}
    (ht : P.underlying t = some (.array n e)) (he : P.underlying e = some (.int k)) (hc : P.cellsOf e = 1) (hct : P.cellsOf t = n) (h : DataW.trod enc P w base sp held fuel t cs = some (.agg (l.map fun z => .lit (.int k z)), p)) : cs = l.map fun z => .int k z := by
  obtain ⟨xs, m, rfl, hx, hlen, hn, hel⟩ := DataW.trod_array ht h
  injection hx with hx _
  injection hx with hx
  have hll : l.length = n := by
    have := congrArg List.length hx
    simp only [List.length_map] at this
    omega
  refine List.ext_getElem (by rw [hlen, hct, List.length_map, hll]) fun i h1 h2 => ?_
  rw [List.getElem_map]
  have hi : i < n := by rw [hlen, hct] at h1; exact h1
  have h3 := hel i hi
  rw [hc, Nat.mul_one, List.drop_eq_getElem_cons h1, List.take_succ_cons, List.take_zero, List.getElem?_eq_getElem (by omega)] at h3
  obtain ⟨z, e1, e2, _⟩ := DataW.trod_int he h3
  injection e1 with e1 _
  have h4 : (xs.map (·.1))[i]'(by rw [List.length_map]; omega) = (l.map fun z => DataW.lit (.int k z))[i]'(by rw [List.length_map]; omega) := by
    simp only [hx]
  rw [List.getElem_map, List.getElem_map, e2] at h4
  injection h4 with h4
  injection h4 with _ h4
  rw [e1, h4]
theorem strs_of_trod {H : Type} {enc : TypeId × Value → H} {P : Program} {w : World} {base : Nat} {sp : Nat → Bool} {held : Bool} {fuel n : Nat} {t e : TypeId} {cs : List Value} {l : List (List UInt8)} {p : List MemPlace}
    (ht : P.underlying t = some (.array n e)) (he : P.underlying e = some .string) (hc : P.cellsOf e = 1) (hct : P.cellsOf t = n) (h : DataW.trod enc P w base sp held fuel t cs = some (.agg (l.map fun z => .lit (.string z)), p)) : cs = l.map fun z => strV z := by
  obtain ⟨xs, m, rfl, hx, hlen, hn, hel⟩ := DataW.trod_array ht h
  injection hx with hx _
  injection hx with hx
  have hll : l.length = n := by
    have := congrArg List.length hx
    simp only [List.length_map] at this
    omega
  refine List.ext_getElem (by rw [hlen, hct, List.length_map, hll]) fun i h1 h2 => ?_
  rw [List.getElem_map]
  have hi : i < n := by rw [hlen, hct] at h1; exact h1
  have h3 := hel i hi
  rw [hc, Nat.mul_one, List.drop_eq_getElem_cons h1, List.take_succ_cons, List.take_zero, List.getElem?_eq_getElem (by omega)] at h3
  obtain ⟨z, e1, e2, _⟩ := DataW.trod_string he h3
  injection e1 with e1 _
  have h4 : (xs.map (·.1))[i]'(by rw [List.length_map]; omega) = (l.map fun z => DataW.lit (.string z))[i]'(by rw [List.length_map]; omega) := by
    simp only [hx]
  rw [List.getElem_map, List.getElem_map] at h4
  rw [e2] at h4
  injection h4 with h4
  injection h4 with h4
  rw [e1, ← h4]
  unfold strV
  cases z; simp
theorem wm_cells {W : World} {g : Nat} {cs : Array Value} {el : TypeId} {m : Nat × Nat} (h : W.heap[g]? = some (.cells cs el m)) : cs.toList.length ≤ wmOf W g := by
  unfold wmOf
  rw [h]
  simp
theorem globOk_of_laid {W : World} (hsh : W.ShapedOpen Tryz.prog) (h : laidMetH Tryz.prog laid7 W) : GlobOk W.heap.size (wmOf W) W := by
  rw [MakeChecks.laidMetH_plain _ _ _ (by kernel_rfl)] at h
  obtain ⟨ps, hv, _⟩ := h
  obtain ⟨g0, t0, cs0, f0, p0, q0, hg0, ht0, hv0, hd0, hv, _⟩ := hv
  obtain ⟨g1, t1, cs1, f1, p1, q1, hg1, ht1, hv1, hd1, hv, _⟩ := hv
  obtain ⟨g2, t2, cs2, f2, p2, q2, hg2, ht2, hv2, hd2, hv, _⟩ := hv
  obtain ⟨g3, t3, cs3, f3, p3, q3, hg3, ht3, hv3, hd3, hv, _⟩ := hv
  obtain ⟨g4, t4, cs4, f4, p4, q4, hg4, ht4, hv4, hd4, hv, _⟩ := hv
  obtain ⟨g5, t5, cs5, f5, p5, q5, hg5, ht5, hv5, hd5, hv, _⟩ := hv
  obtain ⟨g6, t6, cs6, f6, p6, q6, hg6, ht6, hv6, hd6, hv, _⟩ := hv
  obtain rfl := Option.some.inj ((show Tryz.prog.globalNamed "internal/strconv.uint64pow10" = some 5 by kernel_rfl).symm.trans hg2)
  obtain rfl := Option.some.inj ((show Tryz.prog.globalNamed "emend/pptok.signs" = some 3 by kernel_rfl).symm.trans hg3)
  obtain rfl := Option.some.inj ((show Tryz.prog.globalNamed "emend/parse.keywords" = some 0 by kernel_rfl).symm.trans hg4)
  obtain rfl := Option.some.inj ((show Tryz.prog.globalNamed "emend/parse.marks" = some 1 by kernel_rfl).symm.trans hg5)
  obtain rfl := Option.some.inj ((show Tryz.prog.globalNamed "emend/parse.words" = some 2 by kernel_rfl).symm.trans hg6)
  obtain rfl := Option.some.inj ((show (Tryz.prog.globals[5]?).map (·.type) = some 165 by kernel_rfl).symm.trans ht2)
  obtain rfl := Option.some.inj ((show (Tryz.prog.globals[3]?).map (·.type) = some 146 by kernel_rfl).symm.trans ht3)
  obtain rfl := Option.some.inj ((show (Tryz.prog.globals[0]?).map (·.type) = some 58 by kernel_rfl).symm.trans ht4)
  obtain rfl := Option.some.inj ((show (Tryz.prog.globals[1]?).map (·.type) = some 118 by kernel_rfl).symm.trans ht5)
  obtain rfl := Option.some.inj ((show (Tryz.prog.globals[2]?).map (·.type) = some 119 by kernel_rfl).symm.trans ht6)
  obtain ⟨el2, m2, k2⟩ := var_heap hg2 hv2
  obtain ⟨el3, m3, k3⟩ := var_heap hg3 hv3
  obtain ⟨el4, m4, k4⟩ := var_heap hg4 hv4
  obtain ⟨el5, m5, k5⟩ := var_heap hg5 hv5
  obtain ⟨el6, m6, k6⟩ := var_heap hg6 hv6
  have e2 : cs2.toList = pow10V := ints_of_trod (l := [1, 10, 100, 1000, 10000, 100000, 1000000, 10000000, 100000000, 1000000000, 10000000000, 100000000000, 1000000000000, 10000000000000, 100000000000000, 1000000000000000, 10000000000000000, 100000000000000000, 1000000000000000000, 10000000000000000000]) (k := .u64) Tryz.underlying165 Tryz.underlying134 (by kernel_rfl) (by kernel_rfl) hd2
  have e3 : cs3.toList = signsL.map strV := strs_of_trod (l := signsL) Tryz.underlying146 Tryz.underlying9 (by kernel_rfl) (by kernel_rfl) hd3
  have e4 : cs4.toList = kwL.map strV := strs_of_trod (l := kwL) Tryz.underlying58 Tryz.underlying9 (by kernel_rfl) (by kernel_rfl) hd4
  have e5 : cs5.toList = marksL.map strV := strs_of_trod (l := marksL) Tryz.underlying118 Tryz.underlying9 (by kernel_rfl) (by kernel_rfl) hd5
  have e6 : cs6.toList = wordsL.map strV := strs_of_trod (l := wordsL) Tryz.underlying119 Tryz.underlying9 (by kernel_rfl) (by kernel_rfl) hd6
  have lt : ∀ {b : Nat} {o : Obj}, W.heap[b]? = some o → b < W.heap.size := fun h => (Array.getElem?_eq_some_iff.1 h).1
  have hml : ∃ arr el m, W.heap[4]? = some (.cells arr el m) ∧ ∃ z, arr.toList = [Value.int .i64 z] := by
    obtain ⟨cs, hh, hs, hr⟩ := hsh.1 4 #[.int .i64 0] 3 (of_decide_eq_true (by kernel_rfl)) (by kernel_rfl)
    refine ⟨cs, _, _, hh, ?_⟩
    obtain ⟨z, hz⟩ := cell_of_shapedOpen_int (P := Tryz.prog) (w := W) (g := 4) (t := 3) (zero := #[.int .i64 0]) (k := .i64) hsh (of_decide_eq_true (by kernel_rfl)) (by kernel_rfl) rfl (by kernel_rfl) (by kernel_rfl) Tryz.underlying3
    refine ⟨z, ?_⟩
    unfold World.cell? at hz
    simp only [hh] at hz
    have h1 : cs.size = 1 := hs
    obtain ⟨l⟩ := cs
    match l, h1 with
    | [v], _ =>
      simp at hz
      rw [hz]
  refine ⟨fun p hp => ?_, fun p hp => ?_⟩
  · simp only [globL, List.mem_cons, List.not_mem_nil, or_false] at hp
    rcases hp with rfl | rfl
    · exact ⟨lt k2, cs2, el2, m2, k2, e2⟩
    · obtain ⟨arr, el, m, h1, h2⟩ := hml
      exact ⟨lt h1, arr, el, m, h1, h2⟩
  · simp only [globA, List.mem_cons, List.not_mem_nil, or_false] at hp
    rcases hp with rfl | rfl | rfl | rfl
    · exact ⟨lt k4, ⟨cs4, el4, m4, k4, e4⟩, by rw [← e4]; exact wm_cells k4⟩
    · exact ⟨lt k5, ⟨cs5, el5, m5, k5, e5⟩, by rw [← e5]; exact wm_cells k5⟩
    · exact ⟨lt k6, ⟨cs6, el6, m6, k6, e6⟩, by rw [← e6]; exact wm_cells k6⟩
    · exact ⟨lt k3, ⟨cs3, el3, m3, k3, e3⟩, by rw [← e3]; exact wm_cells k3⟩
theorem RV1_str {g : Gh} {w : World} (s : ByteArray) : RV1 g w (.at (.string ⟨s.data.toList.toArray⟩)) (.string s) := by
  have e : (⟨s.data.toList.toArray⟩ : ByteArray) = s := by cases s; simp
  rw [e]
  exact ⟨[.string s], by simp [RC, one], rfl⟩
theorem RV1_int {g : Gh} {w : World} (k : IntKind) (n : Int) : RV1 g w (.at (.int k n)) (.int k n) := ⟨[.int k n], by simp [RC, one], rfl⟩
theorem door_met (os : Os) (args : Array Value) : laidMetH Tryz.prog laid7 ((World.doorLaid Tryz.prog 400 os).forCall (fun _ _ => 0) ⟨#[], args, []⟩).memory :=
  laidMetH_of_parts3 (fuel := 8) (laidMet_of_run' 8 (by kernel_rfl) (by kernel_rfl)) (by kernel_rfl) (by kernel_rfl)
theorem returns_laid_shaped {H : Type} {enc : TypeId × Value → H} {a : Assume} {C : Checked} {os : Os} {f : FuncId} {fn : Func} {s : ChangeSpec} {conds : List PathCond} {apart fresh handsOn again : Bool} {X : World → Array Value → Prop}
    (hX : ∀ (w w' : World) (args : Array Value), w.heap = w'.heap → X w args → X w' args)
    (own : ownKnob C.prog.godebug = none) (started : os.Started) (noInit : C.prog.inits.idxOf? f = none) (hfn : C.prog.funcs[f]? = some fn)
    (witness : ∃ (w : World) (tape : Tape) (i : Input), w.os = os ∧ (w.forCall tape i).Shaped C.prog ∧ i.vars = [] ∧ Input.okWide C.prog (w.forCall tape i) .any w.heap.size f i ∧
      ((s.pre enc C.prog fn conds apart (w.forCall tape i).memory i.args ∧ X (w.forCall tape i).memory i.args) ∧ sizedMet enc C.prog fn (OpenSpec.ofChange s) apart (w.forCall tape i).memory i.args) ∧ a.holds C.prog (lone (Frame.enter C.prog f i.args .normal) [] (w.forCall tape i)))
    (contract : ∀ (W : World) (base : Nat) (args : Array Value) (ds gs : List (DataW H)) (before : List MemPlace),
      (∀ (j : Nat) t v, fn.params[j]? = some t → args[j]? = some v → Value.okWide C.prog W .any base t v) → DataW.Whole enc C.prog fn.params.toList s.vars apart W args.toList ds gs before →
      W.ShapedOpen C.prog → X W args → Calls C.prog f args W fun e W' => ∃ v, e = .returned v ∧ s.post enc C.prog fn apart fresh handsOn again W args v W') :
    ReturnsInHanded a C os f .any (fun w args => (s.pre enc C.prog fn conds apart w args ∧ X w args) ∧ sizedMet enc C.prog fn (OpenSpec.ofChange s) apart w args) (s.post enc C.prog fn apart fresh handsOn again) := by
  refine returnsInHanded_of_calls own started noInit witness ?_
  intro w tape i _ hsh _ hok hpre _
  obtain ⟨_, _, _, fn', hfn', _, _, _, _, hval⟩ := hok
  obtain rfl : fn' = fn := Option.some.inj (hfn'.symm.trans hfn)
  obtain ⟨⟨⟨ds, gs, before, hw, _⟩, hx⟩, _⟩ := hpre
  refine (contract (w.forCall tape i) w.heap.size i.args ds gs before hval (DataW.Whole.of_heap (w' := w.forCall tape i) (by rfl) hw) hsh (hX _ _ _ (by rfl) hx)).mono ?_
  rintro e W' ⟨v, rfl, hp⟩
  exact ChangeSpec.post_blind hp
end Go.Proofs.YtnamdpbcpnnhaaaGreatDoor
end
section
set_option linter.unusedVariables false
set_option linter.unusedSimpArgs false
namespace Go.Proofs.YtnamdpbcpnnhaaaGreatDoor
open Go.Al Go.Den Go.RowKit Go.Shelf
attribute [local go_sem] Oper.semAt_some
def downN (n k : Nat) : List (Fin n) := (List.finRange n).reverse.take k
theorem downN_succ (n k m : Nat) (h : m + k + 1 = n) : downN n (k + 1) = downN n k ++ [⟨m, by omega⟩] := by
  unfold downN
  rw [List.take_succ_eq_append_getElem (by simp; omega)]
  congr 2
  rw [List.getElem_reverse]
  apply Fin.ext
  simp
  omega
theorem downN_length (n k : Nat) (h : k ≤ n) : (downN n k).length = k := by simp [downN, h]
def KpB (Bs b n : Nat) (A B : World) : Prop := (∀ v, A.cell? ⟨Bs, 0, none⟩ = some v → B.cell? ⟨Bs, 0, none⟩ = some v) ∧ ∀ j v, j < n → A.cell? ⟨b, j, none⟩ = some v → B.cell? ⟨b, j, none⟩ = some v
theorem KpB.refl (Bs b n : Nat) (A : World) : KpB Bs b n A A := ⟨fun _ h => h, fun _ _ _ h => h⟩
theorem KpB.trans {Bs b n : Nat} {A B C : World} (h : KpB Bs b n A B) (k : KpB Bs b n B C) : KpB Bs b n A C := ⟨fun v e => k.1 v (h.1 v e), fun j v hj e => k.2 j v hj (h.2 j v hj e)⟩
theorem KpB.put {Bs b n : Nat} (W : World) (l : Nat) (o o' : Obj) (hl : W.heap[l]? = some o) (ho : o.isCells = false) : KpB Bs b n W (W.putObj l o') := by
  have key : ∀ b j v, W.cell? ⟨b, j, none⟩ = some v → (W.putObj l o').cell? ⟨b, j, none⟩ = some v := fun b j v e => by
    refine (World.cell?_of_block (World.putObj_heap_other ?_)).trans e
    intro e2
    have e2 : b = l := e2
    subst e2
    unfold World.cell? at e
    simp only [hl] at e
    cases o <;> first | (cases ho; done) | (cases e; done) | (simp at e; done)
  exact ⟨fun v e => key _ _ _ e, fun j v _ e => key _ _ _ e⟩
set_option maxRecDepth 100000 in
set_option maxHeartbeats 2000000 in
theorem back1_in (F : Fence) (n : Nat) (h8 : F.fn 129) (hro : F.round = none) (hn : 1 ≤ n) (l Bs b cap : Nat) (bs : List Nat) (hreach : bs.length < 1000000) (J Jx : List (Fin bs.length) → World → Prop)
    (hY : ∀ pre x W, J pre W → pre.length < bs.length → YieldAt F (n - 1) Tryz.prog l #[.int .i64 (x.1 : Int), .map (some (bs[x.1]?.getD 0))] W fun e W' =>
      (e = .returned (.bool true) ∧ J (pre ++ [x]) W' ∧ KpB Bs b bs.length W W') ∨ (e = .returned (.bool false) ∧ Jx (pre ++ [x]) W'))
    (W : World) (hBs : W.cell? ⟨Bs, 0, none⟩ = some (.slice (some ⟨b, 0, none⟩) bs.length cap)) (hc : ∀ j, j < bs.length → W.cell? ⟨b, j, none⟩ = some (.map (some (bs[j]?.getD 0)))) (h0 : J [] W) :
    CallsIn F n Tryz.prog 129 #[.func (.yield l) #[] #[], .pointer (some ⟨Bs, 0, none⟩)] W fun e W' => (∃ v, e = .returned v) ∧
      ((∃ ys, ys = downN bs.length bs.length ∧ J ys W') ∨ (∃ pre, (∃ k, k ≤ bs.length ∧ pre = downN bs.length k) ∧ Jx pre W')) := by
  refine callsIn_of_wp Tryz.func129 rfl h8 ?_ hro
  simp only [Tryz.ntmps129, List.size_toArray, List.length_cons, List.length_nil, Nat.reduceAdd, Nat.reduceSub, Array.replicate_succ, Array.replicate_zero, List.push_toArray, List.append_toArray, List.nil_append, List.cons_append]
  have hsub : IntKind.i64.wrap ((bs.length : Int) - 1) = (bs.length : Int) - 1 := IntWalk.i64_in _ (by omega)
  gi_wp2
  gi_loopw [3] (fun i wr => ∃ k : Nat, k ≤ bs.length ∧ i = .int .i64 ((bs.length : Int) - 1 - k) ∧ J (downN bs.length k) wr ∧ KpB Bs b bs.length W wr)
    (fun i _ => (intOf i + 1).toNat)
  case atStart => exact ⟨0, Nat.zero_le _, by simp, h0, KpB.refl _ _ _ _⟩
  case round =>
    obtain ⟨k, hk, rfl, hJs, hnx⟩ := hrel
    have hBs' := hnx.1 _ hBs
    by_cases hlt : k < bs.length
    · obtain ⟨m, hm⟩ : ∃ m : Nat, m + k + 1 = bs.length := ⟨bs.length - 1 - k, by omega⟩
      have hcx := hnx.2 m _ (by omega) (hc m (by omega))
      have ei : (bs.length : Int) - 1 - (k : Int) = (m : Int) := by omega
      rw [ei]
      obtain ⟨fn, tmps, assign, body, hy, hR⟩ := hY _ ⟨m, by omega⟩ wr hJs (by rw [downN_length _ _ hk]; exact hlt)
      dsimp only at hy
      have hlt2 : (m : Int) < (bs.length : Int) := by omega
      have hge2 : ¬ ((m : Int) < 0) := by omega
      gi_wp2
      refine hR.mono ?_
      have hm' : m = bs.length - 1 - k := by omega
      rintro e W3 (⟨rfl, hJ3, hk3⟩ | ⟨rfl, hJx3⟩)
      · have hsub3 : IntKind.i64.wrap ((m : Int) - 1) = (m : Int) - 1 := IntWalk.i64_in _ (by omega)
        gi_wp2
        go_roundw
        case rel => exact ⟨k + 1, by omega, by congr 1; omega, by rw [downN_succ _ _ _ hm]; exact hJ3, hnx.trans hk3⟩
        case measure => simp [intOf]; omega
      · gi_wp2
        refine bodyPost_ret (results_none rfl _ _ _) rfl ?_
        exact ⟨⟨_, rfl⟩, .inr ⟨_, ⟨k + 1, by omega, (downN_succ _ _ _ hm).symm⟩, hJx3⟩⟩
    · obtain rfl : k = bs.length := by omega
      gi_wp2
      go_end0
      exact ⟨⟨_, rfl⟩, .inl ⟨_, rfl, hJs⟩⟩
set_option maxHeartbeats 1000000 in
theorem back_in (F : Fence) (n : Nat) (h5 : F.fn 109) (hro : F.round = none) (a : Option Addr) (len cap : Nat) (w : World) :
    CallsIn F n Tryz.prog 109 #[.slice a len cap] w fun e w' => e = .returned (.func (.func 129) #[] #[.pointer (some ⟨w.heap.size, 0, none⟩)]) ∧ w' = w.alloc (.cells #[.slice a len cap] 64) := by
  refine callsIn_of_wp Tryz.func109 rfl h5 ?_ hro
  simp only [Tryz.ntmps109, List.size_toArray, List.length_cons, List.length_nil, Nat.reduceAdd, Nat.reduceSub, Array.replicate_succ, Array.replicate_zero, List.push_toArray, List.append_toArray, List.nil_append, List.cons_append]
  gi_wp2
  go_ret
  exact ⟨rfl, rfl⟩
theorem back_stops (F : Fence) (n : Nat) (h8 : F.fn 129) (hro : F.round = none) (hn : 1 ≤ n) (Bs b cap : Nat) (bs : List Nat) (hreach : bs.length < 1000000) (w : World) (hB : Bs < w.heap.size) (hb : b < w.heap.size)
    (hc : w.cell? ⟨Bs, 0, none⟩ = some (.slice (some ⟨b, 0, none⟩) bs.length cap)) (hI : ∀ j, j < bs.length → w.cell? ⟨b, j, none⟩ = some (.map (some (bs[j]?.getD 0)))) :
    SeqStopsK F n Tryz.prog 129 #[.pointer (some ⟨Bs, 0, none⟩)] (fun x : Fin bs.length => #[Value.int .i64 (x.1 : Int), Value.map (some (bs[x.1]?.getD 0))]) (KpB Bs b bs.length) (fun ys => ys = downN bs.length bs.length)
      (fun pre => ∃ k, k ≤ bs.length ∧ pre = downN bs.length k) bs.length w := fun l J Jx W hW _ _ hY h0 =>
  back1_in F n h8 hro hn l Bs b cap bs hreach J Jx hY W ((hW.cell (p := ⟨Bs, 0, none⟩) hB).trans hc) (fun j hj => (hW.cell (p := ⟨b, j, none⟩) hb).trans (hI j hj)) h0
end Go.Proofs.YtnamdpbcpnnhaaaGreatDoor
end
section
set_option linter.unusedVariables false
set_option linter.unusedSimpArgs false
namespace Go.Proofs.YtnamdpbcpnnhaaaGreatDoor
open Go.Al Go.Den Go.RowKit Go.Shelf
attribute [local go_sem] Oper.semAt_some
attribute [local congr] aGuard_congr aPick_congr aBin_congr aUn_congr aExtract_congr aField_congr aFieldAddr_congr aIndexAddr_congr aIndex_congr aLoad_congr aStore_congr aNew_congr aAlloc_congr aBuild_congr aBuildSlice_congr aNilCheck_congr aSlice_congr aLen_congr aMax_congr aAppend_congr sLoad_congr sStore_congr sFieldR_congr sFieldP_congr sField_congr sIndex_congr sIndexM_congr sAlloc_congr sBuild_congr sBuild2_congr sBS_congr sBSk_congr sApp_congr sAppN_congr sAppW_congr sAppS_congr sAppS2_congr sSliceB_congr aGuardD_congr
def isTyS (nm : Str) : List MT → Bool
  | [] => false
  | m :: r => match mtGet m nm with
    | some n => if n ≠ 0 then n == 2 else isTyS nm r
    | none => isTyS nm r
noncomputable def c76 (c85 : Int × Unit → MM (Bool × Unit)) (a : Int × Unit) : MM (Bool × Unit) := fun l s =>
  match c85 a l s with
  | some (some y) => if y.2 = s ∧ s.2.length < 1000000 ∧ (y.1.1 = true → 0 ≤ s.1 ∧ 0 ≤ a.1 ∧ s.1 + a.1 < l.length ∧ l.length < 1000000) then
      some (some ((y.1.1 && isTyS (l.getD (s.1 + a.1).toNat tokD).text s.2.reverse, ()), s)) else none
  | _ => none
theorem cM_use {P : Program} {f : Nat} {aa rs : LK} {m : denKs aa → MM (denKs rs)} (h : CPOk CC P syn f (cM aa rs m)) {l : List TokT} {i : Int} {xs : List MT} {a : denKs aa} {y : denKs rs × PSt} (hm : m a l (i, xs) = some (some y)) {s : S} {vx va : List V} {r1 r2 : List Res}
    (h1 : VKs CC s [parK] ((l, i, xs, (), ()), ()) vx r1) (h2 : VKs CC s aa a va r2) (h3 : (r1 ++ r2).Nodup) : FnC P f (vx ++ va) (subS s (r1 ++ r2)) (CPost CC syn [parK] rs vx (some (((l, y.2.1, y.2.2, (), ()), ()), y.1))) := by
  obtain ⟨oc, k1, k2⟩ := h ((l, i, xs, (), ()), ()) a (R := (denKs ([parK] : LK) × denKs rs)) none (fun u v => some (u, v)) (((l, y.2.1, y.2.2, (), ()), ()), y.1) (by
    have e : fM m ((l, i, xs, (), ()), ()) a (none : Option (denKs ([parK] : LK) × denKs rs)) (fun u v => some (u, v)) = some (((l, y.2.1, y.2.2, (), ()), ()), y.1) := by simp only [fM, hm]; rfl
    exact e)
  cases oc with
  | none => cases k1
  | some y' =>
    injection k1 with k1
    have := k2 s vx va r1 r2 h1 h2 h3
    rw [show y' = (((l, y.2.1, y.2.2, (), ()), ()), y.1) from k1] at this
    exact this
theorem Inv.refr {B : Nat} {wm : Nat → Nat} {tb : Nat → Option (Option (Nat × Nat × Nat × Nat))} {f1 f2 : Fr} {st : S} {w : World} (h : Al.Inv B ⟨wm, tb, f1⟩ st w)
    (h1 : ∀ b, f2 b = true → b < w.heap.size ∧ Al.look st.box b = none ∧ ∀ t ∈ st.tg, ∀ d, tb t = some (some (b, d)) → False) (h2 : ∀ b o fp, olook st.ob b = some (o, fp) → ∀ j ∈ fp, f2 j = false) (h3 : f2.t = f1.t) : Al.Inv B ⟨wm, tb, f2⟩ st w := by
  have hl : Later ⟨wm, tb, f1⟩ w ⟨wm, tb, f2⟩ w := ⟨fun _ => Nat.le_refl _, fun _ _ e => e, fun _ _ _ => rfl⟩
  refine ⟨h.base, fun b cs k hb => ?_, h.tag, h.own, h.dist, h.nodup, h.fresh, h.names, h1, fun b o fp hb => ?_, h.ex.obd, fun t ht => h.ex.ft t (by show f1.t t = true; rw [← h3]; exact ht)⟩
  · obtain ⟨q1, q2, q3, q4, arr, el, us, q5, q6, q7, q8⟩ := h.box b cs k hb
    exact ⟨q1, q2, q3, q4, arr, el, us, q5, q6, RCs_later hl _ _ q7, q8⟩
  · obtain ⟨q1, q2, q3⟩ := h.ex.ob b o fp hb
    refine ⟨q1.local hl (fun _ _ => rfl), q2, fun j hj => ?_⟩
    obtain ⟨r1, r2, r3, r4, r5, r6⟩ := q3 j hj
    exact ⟨r1, r2, r3, r4, r5, h2 b o fp hb j hj⟩
theorem FnC_apart {P : Program} {f : FuncId} {args : List V} {s0 : S} {Q : Outc → S → Prop} (H : FnC P f args s0 Q) {B : Nat} {g : Gh} {w W3 : World} (hi : Al.Inv B g s0 w) (hgl : GlobOk B g.wm w) {vs : List Value} (hv : RVs g w args vs) (hb : Below w.heap.size w W3) :
    Calls P f vs.toArray W3 fun e W4 => ∃ g4 s4, Step B g w g4 W4 ∧ Al.Inv B g4 s4 W4 ∧ W3.heap.size ≤ W4.heap.size ∧ (∀ j, w.heap.size ≤ j → j < W3.heap.size → W4.heap[j]? = W3.heap[j]? ∧ Al.look s4.box j = none ∧ g4.wm j = 0 ∧ (∀ t ∈ s4.tg, ∀ d, g4.tb t = some (some (j, d)) → False) ∧ (∀ b o fp, olook s4.ob b = some (o, fp) → j ∉ fp)) ∧
      match e with
      | .returned v => ∃ r, RV g4 W4 r v ∧ Q (.ret r) s4
      | .panicked c => Q (.pan c) s4
      | .outgrown => False := by
  obtain ⟨wm, tb, fr⟩ := g
  have hl : Later ⟨wm, tb, fr⟩ w ⟨wm, tb, fr⟩ W3 := ⟨fun _ => Nat.le_refl _, fun _ _ e => e, fun b o ho => by
    refine World.cell?_of_block (hb.block b ?_)
    rcases Nat.lt_or_ge b w.heap.size with hh | hh
    · exact hh
    · rw [hi.fresh b hh] at ho; omega⟩
  have lt : ∀ {b : Nat} {o : Obj}, w.heap[b]? = some o → b < w.heap.size := fun hh => (Array.getElem?_eq_some_iff.1 hh).1
  have hi3 : Al.Inv B ⟨wm, tb, fr⟩ s0 W3 := hi.grow hl hb.size (fun b h => hb.block b h) (fun _ _ => rfl) (fun b h => hi.fresh b (Nat.le_trans hb.size h)) rfl rfl
  obtain ⟨fr3, hfr3⟩ : ∃ fr3 : Fr, fr3 = ⟨fun b => fr b || (decide (w.heap.size ≤ b) && decide (b < W3.heap.size)), fr.t⟩ := ⟨_, rfl⟩
  have hf3 : ∀ b, fr3 b = true ↔ (fr b = true ∨ (w.heap.size ≤ b ∧ b < W3.heap.size)) := fun b => by
    rw [hfr3]; show (fr b || _) = true ↔ _
    simp
  have hi4 : Al.Inv B ⟨wm, tb, fr3⟩ s0 W3 := by
    refine Inv.refr hi3 (fun b h => ?_) (fun b o fp h j hj => ?_) (by rw [hfr3])
    · rcases (hf3 b).1 h with h | ⟨h, h'⟩
      · exact hi3.ex.frz b h
      · refine ⟨h', ?_, fun t ht d hd => ?_⟩
        · cases e : Al.look s0.box b with
          | none => rfl
          | some c =>
            obtain ⟨cs, k⟩ := c
            obtain ⟨_, _, _, _, arr, el, us, h5, _⟩ := hi.box b cs k e
            have := lt h5; omega
        · obtain ⟨d1, d2, d3⟩ := d
          obtain ⟨_, _, _, _, _, arr, el, h5, _⟩ := hi.own t ht b d1 d2 d3 hd
          have := lt h5; omega
    · cases e : fr3 j with
      | false => rfl
      | true =>
        obtain ⟨q1, q2, q3⟩ := hi.ex.ob b o fp h
        obtain ⟨r1, r2, r3, r4, r5, r6⟩ := q3 j hj
        rcases (hf3 j).1 e with h | ⟨h, _⟩
        · rw [show fr j = false from r6] at h; cases h
        · omega
  refine (H B ⟨wm, tb, fr3⟩ W3 vs hi4 (hgl.below (Below.mono hb hi.base) (fun _ => Nat.le_refl _)) (hv.later (g' := ⟨wm, tb, fr3⟩) ⟨hl.wm, hl.tb, hl.cell⟩)).mono ?_
  rintro e W4 ⟨⟨wm4, tb4, fr4⟩, s4, h1, h2, h3⟩
  have e4 : fr4 = fr3 := h1.fr
  subst e4
  have hl4 : Later ⟨wm4, tb4, fr4⟩ W4 ⟨wm4, tb4, fr⟩ W4 := ⟨fun _ => Nat.le_refl _, fun _ _ e => e, fun _ _ _ => rfl⟩
  have hsub : ∀ b, fr b = true → fr4 b = true := fun b h => (hf3 b).2 (.inl h)
  refine ⟨⟨wm4, tb4, fr⟩, s4, ⟨⟨fun b => h1.later.wm b, fun t d e => h1.later.tb t d e, fun b o ho => (h1.later.cell b o ho).trans (hl.cell b o ho)⟩, (Below.mono hb hi.base).trans h1.below, fun b h => ?_, fun b h => h1.wmB b h, rfl⟩,
    Inv.refr h2 (fun b h => h2.ex.frz b (hsub b h)) (fun b o fp h j hj => ?_) (by rw [hfr3]), h1.below.size, fun j h5 h6 => ?_, ?_⟩
  · obtain ⟨k1, k2⟩ := h1.fz b (hsub b h)
    exact ⟨k1.trans (hb.block b (hi.ex.frz b h).1), k2⟩
  · cases e : fr j with
    | false => rfl
    | true =>
      have := ((h2.ex.ob b o fp h).2.2 j hj).2.2.2.2.2
      rw [show fr4 j = true from hsub j e] at this; cases this
  · have h7 := (hf3 j).2 (.inr ⟨h5, h6⟩)
    obtain ⟨k1, k2⟩ := h1.fz j h7
    obtain ⟨k3, k4, k5⟩ := h2.ex.frz j h7
    refine ⟨k1, k4, k2.trans (hi.fresh j h5), k5, fun b o fp h hj => ?_⟩
    have := ((h2.ex.ob b o fp h).2.2 j hj).2.2.2.2.2
    rw [show fr4 j = true from h7] at this; cases this
  · cases e with
    | returned v => obtain ⟨r, q1, q2⟩ := h3; exact ⟨r, q1.later hl4, q2⟩
    | panicked c => exact h3
    | outgrown => exact h3
theorem Inv.but' {B : Nat} {g : Gh} {st : S} {w w' : World} (h : Al.Inv B g st w) (K : Nat → Prop) (hK : ∀ k, K k → Al.look st.box k = none ∧ (∀ t ∈ st.tg, ∀ d, g.tb t = some (some (k, d)) → False) ∧ g.wm k = 0)
    (hs : w.heap.size ≤ w'.heap.size) (hb : ∀ j, j < w.heap.size → ¬ K j → w'.heap[j]? = w.heap[j]?) (ho : Later g w g w' → ∀ b o fp, olook st.ob b = some (o, fp) → OMem g w' b o fp) : Al.Inv B g st w' ∧ Later g w g w' := by
  have hl : Later g w g w' := ⟨fun _ => Nat.le_refl _, fun _ _ e => e, fun b o ho => by
    refine World.cell?_of_block (hb b ?_ ?_)
    · rcases Nat.lt_or_ge b w.heap.size with hh | hh
      · exact hh
      · rw [h.fresh b hh] at ho; omega
    · intro e; rw [(hK b e).2.2] at ho; omega⟩
  have lt : ∀ {b : Nat} {o : Obj}, w.heap[b]? = some o → b < w.heap.size := fun hh => (Array.getElem?_eq_some_iff.1 hh).1
  refine ⟨⟨Nat.le_trans h.base hs, fun b cs k' hb' => ?_, h.tag, fun t ht b cap n sz hbb => ?_, h.dist, h.nodup, fun b hb' => h.fresh b (Nat.le_trans hs hb'), h.names, fun b hf => ?_, fun b o fp hb' => ?_, h.ex.obd, h.ex.ft⟩, hl⟩
  · obtain ⟨q1, q2, q3, q4, arr, el, us, q5, q6, q7, q8⟩ := h.box b cs k' hb'
    have hne : ¬ K b := fun e => by have := (hK b e).1; rw [this] at hb'; cases hb'
    exact ⟨q1, q2, q3, q4, arr, el, us, (hb b (lt q5) hne).trans q5, q6, RCs_later hl _ _ q7, q8⟩
  · obtain ⟨q1, q2, q3, q4, q5, arr, el, q6, q7⟩ := h.own t ht b cap n sz hbb
    have hne : ¬ K b := fun e => (hK b e).2.1 t ht _ hbb
    exact ⟨q1, q2, q3, q4, q5, arr, el, (hb b (lt q6) hne).trans q6, q7⟩
  · obtain ⟨q1, q2⟩ := h.ex.frz b hf
    exact ⟨Nat.lt_of_lt_of_le q1 hs, q2⟩
  · obtain ⟨q1, q2, q3⟩ := h.ex.ob b o fp hb'
    refine ⟨ho hl b o fp hb', q2, fun j hj => ?_⟩
    obtain ⟨r1, r2, r3⟩ := q3 j hj
    exact ⟨r1, Nat.lt_of_lt_of_le r2 hs, r3⟩
theorem MapR_int {g : Gh} {w : World} : ∀ {c : MT} {es : List MapEntry}, MapR g w (trMC c) es → ∀ g' w', MapR g' w' (trMC c) es
  | [], _, h, _, _ => h
  | (k, z) :: r, _, ⟨e, es', h1, h2, h3, h4⟩, g', w' => by
    refine ⟨e, es', h1, h2, ?_, MapR_int h4 g' w'⟩
    obtain ⟨us, q1, q2⟩ := h3
    simp only [RC] at q1
    exact ⟨us, by simp only [RC]; exact q1, q2⟩
theorem results_bool {P : Program} {fn : Func} {p : Nat} {t : TypeId} {tmps : Array Value} {b : Nat} {r : Bool} {w : World} (h : fn.results = #[.cell p t]) (hp : tmps.getD p undef = .pointer (some ⟨b, 0, none⟩)) (hf : fits P t (.at (.bool r))) (hc : w.cell? ⟨b, 0, none⟩ = some (.bool r)) :
    (results fn tmps).run P w = .ok (.bool r) w := by
  have hl := run_loadVar' (g := ⟨fun _ => 0, fun _ => none, Fr.no⟩) (w := w) (b := b) (o := 0) (ds := [.bool r]) hf (by simp [RC, one]) (fun k u hk => by
    cases k with
    | zero => simp at hk; subst hk; exact hc
    | succ k => simp at hk)
  have hm : (fn.results.toList.mapM (resOf ({ tmps := tmps, defers := [] } : Act).tmps)).run P w = .ok [.bool r] w := by
    rw [h]
    simp only [List.mapM_cons, List.mapM_nil, Sem.run_bind, resOf, hp, asAddr, Sem.run_pure, Result.andThen_ok, hl]
    rfl
  exact results_run (a := { tmps := tmps, defers := [] }) hm
theorem MMems_int {g : Gh} {w : World} {g' : Gh} {w' : World} : ∀ {bs : List Nat} {xs : List MT}, MMems g w bs (xs.map trMC) → (∀ j ∈ bs, w'.heap[j]? = w.heap[j]?) → MMems g' w' bs (xs.map trMC)
  | [], xs, h, _ => h
  | b :: bs, [], ⟨c, cs, h1, _, _⟩, _ => by cases h1
  | b :: bs, x :: xs, ⟨c, cs, h1, ⟨arr, clock, h2, h3⟩, h4⟩, hh => by
    injection h1 with h1 h5
    subst h1; subst h5
    exact ⟨_, _, rfl, ⟨arr, clock, (hh b (by simp)).trans h2, MapR_int h3 _ _⟩, MMems_int h4 fun j hj => hh j (by simp [hj])⟩
theorem MMems_at {g : Gh} {w : World} {g' : Gh} {w' : World} : ∀ {bs : List Nat} {xs : List MT}, bs.length = xs.length → (∀ (i j : Nat) (c : MT), bs[i]? = some j → xs[i]? = some c → ∃ (arr : Array MapEntry) (clock : Nat), w'.heap[j]? = some (Obj.map arr clock) ∧ ∀ g w, MapR g w (trMC c) arr.toList) → MMems g' w' bs (xs.map trMC)
  | [], [], _, _ => rfl
  | [], _ :: _, h, _ => by simp at h
  | _ :: _, [], h, _ => by simp at h
  | b :: bs, x :: xs, h, hh => by
    obtain ⟨arr, clock, h1, h2⟩ := hh 0 b x rfl rfl
    exact ⟨_, _, rfl, ⟨arr, clock, h1, h2 _ _⟩, MMems_at (g := g) (w := w) (by simpa using h) fun i j c h3 h4 => hh (i + 1) j c (by simpa using h3) (by simpa using h4)⟩
theorem MMems_get {g : Gh} {w : World} : ∀ {bs : List Nat} {xs : List MT}, MMems g w bs (xs.map trMC) → ∀ (i j : Nat) (c : MT), bs[i]? = some j → xs[i]? = some c → ∃ (arr : Array MapEntry) (clock : Nat), w.heap[j]? = some (Obj.map arr clock) ∧ ∀ g w, MapR g w (trMC c) arr.toList
  | [], _, _, _, _, _, h, _ => by simp at h
  | b :: bs, [], ⟨c, cs, h1, _, _⟩, _, _, _, _, _ => by cases h1
  | b :: bs, x :: xs, ⟨c, cs, h1, ⟨arr, clock, h2, h3⟩, h4⟩, i, j, d, e1, e2 => by
    injection h1 with h1 h5
    subst h1; subst h5
    cases i with
    | zero => simp at e1 e2; subst e1; subst e2; exact ⟨arr, clock, h2, MapR_int h3⟩
    | succ i => exact MMems_get h4 i j d (by simpa using e1) (by simpa using e2)
theorem setCell_one {W : World} {k : Nat} {v u : Value} {t : TypeId} {m : Nat × Nat} (h : W.heap[k]? = some (.cells #[v] t m)) : (W.setCell ⟨k, 0, none⟩ u).heap[k]? = some (.cells #[u] t m) := by
  obtain ⟨hlt, hk⟩ := Array.getElem?_eq_some_iff.1 h
  show (W.heap.modify k _)[k]? = _
  rw [Array.getElem?_eq_getElem (by rw [Array.size_modify]; exact hlt), Array.getElem_modify_self, hk]
  rfl
def zfM (nm : Str) (m : MT) : Int := (mtGet m nm).getD 0
theorem isTyS_cons (nm : Str) (m : MT) (r : List MT) : isTyS nm (m :: r) = if zfM nm m ≠ 0 then zfM nm m == 2 else isTyS nm r := by
  show (match mtGet m nm with | some n => if n ≠ 0 then n == 2 else isTyS nm r | none => isTyS nm r) = _
  unfold zfM
  cases mtGet m nm <;> simp
theorem isTyS_none {nm : Str} : ∀ {r : List MT}, (∀ m ∈ r, zfM nm m = 0) → isTyS nm r = false
  | [], _ => rfl
  | m :: r, h => by rw [isTyS_cons, if_neg (by simp [h m]), isTyS_none fun m hm => h m (by simp [hm])]
theorem isTyS_hit {nm : Str} {m : MT} {r : List MT} : ∀ {p : List MT}, (∀ m ∈ p, zfM nm m = 0) → zfM nm m ≠ 0 → isTyS nm (p ++ m :: r) = (zfM nm m == 2)
  | [], _, h => by rw [List.nil_append, isTyS_cons, if_pos h]
  | q :: p, hp, h => by rw [List.cons_append, isTyS_cons, if_neg (by simp [hp q]), isTyS_hit (fun m hm => hp m (by simp [hm])) h]
theorem rev_down (xs : List MT) (n : Nat) (h : n = xs.length) : xs.reverse = (List.finRange n).reverse.map fun x => xs[x.1]?.getD [] := by
  subst h
  rw [List.map_reverse]
  congr 1
  apply List.ext_getElem
  · simp
  · intro i h1 h2
    simp
theorem look63 {st5 : S} {bj : Nat} {c : MT} {fp : List Nat} {s : Str} (l2 : olook st5.ob bj = some (.mp (trMC c), fp)) {K : V → Prop} (hK : K (.at (.int .i64 ((mtGet c s).getD 0)))) : aLookup Tryz.prog st5 63 (.at (.map (some bj))) (.at (.string ⟨s.toArray⟩)) false K := by
  have h1 : mapT Tryz.prog 63 = some 3 := by kernel_rfl
  have h2 : zeroOf Tryz.prog 3 = some (.int .i64 0) := by kernel_rfl
  unfold aLookup
  simp only [h1, h2, l2, mget_tr]
  refine ⟨rfl, ?_⟩
  cases h : mtGet c s with
  | none => rw [h] at hK; exact hK
  | some z => rw [h] at hK; exact hK
def ks76F : Nat → List Nat := fun _ => [2, 3, 4, 6, 7, 35]
theorem wpIn_fen {l n : Nat} {c : Code} {P : Program} {Q : Exit → Act → World → Prop} {a : Act} {w : World} (h : c.wpIn (fen (some l)) 0 P Q a w) : c.wpIn (Fence.wide.inRound l) n P Q a w :=
  fun b k cs h1 h2 _ => h b k cs h1 h2 (room_wide _)
structure IsI (W5 W : World) (bs : List Nat) (xs : List MT) (k2 : Nat) (r : Bool) : Prop where
  below : Below 0 W5 W
  blk : ∀ b, b < W5.heap.size → b ∉ bs → b ≠ k2 → W.heap[b]? = W5.heap[b]?
  mp : ∀ (i j : Nat) (c : MT), bs[i]? = some j → xs[i]? = some c → ∃ (arr : Array MapEntry) (clock : Nat), W.heap[j]? = some (Obj.map arr clock) ∧ ∀ g w, MapR g w (trMC c) arr.toList
  res : ∃ t, W.heap[k2]? = some (.cells #[.bool r] t (0, 0))
theorem IsI.set {W5 W : World} {bs : List Nat} {xs : List MT} {k2 : Nat} {r : Bool} (h : IsI W5 W bs xs k2 r) (hk : k2 ∉ bs) (r' : Bool) : IsI W5 (W.setCell ⟨k2, 0, none⟩ (.bool r')) bs xs k2 r' := by
  have hoth : ∀ j, j ≠ k2 → (W.setCell ⟨k2, 0, none⟩ (.bool r')).heap[j]? = W.heap[j]? := fun j hj => Below.heap_setCell _ _ _ j hj
  refine ⟨h.below.setCell (p := ⟨k2, 0, none⟩) (Nat.zero_le _) _, fun b h1 h2 h3 => (hoth b h3).trans (h.blk b h1 h2 h3), fun i j c e1 e2 => ?_, h.res.imp fun t e => setCell_one e⟩
  obtain ⟨arr, ck, q1, q2⟩ := h.mp i j c e1 e2
  exact ⟨arr, ck, (hoth j (fun e => hk (by rw [← e]; exact List.mem_of_getElem? e1))).trans q1, q2⟩
theorem IsI.grown {W5 A C : World} {bs : List Nat} {xs : List MT} {k2 : Nat} {r : Bool} (h : IsI W5 A bs xs k2 r) (hl : bs.length = xs.length) (h1 : ∀ j ∈ bs, j < W5.heap.size) (h2 : k2 < W5.heap.size) {row : Option Nat} (hg : A.grownBy C row) (hr : ∀ k, row = some k → W5.heap.size ≤ k ∧ ∃ o : Obj, A.heap[k]? = some o ∧ o.isCells = false) : IsI W5 C bs xs k2 r := by
  have hsz := h.below.size
  have key : ∀ b, b < W5.heap.size → C.heap[b]? = A.heap[b]? := fun b hb => hg.block b (by omega) (fun e => by have := (hr b e.symm).1; omega)
  refine ⟨h.below.trans (Below.grown (Below.refl 0 A) hg (Nat.zero_le _) (fun k e => Nat.zero_le _)), fun b hb q1 q2 => (key b hb).trans (h.blk b hb q1 q2), fun i j c q1 q2 => ?_, h.res.imp fun t e => (key k2 h2).trans e⟩
  obtain ⟨arr, clock, q3, q4⟩ := h.mp i j c q1 q2
  exact ⟨arr, clock, (key j (h1 j (List.mem_of_getElem? q1))).trans q3, q4⟩
def findRF : Code → Option Code
  | .seq a b => (findRF a).or (findRF b)
  | .block _ c => findRF c
  | .rangeFunc _ _ _ b => some b
  | _ => none
set_option maxRecDepth 100000 in
theorem round76 (B l' n2 len' : Nat) (b' : Nat) (i far : Int) (cap' : Nat) (m' : Option Nat) (es : List V) (bs : List Nat) (bj : Nat) (xs : List MT) (c : MT) (nm : Str) (tk : TokT) (st5 : S)
    (hi1 : 0 ≤ i + far) (hll : i + far < (es.length : Int)) (hadd : IntKind.i64.wrap (i + far) = i + far)
    (hidx : es.getD (i + far).toNat .any = .agg [.at (.int .i64 tk.kind), .at (.string ⟨tk.text.toArray⟩), .at (.int .i64 tk.file), .at (.int .i64 tk.ffrom), .at (.int .i64 tk.fto), .at (.bool tk.blank)]) (hnmD : nm = tk.text)
    (l1 : Al.look st5.box n2 = some ([.at (.bool false)], 1)) (l2 : olook st5.ob bj = some (.mp (trMC c), [bj])) (l3 : st5.ob = mps bs (xs.map trMC)) :
    awp Tryz.prog ⟨B, ⟨38, []⟩, some l', []⟩ ((findRF (bodyOf Tryz.f76)).getD .skip) (fun ex e' s' => (ex = .normal ∧ (mtGet c nm).getD 0 = 0 ∧ Al.look s'.box n2 = some ([.at (.bool false)], 1) ∧ s'.ob = mps bs (xs.map trMC)) ∨ (ex = .ret ∧ (mtGet c nm).getD 0 ≠ 0 ∧ Al.look s'.box n2 = some ([.at (.bool ((mtGet c nm).getD 0 == 2))], 1) ∧ s'.ob = mps bs (xs.map trMC)))
      [(2, .rptr (.rptr (.agg [.lst (tagOf es) es, .at (.int .i64 i), .at (.slice (some ⟨b', 0, none⟩) len' cap'), .at (.map m')]))), (3, .rptr (.at (.int .i64 far))), (4, .at (.pointer (some ⟨n2, 0, none⟩))), (6, .at (.map (some bj)))] st5 := by
  simp only [bodyOf, Tryz.f76, Option.getD_some, findRF, Option.or_some, Option.some_or, Option.none_or, Option.or_none]
  refine awp_block ?_
  (repeat (first | (refine awp_seq ?_) | (refine awp_skip ?_; simp -failIfUnchanged only [thenE_normal, blockE_normal]) | (refine awp_ret ?_; simp -failIfUnchanged only [thenE_ret, blockE_ret, retE_ret, retER_ret]) | (refine awp_exit ?_; simp -failIfUnchanged only [thenE_exit, blockE_exit, thenE_normal, blockE_normal, reduceIte]) | (refine awp_block ?_) | ((first | (refine awp_reg polN ks76F _ rfl rfl ?_) | (refine awp_draw polN mixed ks76F _ rfl rfl (by kernel_rfl) (by kernel_rfl) ?_)); simp only [↓AL_nil, ↓AL_move0, ↓AL_assign0, ↓AL_bin0, ↓AL_fieldAddr0, ↓AL_indexAddr0, ↓AL_load, ↓AL_nilCheck0, thenE_normal, thenE_panic, blockE_panic, putO_some, get_cons, get_nil, ev_tmp, keepE_cons, keepE_nil, aBin_int, aInt_add, aNilCheck_rptr, aLoad_rptr, aFieldAddr_rptr, sFieldR_some, aIndexAddr_lst, sIndex_some, implies_true, List.map_cons, List.map_nil, and_self, fits, partOk, partV, allOne, V.isOne, V.isAgg, V.size, sizes, List.all_cons, List.all_nil, List.length_cons, List.length_nil, List.drop_zero, List.drop_succ_cons, List.take_succ_cons, List.take_zero, List.getD_cons_zero, List.getD_cons_succ, Bool.true_and, Bool.and_self, if_true, if_false, true_and, Nat.reduceAdd, Nat.reduceEqDiff, Nat.reduceLeDiff, reduceCtorEq, Bool.false_eq_true, Nat.zero_add, Nat.add_zero, Nat.lt_add_one, hasT3, aggT3, cells3, hasT9, aggT9, cells9, hasT24, aggT24, cells24, elT24, hasT26, cells26, fld26_1, hasT62, aggT62, cells62, fld66_0, fld66_1, ks76F, aBinI_int, hadd, hidx, AL_lookup0])))
  refine ⟨⟨hi1, hll⟩, look63 l2 ?_⟩
  rw [← hnmD]
  generalize (mtGet c nm).getD 0 = z
  (repeat (first | (refine awp_seq ?_) | (refine awp_skip ?_; simp -failIfUnchanged only [thenE_normal, blockE_normal]) | (refine awp_ret ?_; simp -failIfUnchanged only [thenE_ret, blockE_ret, retE_ret, retER_ret]) | (refine awp_exit ?_; simp -failIfUnchanged only [thenE_exit, blockE_exit, thenE_normal, blockE_normal, reduceIte]) | (refine awp_block ?_) | ((first | (refine awp_reg polN ks76F _ rfl rfl ?_) | (refine awp_draw polN mixed ks76F _ rfl rfl (by kernel_rfl) (by kernel_rfl) ?_)); simp only [↓AL_nil, ↓AL_move0, ↓AL_bin0, thenE_normal, putO_some, get_cons, get_nil, ev_tmp, ev_const, cV_int, keepE_cons, keepE_nil, aBin_int, aInt_neq, if_true, if_false, Nat.reduceEqDiff, ks76F, aBinI_int])))
  refine awp_cond rfl (fun ht => ?_) (fun ht => ?_)
  · have hz0 : z ≠ 0 := by simpa using ht
    (repeat (first | (refine awp_seq ?_) | (refine awp_skip ?_; simp -failIfUnchanged only [thenE_normal, blockE_normal]) | (refine awp_ret ?_; simp -failIfUnchanged only [thenE_ret, blockE_ret, retE_ret, retER_ret]) | (refine awp_exit ?_; simp -failIfUnchanged only [thenE_exit, blockE_exit, thenE_normal, blockE_normal, reduceIte]) | (refine awp_block ?_) | ((first | (refine awp_reg polN ks76F _ rfl rfl ?_) | (refine awp_draw polN mixed ks76F _ rfl rfl (by kernel_rfl) (by kernel_rfl) ?_)); simp only [↓AL_nil, ↓AL_move0, ↓AL_bin0, ↓AL_store, thenE_normal, putO_some, putO_none, get_cons, get_nil, ev_tmp, ev_const, cV_int, keepE_cons, keepE_nil, aBin_int, aInt_eql, aStore_ptr, sStore_some, spl, List.nil_append, List.append_nil, and_self, allOne, V.isOne, V.flat, List.all_cons, List.all_nil, List.length_cons, List.length_nil, List.drop_zero, List.drop_succ_cons, List.take_zero, Bool.true_and, Bool.and_self, if_true, if_false, true_and, Nat.reduceEqDiff, Nat.zero_add, Nat.le_refl, hasT4, cells4, ks76F, aBinI_int, l1])))
    refine Or.inr ⟨trivial, hz0, ?_, l3⟩
    simp [look_lay]
  · have hz0 : z = 0 := by simpa using ht
    refine awp_skip ?_
    exact .inl ⟨rfl, hz0, l1, l3⟩
set_option maxRecDepth 100000 in
set_option maxHeartbeats 2000000 in
theorem ok76 (c85 : Int × Unit → MM (Bool × Unit)) (h85 : CPOk CC Tryz.prog syn 85 (cM [.int .i64] [.bool] c85)) : CPOk CC Tryz.prog syn 76 (cM [.int .i64] [.bool] (c76 c85)) := by
  refine cpM_ok fun l i xs a o ho st vx va r1 r2 h1 h2 hn => ?_
  obtain ⟨far, ua⟩ := a
  change Int at far
  obtain ⟨b0, b, cap, fp, m, rfl, k1, k2, rfl⟩ := parK_open h1
  have h2' := h2
  simp only [VKs, VK] at h2
  obtain ⟨v1, w1, q1, q2, rfl, rfl, ⟨rfl, rfl⟩, rfl, rfl⟩ := h2
  unfold c76 at ho
  split at ho
  rotate_left
  · cases ho
  rename_i y hy
  split at ho
  rotate_left
  · cases ho
  rename_i hcond
  obtain ⟨hys, hlen, hin⟩ := hcond
  injection ho with ho
  subst ho
  have H := cM_use h85 hy h1 h2' hn
  rw [hys] at H
  simp only [List.append_nil] at H hn ⊢
  have e1 := (look_subS st [.inr b0, .ob b] b0).1 (by simp)
  have e2 := (olook_subS st [.inr b0, .ob b] b).1 (by simp)
  rw [k1] at e1; rw [k2] at e2
  generalize subS st [.inr b0, .ob b] = s0 at e1 e2 H ⊢
  clear k1 k2 h1 h2'
  intro B g w vs hi hgl hv
  obtain ⟨x1, x2, rfl⟩ : ∃ x1 x2, vs = [x1, x2] := by
    cases hv with
    | cons _ hv => cases hv with
      | cons _ hv => cases hv; exact ⟨_, _, rfl⟩
  have hx1 : x1 = .pointer (some ⟨b0, 0, none⟩) := by cases hv with | cons h _ => exact RV_at h
  have hx2 : x2 = .int .i64 far := by cases hv with | cons _ h => cases h with | cons h _ => exact RV_at h
  subst hx1; subst hx2
  refine (callsIn_wide (n := 6)).1 ?_
  have hF : ∀ f, Fence.wide.fn f := fun _ => trivial
  refine callsIn_of_wp_marks Tryz.func76 rfl (hF _) ?_ rfl
  simp only [Tryz.ntmps76, List.size_toArray, List.length_cons, List.length_nil, Nat.reduceAdd, Nat.reduceSub, Array.replicate_succ, Array.replicate_zero, List.push_toArray, List.append_toArray, List.nil_append, List.cons_append]
  obtain ⟨W3, hW3⟩ : ∃ W3, ((w.alloc (.cells #[.pointer (some ⟨b0, 0, none⟩)] 62)).alloc (.cells #[.int .i64 far] 3)).alloc (.cells #[.bool false] 4) = W3 := ⟨_, rfl⟩
  have hsz : W3.heap.size = w.heap.size + 3 := by rw [← hW3]; simp
  have hh0 : W3.heap[w.heap.size]? = some (.cells #[.pointer (some ⟨b0, 0, none⟩)] 62 (0, 0)) := by
    rw [← hW3, Below.heap_alloc _ _ _ (by simp; omega), Below.heap_alloc _ _ _ (by simp)]
    exact World.alloc_heap_new w _
  have hh1 : W3.heap[w.heap.size + 1]? = some (.cells #[.int .i64 far] 3 (0, 0)) := by
    rw [← hW3, Below.heap_alloc _ _ _ (by simp)]
    have := World.alloc_heap_new (w.alloc (.cells #[.pointer (some ⟨b0, 0, none⟩)] 62)) (.cells #[.int .i64 far] 3)
    simpa using this
  have hh2 : W3.heap[w.heap.size + 1 + 1]? = some (.cells #[.bool false] 4 (0, 0)) := by
    rw [← hW3]
    have := World.alloc_heap_new ((w.alloc (.cells #[.pointer (some ⟨b0, 0, none⟩)] 62)).alloc (.cells #[.int .i64 far] 3)) (.cells #[.bool false] 4)
    simpa using this
  have hc0 : W3.cell? ⟨w.heap.size, 0, none⟩ = some (.pointer (some ⟨b0, 0, none⟩)) := by simp [World.cell?, hh0]
  have hc1 : W3.cell? ⟨w.heap.size + 1, 0, none⟩ = some (.int .i64 far) := by simp [World.cell?, hh1]
  have hc2 : W3.cell? ⟨w.heap.size + 1 + 1, 0, none⟩ = some (.bool false) := by simp [World.cell?, hh2]
  have hbw3 : Below w.heap.size w W3 := by rw [← hW3]; exact (((Below.refl _ w).alloc (Nat.le_refl _) _).alloc (by simp) _).alloc (by simp; omega) _
  have X85 : CallsIn Fence.wide 5 Tryz.prog 85 #[.pointer (some ⟨b0, 0, none⟩), .int .i64 far] W3 fun e W4 => e = .returned (.bool y.1.1) ∧
      ∃ g4 s4 b' cap' fp' m', Step B g w g4 W4 ∧ Al.Inv B g4 s4 W4 ∧ W3.heap.size ≤ W4.heap.size ∧
        (∀ j, w.heap.size ≤ j → j < W3.heap.size → W4.heap[j]? = W3.heap[j]? ∧ Al.look s4.box j = none ∧ g4.wm j = 0 ∧ (∀ t ∈ s4.tg, ∀ d, g4.tb t = some (some (j, d)) → False) ∧ (∀ b o fp, olook s4.ob b = some (o, fp) → j ∉ fp)) ∧
        Al.look s4.box b0 = some ([.lst (tagOf (l.map (CC.encV TI.tok))) (l.map (CC.encV TI.tok)), .at (.int .i64 i), .at (.slice (some ⟨b', 0, none⟩) xs.length cap'), .at (.map m')], 4) ∧ olook s4.ob b' = some (.sc (xs.map trMC) cap', fp') := by
    refine callsIn_wide.2 ((FnC_apart H hi hgl hv hbw3).mono ?_)
    rintro e W4 ⟨g4, s4, h1, h2, h3, h4, h5⟩
    cases e with
    | outgrown => exact h5.elim
    | panicked c => exact h5.elim
    | returned v =>
      obtain ⟨r, h6, ws, q1, q2, h7, h8, _, rfl⟩ := h5
      simp only [VKs, VK] at h8
      obtain ⟨v1, w1, q3, q4, rfl, rfl, ⟨rfl, rfl⟩, rfl, rfl⟩ := h8
      obtain ⟨b0', b', cap', fp', m', e3, k1, k2, rfl⟩ := parK_open h7
      injection e3 with e3 _
      injection e3 with e3
      injection e3 with e3
      injection e3 with e3
      injection e3 with e3 _ _
      subst e3
      exact ⟨congrArg Ending.returned (RV_at h6), g4, s4, b', cap', fp', m', h1, h2, h3, h4, k1, k2⟩
  have hdd : ∀ k : Nat, (Fence.wide.depth.isSome = true → 1 ≤ k) := fun k h => by cases h
  have fin : ∀ (g4 : Gh) (s4 : S) (b' cap' : Nat) (fp' : List Nat) (m' : Option Nat) (W4 : World), Step B g w g4 W4 → Al.Inv B g4 s4 W4 → W3.heap.size ≤ W4.heap.size →
      (∀ j, w.heap.size ≤ j → j < W3.heap.size → W4.heap[j]? = W3.heap[j]? ∧ Al.look s4.box j = none ∧ g4.wm j = 0 ∧ (∀ t ∈ s4.tg, ∀ d, g4.tb t = some (some (j, d)) → False) ∧ (∀ b o fp, olook s4.ob b = some (o, fp) → j ∉ fp)) →
      Al.look s4.box b0 = some ([.lst (tagOf (l.map (CC.encV TI.tok))) (l.map (CC.encV TI.tok)), .at (.int .i64 i), .at (.slice (some ⟨b', 0, none⟩) xs.length cap'), .at (.map m')], 4) → olook s4.ob b' = some (.sc (xs.map trMC) cap', fp') →
      ∀ (W' : World) (r : Bool), Below 0 W4 W' → (∀ j, j < W4.heap.size → j ∉ fp'.tail → j ≠ w.heap.size + 1 + 1 → W'.heap[j]? = W4.heap[j]?) → MMems g4 W' fp'.tail (xs.map trMC) →
      ∃ g' st', Step B g w g' W' ∧ Al.Inv B g' st' W' ∧ ∃ u, RV g' W' u (.bool r) ∧ CPost CC syn [parK] [.bool] [.at (.pointer (some ⟨b0, 0, none⟩))] (some (((l, i, xs, (), ()), ()), (r, ()))) (.ret u) st' := by
    intro g4 s4 b' cap' fp' m' W4 p1 p2 p3 p4 p5 p6 W' r q1 q2 q3
    obtain ⟨bs, rfl, hnd, hbl, hcap, _⟩ := p2.unpack p6
    obtain ⟨o1, o2, o3⟩ := p2.ex.ob _ _ _ p6
    obtain ⟨k1, k2, k3, k4, k5⟩ := p4 (w.heap.size + 1 + 1) (by omega) (by omega)
    have hK : ∀ k, (k ∈ bs ∨ k = w.heap.size + 1 + 1) → Al.look s4.box k = none ∧ (∀ t ∈ s4.tg, ∀ d, g4.tb t = some (some (k, d)) → False) ∧ g4.wm k = 0 := by
      rintro k (hk | rfl)
      · obtain ⟨r1, r2, r3, r4, r5, r6⟩ := o3 k (by simp [hk])
        exact ⟨r4, r5, r3⟩
      · exact ⟨k2, k4, k3⟩
    obtain ⟨hI, hL⟩ := Inv.but' (w' := W') p2 (fun k => k ∈ bs ∨ k = w.heap.size + 1 + 1) hK q1.size (fun j hj hk => by
      simp only [not_or] at hk
      exact q2 j hj hk.1 hk.2) (fun hl bb o fp hb => by
      obtain ⟨t1, t2, t3⟩ := p2.ex.ob bb o fp hb
      by_cases e : bb = b'
      · subst e
        rw [p6] at hb
        injection hb with hb
        obtain ⟨rfl, rfl⟩ := Prod.mk.inj hb
        obtain ⟨bs', arr, el, u1, u2, u3, u4, u5, u6, u7⟩ := t1
        injection u1 with _ u1
        subst u1
        refine ⟨bs, arr, el, rfl, u2, ?_, u4, u5, u6, q3⟩
        have hbb := (List.nodup_cons.1 hnd).1
        rw [q2 bb (o3 bb (by simp)).2.1 hbb (fun e => k5 _ _ _ p6 (by simp [e]))]
        exact u3
      · refine t1.local hl fun j hj => ?_
        have hj1 : j ∉ bs := fun hm => e (p2.ex.obd bb o fp b' _ _ j hb p6 hj (by simp [hm]))
        exact q2 j (t3 j hj).2.1 hj1 (fun e => k5 _ _ _ hb (by rw [← e]; exact hj)))
    have hst : Step B g4 W4 g4 W' := by
      refine ⟨hL, ⟨q1.os, q1.tape, q1.output, q1.size, fun k hk => ?_⟩, fun b hb => ⟨?_, rfl⟩, fun _ _ => rfl, rfl⟩
      · have hB := hi.base
        refine q2 k (by omega) (fun (hm : k ∈ bs) => ?_) (by omega)
        have := (o3 k (by simp [hm])).1; omega
      · obtain ⟨t1, t2, t3⟩ := p2.ex.frz b hb
        refine q2 b t1 (fun (hm : b ∈ bs) => ?_) (fun e => ?_)
        · have := (o3 b (by simp [hm])).2.2.2.2.2
          rw [this] at hb; cases hb
        · have h7 : g.fr b = true := by rw [← p1.fr]; exact hb
          have := (hi.ex.frz b h7).1; omega
    exact ⟨g4, s4, p1.trans hst, hI, .at (.bool r), RV_at_mk rfl, [.at (.bool r)], [.inr b0, .ob b'], [], parK_shut rfl p5 p6, ⟨_, [], [], [], rfl, rfl, ⟨rfl, rfl⟩, rfl, rfl⟩, by simp, rfl⟩
  have hy1 : ∀ r : Bool, r = (y.1.1 && isTyS (l.getD (i + far).toNat tokD).text xs.reverse) → (some (((l, i, xs, (), ()), ()), (r, ())) : Option (denKs ([parK] : LK) × denKs ([.bool] : LK))) = (some ((y.1.1 && isTyS (l.getD (i + far).toNat tokD).text xs.reverse, ()), i, xs)).map fun y => (((l, y.2.1, y.2.2, (), ()), ()), y.1) := fun r hr => by subst hr; rfl
  cases hnm : y.1.1 with
  | false =>
    rw [hnm] at X85
    gi_wp2_with ((try refine ⟨hdd _, ?_⟩); gi_at_call 85; fail)
    refine X85.mono ?_
    rintro e W4 ⟨rfl, g4, s4, b', cap', fp', m', p1, p2, p3, p4, p5, p6⟩
    have hd2h := (p4 (w.heap.size + 1 + 1) (by omega) (by omega)).1.trans hh2
    have hd2 : W4.cell? ⟨w.heap.size + 1 + 1, 0, none⟩ = some (.bool false) := by simp [World.cell?, hd2h]
    have hf2 : W4.frozen? ⟨w.heap.size + 1 + 1, 0, none⟩ = false := by simp [World.frozen?, hd2h]
    gi_wp2
    have hcc := World.cell?_setCell_same' W4 ⟨w.heap.size + 1 + 1, 0, none⟩ (.bool false) (by rw [hd2]; rfl)
    refine ⟨_, results_bool rfl rfl ⟨hasT4, by rw [cells4]; rfl, aggT4.symm⟩ hcc, ?_⟩
    have hoth : ∀ j, j ≠ w.heap.size + 1 + 1 → (W4.setCell ⟨w.heap.size + 1 + 1, 0, none⟩ (.bool false)).heap[j]? = W4.heap[j]? := fun j hj => Below.heap_setCell _ _ _ j hj
    obtain ⟨bs, rfl, hnd, hbl, hcap, _⟩ := p2.unpack p6
    obtain ⟨⟨bs', arr, el, u1, u2, u3, u4, u5, u6, u7⟩, o2, o3⟩ := p2.ex.ob _ _ _ p6
    injection u1 with _ u1
    subst u1
    obtain ⟨g', st', z1, z2, u, z3, z4⟩ := fin g4 s4 b' cap' _ m' W4 p1 p2 p3 p4 p5 p6 (W4.setCell ⟨w.heap.size + 1 + 1, 0, none⟩ (.bool false)) false ((Below.refl 0 W4).setCell (p := ⟨w.heap.size + 1 + 1, 0, none⟩) (Nat.zero_le _) _) (fun j _ _ hj => hoth j hj)
      (MMems_int u7 fun j hj => hoth j (fun e => (p4 (w.heap.size + 1 + 1) (by omega) (by omega)).2.2.2.2 _ _ _ p6 (by rw [← e]; exact List.mem_cons_of_mem _ hj)))
    exact ⟨g', st', z1, z2, u, z3, z4⟩
  | true =>
    rw [hnm] at X85
    gi_wp2_with ((try refine ⟨hdd _, ?_⟩); gi_at_call 85; fail)
    refine X85.mono ?_
    rintro e W4 ⟨rfl, g4, s4, b', cap', fp', m', p1, p2, p3, p4, p5, p6⟩
    obtain ⟨u0, arr0, el0, ha0, hs0, hu0, hb0t, hb00⟩ : ∃ u0 arr0 el0, W4.heap[b0]? = some (.cells arr0 el0 (0, 0)) ∧ arr0.size = 4 ∧ arr0.toList = [u0, .int .i64 i, .slice (some ⟨b', 0, none⟩) xs.length cap', .map m'] ∧ RC g4 W4 (.lst (tagOf (l.map (CC.encV TI.tok))) (l.map (CC.encV TI.tok))) [u0] ∧ b0 < W4.heap.size := by
      obtain ⟨t1, t2, t3, t4, arr, el, us, t5, t6, t7, t8⟩ := p2.box _ _ _ p5
      simp only [RCs] at t7
      obtain ⟨u1, u2, rfl, k1, u3, u4, rfl, k2, u5, u6, rfl, k3, u7, u8, rfl, k4, rfl⟩ := t7
      have k1' := RC_length _ _ _ _ k1
      obtain ⟨u0, rfl⟩ : ∃ u0, u1 = [u0] := by
        match u1, k1' with
        | [u0], _ => exact ⟨u0, rfl⟩
      simp only [RC] at k2 k3 k4
      rw [k2.1, k3.1, k4.1] at t8
      refine ⟨u0, arr, el, t5, t6, ?_, k1, (Array.getElem?_eq_some_iff.1 t5).1⟩
      rw [List.take_of_length_le (by simpa using Nat.le_of_eq t6)] at t8
      simpa using t8
    have harr0 : arr0 = #[u0, .int .i64 i, .slice (some ⟨b', 0, none⟩) xs.length cap', .map m'] := by
      apply Array.ext'; rw [hu0]
    subst harr0
    have hd0h := (p4 w.heap.size (by omega) (by omega)).1.trans hh0
    have hd1h := (p4 (w.heap.size + 1) (by omega) (by omega)).1.trans hh1
    have hd2h := (p4 (w.heap.size + 1 + 1) (by omega) (by omega)).1.trans hh2
    have hd0 : W4.cell? ⟨w.heap.size, 0, none⟩ = some (.pointer (some ⟨b0, 0, none⟩)) := by simp [World.cell?, hd0h]
    have hd1 : W4.cell? ⟨w.heap.size + 1, 0, none⟩ = some (.int .i64 far) := by simp [World.cell?, hd1h]
    have hd2 : W4.cell? ⟨w.heap.size + 1 + 1, 0, none⟩ = some (.bool false) := by simp [World.cell?, hd2h]
    have hb2 : W4.cell? ⟨b0, 2, none⟩ = some (.slice (some ⟨b', 0, none⟩) xs.length cap') := by simp [World.cell?, ha0]
    gi_wp2_with ((try refine ⟨hdd _, ?_⟩); gi_at_call 109; refine (back_in Fence.wide _ (hF _) rfl _ _ _ _).mono ?_; rintro e w' ⟨rfl, rfl⟩)
    obtain ⟨bs, rfl, hnd, hbl, hcap, _⟩ := p2.unpack p6
    rw [List.length_map] at hbl
    obtain ⟨⟨bs', arr, el, u1, u2, u3, u4, u5, u6, u7⟩, o2, o3⟩ := p2.ex.ob _ _ _ p6
    injection u1 with _ u1
    subst u1
    obtain ⟨W5, hW5⟩ : ∃ W5, W4.alloc (.cells #[.slice (some ⟨b', 0, none⟩) xs.length cap'] 64) = W5 := ⟨_, rfl⟩
    rw [hW5]
    have hsz5 : W5.heap.size = W4.heap.size + 1 := by rw [← hW5]; simp
    have hold5 : ∀ j, j < W4.heap.size → W5.heap[j]? = W4.heap[j]? := fun j hj => by rw [← hW5]; exact Below.heap_alloc _ _ _ hj
    have hB5 : Below 0 W4 W5 := by rw [← hW5]; exact (Below.refl 0 W4).alloc (Nat.zero_le _) _
    have hBs5 : W5.heap[W4.heap.size]? = some (.cells #[.slice (some ⟨b', 0, none⟩) xs.length cap'] 64 (0, 0)) := by rw [← hW5]; exact World.alloc_heap_new W4 _
    have hcB : W5.cell? ⟨W4.heap.size, 0, none⟩ = some (.slice (some ⟨b', 0, none⟩) bs.length cap') := by rw [hbl]; simp [World.cell?, hBs5]
    have hb'lt : b' < W4.heap.size := (o3 b' (by simp)).2.1
    have hcb : ∀ j, j < bs.length → W5.cell? ⟨b', j, none⟩ = some (.map (some (bs[j]?.getD 0))) := fun j hj => by
      have h7 := congrArg (fun l : List Value => l[j]?) u6
      simp only [List.getElem?_take, hj, if_true, List.getElem?_map] at h7
      simp only [World.cell?, hold5 b' hb'lt, u3]
      rw [Array.getElem?_toList] at h7
      simp only [h7]
      rw [List.getElem?_eq_getElem hj]; rfl
    have hbs4 : ∀ j ∈ bs, j < W4.heap.size := fun j hj => (o3 j (by simp [hj])).2.1
    have hn2 : w.heap.size + 1 + 1 < W4.heap.size := by omega
    have hII : IsI W5 W5 bs xs (w.heap.size + 1 + 1) false := ⟨Below.refl _ _, fun _ _ _ _ => rfl, fun i j c e1 e2 => by
      obtain ⟨ar, ck, k1, k2⟩ := MMems_get u7 i j c e1 e2
      exact ⟨ar, ck, (hold5 j (hbs4 j (List.mem_of_getElem? e1))).trans k1, k2⟩, 4, (hold5 _ hn2).trans hd2h⟩
    obtain ⟨nm, hnmD⟩ : ∃ nm, nm = (l.getD (i + far).toNat tokD).text := ⟨_, rfl⟩
    obtain ⟨hin1, hin2, hin3, hin4⟩ := hin hnm
    have hn2b : w.heap.size + 1 + 1 ∉ bs := fun hm => (p4 (w.heap.size + 1 + 1) (by omega) (by omega)).2.2.2.2 _ _ _ p6 (List.mem_cons_of_mem _ hm)
    have endW : ∀ (W : World) (D : Nat) (r : Bool), IsI W5 W bs xs (w.heap.size + 1 + 1) r → W5.heap.size ≤ D → (W.putObj D (.deferred none)).cell? ⟨w.heap.size + 1 + 1, 0, none⟩ = some (.bool r) ∧ ∃ g' st', Step B g w g' (W.putObj D (.deferred none)) ∧ Al.Inv B g' st' (W.putObj D (.deferred none)) ∧ ∃ u, RV g' (W.putObj D (.deferred none)) u (.bool r) ∧ CPost CC syn [parK] [.bool] [.at (.pointer (some ⟨b0, 0, none⟩))] (some (((l, i, xs, (), ()), ()), (r, ()))) (.ret u) st' := by
      intro W D r hI hD
      obtain ⟨tt, hres⟩ := hI.res
      have hoth : ∀ j, j ≠ D → (W.putObj D (.deferred none)).heap[j]? = W.heap[j]? := fun j hj => World.putObj_heap_other hj
      refine ⟨by rw [show (W.putObj D (.deferred none)).cell? ⟨w.heap.size + 1 + 1, 0, none⟩ = W.cell? ⟨w.heap.size + 1 + 1, 0, none⟩ from World.cell?_of_block (hoth _ (fun e => by replace e : w.heap.size + 1 + 1 = D := e; omega))]; simp [World.cell?, hres], ?_⟩
      refine fin g4 s4 b' cap' _ m' W4 p1 p2 p3 p4 p5 p6 _ r (hB5.trans (hI.below.trans ⟨rfl, rfl, rfl, by simp [World.putObj], fun k hk => absurd hk (Nat.not_lt_zero k)⟩)) (fun j h1 h2 h3 => ?_) (MMems_at (g := g4) (w := W4) hbl fun i' j c q1 q2 => ?_)
      · rw [hoth j (by omega), hI.blk j (by omega) h2 h3, hold5 j h1]
      · obtain ⟨ar, ck, k1, k2⟩ := hI.mp i' j c q1 q2
        have := hbs4 j (List.mem_of_getElem? q1)
        exact ⟨ar, ck, (hoth j (by omega)).trans k1, k2⟩
    have enc : ∀ j ∈ bs, j < W5.heap.size := fun j hj => by have := hbs4 j hj; omega
    refine wpIn_rangeFunc_ownG rfl (by omega) (gf := 129) (lb := #[.pointer (some ⟨W4.heap.size, 0, none⟩)]) (by simp [Act.eval]) (hF 129) (enters_of Tryz.func129 (by kernel_rfl) rfl)
      (back_stops Fence.wide 5 (hF _) rfl (by omega) W4.heap.size b' cap' bs (by omega) W5 (by omega) (by omega) hcB hcb) (fun h k => h.trans k) (fun W l o o' _ hl h1 _ => KpB.put W l o o' hl h1) (Below.refl _ _) (fun _ => rfl)
      (fun pre W => IsI W5 W bs xs (w.heap.size + 1 + 1) false ∧ ∀ x ∈ pre, zfM nm (xs[x.1]?.getD []) = 0)
      (fun c pre W => c = .ret ∧ ∃ ini last, pre = ini ++ [last] ∧ (∀ x ∈ ini, zfM nm (xs[x.1]?.getD []) = 0) ∧ zfM nm (xs[last.1]?.getD []) ≠ 0 ∧ IsI W5 W bs xs (w.heap.size + 1 + 1) (zfM nm (xs[last.1]?.getD []) == 2))
      (fun pre A C row h hg hr => ⟨h.1.grown hbl enc (by omega) hg (fun k e => by obtain ⟨h1, h2⟩ := hr k e; exact ⟨h1, h2⟩), h.2⟩)
      (fun c pre A C row h hg hr => by
        obtain ⟨h0, ini, last, h1, h2, h3, h4⟩ := h
        exact ⟨h0, ini, last, h1, h2, h3, h4.grown hbl enc (by omega) hg (fun k e => by obtain ⟨h1, h2⟩ := hr k e; exact ⟨h1, h2⟩)⟩)
      ⟨hII, by simp⟩
      (fun x => { tmps := #[.pointer (some ⟨b0, 0, none⟩), .int .i64 far, .pointer (some ⟨w.heap.size, 0, none⟩), .pointer (some ⟨w.heap.size + 1, 0, none⟩), .pointer (some ⟨w.heap.size + 1 + 1, 0, none⟩), undef, .map (some (bs[x.1]?.getD 0)), undef, .pointer (some ⟨b0, 0, none⟩), .int .i64 far, .bool true, .bool false, .pointer (some ⟨b0, 0, none⟩), .pointer (some ⟨b0, 0, none⟩), .pointer (some ⟨b0, 2, none⟩), .slice (some ⟨b', 0, none⟩) xs.length cap', .func (.func 129) #[] #[.pointer (some ⟨W4.heap.size, 0, none⟩)], .int .i64 (x.1 : Int), .map (some (bs[x.1]?.getD 0)), undef, undef, undef, undef, undef, undef, undef, undef, undef, undef, undef, undef, undef, undef, undef, undef, undef, undef, undef], defers := [] })
      ?assign ?body ?done ?stop
    case assign =>
      intro l x W K hK
      gi_wp2
      exact hK
    case body =>
      rintro l' pre x W ⟨hI, hzz⟩ hlen
      have hx := x.2
      obtain ⟨bj, hbj⟩ : ∃ bj, bs[x.1]? = some bj := ⟨bs[x.1], by simp⟩
      obtain ⟨c, hc⟩ : ∃ c, xs[x.1]? = some c := ⟨xs[x.1]'(by omega), by simp⟩
      have hbjm : bj ∈ bs := List.mem_of_getElem? hbj
      have hbelow := hI.below.size
      have hb0n : b0 ∉ bs := fun hm => by
        have := (o3 b0 (by simp [hm])).2.2.2.1
        rw [this] at p5; cases p5
      have hb0n2 : b0 ≠ w.heap.size + 1 + 1 := fun e => by
        have := (p4 (w.heap.size + 1 + 1) (by omega) (by omega)).2.1
        rw [← e, p5] at this; cases this
      have hn0 : w.heap.size ∉ bs := fun hm => (p4 w.heap.size (by omega) (by omega)).2.2.2.2 _ _ _ p6 (List.mem_cons_of_mem _ hm)
      have hn1 : w.heap.size + 1 ∉ bs := fun hm => (p4 (w.heap.size + 1) (by omega) (by omega)).2.2.2.2 _ _ _ p6 (List.mem_cons_of_mem _ hm)
      have hWb : ∀ b, b < W4.heap.size → b ∉ bs → b ≠ w.heap.size + 1 + 1 → W.heap[b]? = W4.heap[b]? := fun b h1 h2 h3 => (hI.blk b (by omega) h2 h3).trans (hold5 b h1)
      have hwm0 : ∀ b, (b ∈ bs ∨ b = w.heap.size + 1 + 1) → g4.wm b = 0 := by
        rintro b (h | rfl)
        · exact (o3 b (by simp [h])).2.2.1
        · exact (p4 (w.heap.size + 1 + 1) (by omega) (by omega)).2.2.1
      obtain ⟨g5, hg5⟩ : ∃ g5 : Gh, g5 = ⟨fun b => if b ∈ bs ∨ b = w.heap.size + 1 + 1 then 0 else if b < W5.heap.size then max (g4.wm b) (match W.heap[b]? with | some (.cells arr _ _) => arr.size | _ => 0) else 0, g4.tb, ⟨fun b => decide (b < W.heap.size) && decide (b ∉ bs) && decide (b ≠ w.heap.size + 1 + 1), fun _ => false⟩⟩ := ⟨_, rfl⟩
      have hwm5 : ∀ b, g5.wm b = if b ∈ bs ∨ b = w.heap.size + 1 + 1 then 0 else if b < W5.heap.size then max (g4.wm b) (match W.heap[b]? with | some (.cells arr _ _) => arr.size | _ => 0) else 0 := fun b => by rw [hg5]
      have hfr5 : ∀ b, g5.fr b = true ↔ b < W.heap.size ∧ b ∉ bs ∧ b ≠ w.heap.size + 1 + 1 := fun b => by rw [hg5]; simp [and_assoc]
      have hle5 : ∀ b, g4.wm b ≤ g5.wm b := fun b => by
        rw [hwm5]
        split
        · rename_i h; rw [hwm0 b h]; exact Nat.zero_le _
        · split
          · exact Nat.le_max_left _ _
          · rename_i h; rw [p2.fresh b (by omega)]; exact Nat.zero_le _
      have hL5 : Later g4 W4 g5 W := ⟨hle5, fun t d e => by rw [hg5]; exact e, fun b o ho => by
        have hb4 : b < W4.heap.size := by
          rcases Nat.lt_or_ge b W4.heap.size with h | h
          · exact h
          · rw [p2.fresh b h] at ho; omega
        have hnk : ¬ (b ∈ bs ∨ b = w.heap.size + 1 + 1) := fun h => by rw [hwm0 b h] at ho; omega
        simp only [not_or] at hnk
        exact World.cell?_of_block (hWb b hb4 hnk.1 hnk.2)⟩
      have hat : ∀ b (arr : Array Value) el m (ds : List Value), b < W4.heap.size → b ∉ bs → b ≠ w.heap.size + 1 + 1 → W4.heap[b]? = some (.cells arr el m) → arr.toList = ds → At g5 W b 0 ds := fun b arr el m ds h1 h2 h3 h4 h5 k u hk => by
        have hh : W.heap[b]? = some (.cells arr el m) := (hWb b h1 h2 h3).trans h4
        subst h5
        rw [Array.getElem?_toList] at hk
        have hks := (Array.getElem?_eq_some_iff.1 hk).1
        refine ⟨by simp [World.cell?, hh, hk], ?_⟩
        rw [hwm5, if_neg (by simp only [not_or]; exact ⟨h2, h3⟩), if_pos (by omega), hh]
        simp only
        omega
      have hMM : MMems g5 W bs (xs.map trMC) := MMems_at (g := g4) (w := W4) hbl hI.mp
      have hInv : Al.Inv B g5 ⟨[(w.heap.size + 1 + 1, [.at (.bool false)], 1)], [], s4.nx, mps bs (xs.map trMC)⟩ W := by
        have hB := hi.base
        have hlk : ∀ b c, Al.look [(w.heap.size + 1 + 1, [V.at (.bool false)], 1)] b = some c → b = w.heap.size + 1 + 1 ∧ c = ([V.at (.bool false)], 1) := fun b c h => by
          by_cases e : w.heap.size + 1 + 1 = b
          · subst e; simp [Al.look] at h; exact ⟨rfl, h.symm⟩
          · simp [Al.look, e] at h
        refine ⟨by omega, fun b cs k h => ?_, fun t ht => (by cases ht), fun t ht => (by cases ht), fun t ht => (by cases ht), by simp, fun b hb => ?_, fun t ht => by rw [hg5]; exact p2.names t ht, fun b hb => ?_, fun b o fp h => ?_, fun b o fp b2 o2 fp2 j h1 h2 h3 h4 => ?_, fun t ht => by rw [hg5] at ht; cases ht⟩
        · obtain ⟨rfl, e⟩ := hlk b _ h
          injection e with e1 e2
          subst e1; subst e2
          obtain ⟨tt, hres⟩ := hI.res
          exact ⟨by omega, by rw [hwm5, if_pos (.inr rfl)], Nat.le_refl _, by simp [V.isOne], _, _, [.bool false], hres, rfl, by simp [RCs, RC, one], rfl⟩
        · rw [hwm5]
          split
          · rfl
          · rw [if_neg (by omega)]
        · obtain ⟨q1, q2, q3⟩ := (hfr5 b).1 hb
          refine ⟨q1, ?_, fun t ht => (by cases ht)⟩
          cases e : Al.look [(w.heap.size + 1 + 1, [V.at (.bool false)], 1)] b with
          | none => rfl
          | some c => exact absurd (hlk b c e).1 q3
        · obtain ⟨d, rfl, rfl, hm, hd⟩ := mps_mem hMM h
          refine ⟨⟨rfl, hd⟩, by simp, fun j hj => ?_⟩
          simp only [List.mem_singleton] at hj
          subst hj
          have q := o3 j (by simp [hm])
          refine ⟨q.1, by omega, by rw [hwm5, if_pos (.inl hm)], ?_, fun t ht => (by cases ht), ?_⟩
          · cases e : Al.look [(w.heap.size + 1 + 1, [V.at (.bool false)], 1)] j with
            | none => rfl
            | some c => exact absurd ((hlk j c e).1 ▸ hm) hn2b
          · cases e : g5.fr j with
            | false => rfl
            | true => exact absurd hm ((hfr5 j).1 e).2.1
        · obtain ⟨_, _, rfl, _, _⟩ := mps_mem hMM h1
          obtain ⟨_, _, rfl, _, _⟩ := mps_mem hMM h2
          simp only [List.mem_singleton] at h3 h4
          exact h3.symm.trans h4
      have htoks : RC g5.bare W (.lst (tagOf (l.map (CC.encV TI.tok))) (l.map (CC.encV TI.tok))) [u0] := by
        have := RC_untag1_bare (RC_later hL5 _ _ hb0t) rfl
        rw [untag_dl] at this; exact this
      have hagg : RC g5.bare W (.agg [.lst (tagOf (l.map (CC.encV TI.tok))) (l.map (CC.encV TI.tok)), .at (.int .i64 i), .at (.slice (some ⟨b', 0, none⟩) xs.length cap'), .at (.map m')]) [u0, .int .i64 i, .slice (some ⟨b', 0, none⟩) xs.length cap', .map m'] := by
        simp only [RC, RCs]
        exact ⟨[u0], _, rfl, htoks, [_], _, rfl, ⟨rfl, rfl⟩, [_], _, rfl, ⟨rfl, rfl⟩, [_], _, rfl, ⟨rfl, rfl⟩, rfl⟩
      have hE : ∀ k, RV g5 W (Env.get [(2, .rptr (.rptr (.agg [.lst (tagOf (l.map (CC.encV TI.tok))) (l.map (CC.encV TI.tok)), .at (.int .i64 i), .at (.slice (some ⟨b', 0, none⟩) xs.length cap'), .at (.map m')]))), (3, .rptr (.at (.int .i64 far))), (4, .at (.pointer (some ⟨w.heap.size + 1 + 1, 0, none⟩))), (6, .at (.map (some bj)))] k)
          ((#[.pointer (some ⟨b0, 0, none⟩), .int .i64 far, .pointer (some ⟨w.heap.size, 0, none⟩), .pointer (some ⟨w.heap.size + 1, 0, none⟩), .pointer (some ⟨w.heap.size + 1 + 1, 0, none⟩), undef, .map (some (bs[x.1]?.getD 0)), undef, .pointer (some ⟨b0, 0, none⟩), .int .i64 far, .bool true, .bool false, .pointer (some ⟨b0, 0, none⟩), .pointer (some ⟨b0, 0, none⟩), .pointer (some ⟨b0, 2, none⟩), .slice (some ⟨b', 0, none⟩) xs.length cap', .func (.func 129) #[] #[.pointer (some ⟨W4.heap.size, 0, none⟩)], .int .i64 (x.1 : Int), .map (some (bs[x.1]?.getD 0)), undef, undef, undef, undef, undef, undef, undef, undef, undef, undef, undef, undef, undef, undef, undef, undef, undef, undef, undef] : Array Value).getD k undef) := by
        intro k1
        by_cases e2 : k1 = 2
        · subst e2
          refine RV_rptr_mk ?_ (hat _ _ _ _ [_] (by omega) hn0 (by omega) hd0h rfl)
          simp only [RC]
          exact ⟨b0, 0, _, rfl, hagg, hat b0 _ _ _ _ hb00 hb0n hb0n2 ha0 rfl⟩
        · by_cases e3 : k1 = 3
          · subst e3
            refine RV_rptr_mk ?_ (hat _ _ _ _ [_] (by omega) hn1 (by omega) hd1h rfl)
            simp [RC, one]
          · by_cases e4 : k1 = 4
            · subst e4; exact RV_at_mk rfl
            · by_cases e6 : k1 = 6
              · subst e6
                rw [hbj]
                exact RV_at_mk rfl
              · have : Env.get [(2, .rptr (.rptr (.agg [.lst (tagOf (l.map (CC.encV TI.tok))) (l.map (CC.encV TI.tok)), .at (.int .i64 i), .at (.slice (some ⟨b', 0, none⟩) xs.length cap'), .at (.map m')]))), (3, .rptr (.at (.int .i64 far))), (4, .at (.pointer (some ⟨w.heap.size + 1 + 1, 0, none⟩))), (6, .at (.map (some bj)))] k1 = V.any := by
                  simp only [Env.get, Ne.symm e2, Ne.symm e3, Ne.symm e4, Ne.symm e6, if_false]
                rw [this]
                trivial
      have hglob : GlobOk B g5.wm W := by
        have hB := hi.base
        have hbel : Below B w W := by
          have hbb : ∀ k, k < B → k ∉ bs ∧ k ≠ w.heap.size + 1 + 1 := fun k hk => ⟨fun hm => by have := (o3 k (by simp [hm])).1; omega, by omega⟩
          refine ⟨hI.below.os.trans (hB5.os.trans p1.below.os), hI.below.tape.trans (hB5.tape.trans p1.below.tape), hI.below.output.trans (hB5.output.trans p1.below.output), by omega, fun k hk => ?_⟩
          exact (hWb k (by omega) (hbb k hk).1 (hbb k hk).2).trans (p1.below.block k hk)
        exact hgl.below hbel fun b => Nat.le_trans (p1.later.wm b) (hle5 b)
      have hadd : IntKind.i64.wrap (i + far) = i + far := IntWalk.i64_in _ (by omega)
      obtain ⟨tk, htk⟩ : ∃ tk, l.getD (i + far).toNat tokD = tk := ⟨_, rfl⟩
      have hidx : (l.map (CC.encV TI.tok)).getD (i + far).toNat .any = .agg [.at (.int .i64 tk.kind), .at (.string ⟨tk.text.toArray⟩), .at (.int .i64 tk.file), .at (.int .i64 tk.ffrom), .at (.int .i64 tk.fto), .at (.bool tk.blank)] := by
        have hlt : (i + far).toNat < l.length := by omega
        rw [← htk, List.getD_eq_getElem?_getD, show (l.map (CC.encV TI.tok))[(i + far).toNat]? = (l[(i + far).toNat]?).map (CC.encV TI.tok) from List.getElem?_map, List.getD_eq_getElem?_getD, List.getElem?_eq_getElem hlt]
        rfl
      rw [htk] at hnmD
      have hlook : Al.look [(w.heap.size + 1 + 1, [V.at (.bool false)], 1)] (w.heap.size + 1 + 1) = some ([.at (.bool false)], 1) := by simp [Al.look]
      have hol : olook (mps bs (xs.map trMC)) bj = some (.mp (trMC c), [bj]) := by
        have h1 := Mps_mps (bs := bs) (xs := xs.map trMC) [] (List.nodup_cons.1 hnd).2 (by simpa using hbl)
        rw [List.append_nil] at h1
        exact Mps.at h1 hbj (by rw [List.getElem?_map, hc]; rfl)
      obtain ⟨st5, hst5⟩ : ∃ st5 : S, st5 = ⟨[(w.heap.size + 1 + 1, [.at (.bool false)], 1)], [], s4.nx, mps bs (xs.map trMC)⟩ := ⟨_, rfl⟩
      rw [← hst5] at hInv
      have l1 : Al.look st5.box (w.heap.size + 1 + 1) = some ([.at (.bool false)], 1) := by rw [hst5]; exact hlook
      have l2 : olook st5.ob bj = some (.mp (trMC c), [bj]) := by rw [hst5]; exact hol
      have l3 : st5.ob = mps bs (xs.map trMC) := by rw [hst5]
      have hz : zfM nm (xs[x.1]?.getD []) = (mtGet c nm).getD 0 := by rw [hc]; rfl
      refine wpIn_fen (wpIn_mono ((?_ : awp Tryz.prog ⟨B, ⟨38, []⟩, some l', []⟩ _ (fun ex e' s' => (ex = .normal ∧ (mtGet c nm).getD 0 = 0 ∧ Al.look s'.box (w.heap.size + 1 + 1) = some ([.at (.bool false)], 1) ∧ s'.ob = mps bs (xs.map trMC)) ∨ (ex = .ret ∧ (mtGet c nm).getD 0 ≠ 0 ∧ Al.look s'.box (w.heap.size + 1 + 1) = some ([.at (.bool ((mtGet c nm).getD 0 == 2))], 1) ∧ s'.ob = mps bs (xs.map trMC))) _ st5) g5 _ W ⟨hInv, hE, ⟨rfl, fun _ hp => (by cases hp)⟩, rfl, hglob⟩) ?_)
      · exact round76 B l' _ _ _ i far _ _ _ bs bj xs c nm tk st5 (by omega) (by rw [show (l.map (CC.encV TI.tok)).length = l.length from List.length_map _]; omega) hadd hidx hnmD l1 l2 l3
      · rintro ex a2 w2 ⟨g', e', s', q1, q2, q3⟩
        have hsame : ∀ b, b < W.heap.size → b ∉ bs → b ≠ w.heap.size + 1 + 1 → w2.heap[b]? = W.heap[b]? := fun b h1 h2 h3 => (q1.fz b ((hfr5 b).2 ⟨h1, h2, h3⟩)).1
        have hob : s'.ob = mps bs (xs.map trMC) := by rcases q3 with ⟨_, _, _, h⟩ | ⟨_, _, _, h⟩ <;> exact h
        have hI2 : ∀ r, Al.look s'.box (w.heap.size + 1 + 1) = some ([.at (.bool r)], 1) → IsI W5 w2 bs xs (w.heap.size + 1 + 1) r := fun r hr => by
          refine ⟨hI.below.trans (q1.below.mono (Nat.zero_le _)), fun b h1 h2 h3 => (hsame b (by omega) h2 h3).trans (hI.blk b h1 h2 h3), fun i' j d h1 h2 => ?_, ?_⟩
          · have h3 := Mps_mps (bs := bs) (xs := xs.map trMC) [] (List.nodup_cons.1 hnd).2 (by simpa using hbl)
            rw [List.append_nil, ← hob] at h3
            have h4 := Mps.at h3 h1 (c := trMC d) (by rw [List.getElem?_map, h2]; rfl)
            obtain ⟨⟨_, arr, ck, h5, h6⟩, _⟩ := q2.inv.ex.ob _ _ _ h4
            exact ⟨arr, ck, h5, MapR_int h6⟩
          · obtain ⟨t1, t2, t3, t4, arr, el, us, t5, t6, t7, t8⟩ := q2.inv.box _ _ _ hr
            simp only [RCs, RC] at t7
            obtain ⟨u1, u2, rfl, ⟨rfl, _⟩, rfl⟩ := t7
            have harr : arr = #[.bool r] := by
              apply Array.ext'
              rw [List.take_of_length_le (by simpa using Nat.le_of_eq t6)] at t8
              simpa using t8
            exact ⟨el, by rw [t5, harr]⟩
        have hkf : KeepsFrom W5.heap.size W w2 := ⟨q1.below.size, fun k o hk hko hc => by
          have hklt := (Array.getElem?_eq_some_iff.1 hko).1
          exact (hsame k hklt (fun hm => by have := hbs4 k hm; omega) (by omega)).trans hko⟩
        have hkp : KpB W4.heap.size b' bs.length W w2 := by
          have hb'n : b' ∉ bs := (List.nodup_cons.1 hnd).1
          have hb'2 : b' ≠ w.heap.size + 1 + 1 := fun e => (p4 (w.heap.size + 1 + 1) (by omega) (by omega)).2.2.2.2 _ _ _ p6 (by simp [e])
          refine ⟨fun v hv => (World.cell?_of_block (hsame W4.heap.size (by omega) (fun hm => by have := hbs4 _ hm; omega) (by omega))).trans hv, fun j v _ hv => (World.cell?_of_block (hsame b' (by omega) hb'n hb'2)).trans hv⟩
        rcases q3 with ⟨rfl, k1, k2, _⟩ | ⟨rfl, k1, k2, _⟩
        · refine ⟨hkf, hkp, hI2 _ k2, fun x' hx' => ?_⟩
          rcases List.mem_append.1 hx' with h | h
          · exact hzz x' h
          · simp only [List.mem_singleton] at h
            subst h; rw [hz]; exact k1
        · exact ⟨hkf, rfl, pre, x, rfl, hzz, by rw [hz]; exact k1, by rw [hz]; exact hI2 _ k2⟩
    case done =>
      rintro D ys W hD rfl ⟨hI, hz⟩ hK
      obtain ⟨tt, hres⟩ := hI.res
      have hcw : W.cell? ⟨w.heap.size + 1 + 1, 0, none⟩ = some (.bool false) := by simp [World.cell?, hres]
      have hfw : W.frozen? ⟨w.heap.size + 1 + 1, 0, none⟩ = false := by simp [World.frozen?, hres]
      gi_wp2
      have hI2 := hI.set hn2b false
      have hK2 : (W.setCell ⟨w.heap.size + 1 + 1, 0, none⟩ (.bool false)).heap[D]? = some (.deferred (some [])) := (Below.heap_setCell _ _ _ D (fun e => by replace e : D = w.heap.size + 1 + 1 := e; omega)).trans hK
      refine ⟨by simp, .inl ⟨_, _, rfl, run_takeDeferred hK2, ?_⟩⟩
      obtain ⟨hcr, g', st', z1, z2, u, z3, z4⟩ := endW _ D false hI2 hD
      refine ⟨_, results_bool rfl rfl ⟨hasT4, by rw [cells4]; rfl, aggT4.symm⟩ hcr, ?_⟩
      have hT : isTyS (l.getD (i + far).toNat tokD).text xs.reverse = false := by
        rw [← hnmD, rev_down xs bs.length hbl]
        refine isTyS_none fun m hm => ?_
        obtain ⟨x, hx, rfl⟩ := List.mem_map.1 hm
        exact hz x (by rw [downN, List.take_of_length_le (by simp)]; exact hx)
      rw [List.getD_eq_getElem?_getD] at hT
      refine ⟨g', z1, st', z2, u, z3, ?_⟩
      rw [hT]; exact z4
    case stop =>
      rintro D c pre W hD ⟨k, hk, hpre⟩ ⟨rfl, ini, last, e1, e2, e3, hI⟩ hK
      gi_wp2
      refine ⟨by simp, .inl ⟨_, _, rfl, run_takeDeferred hK, ?_⟩⟩
      obtain ⟨hcr, g', st', z1, z2, u, z3, z4⟩ := endW _ D _ hI hD
      refine ⟨_, results_bool rfl rfl ⟨hasT4, by rw [cells4]; rfl, aggT4.symm⟩ hcr, ?_⟩
      have hT : isTyS (l.getD (i + far).toNat tokD).text xs.reverse = (zfM nm (xs[last.1]?.getD []) == 2) := by
        rw [← hnmD, rev_down xs bs.length hbl, ← List.take_append_drop k ((List.finRange bs.length).reverse), show (List.finRange bs.length).reverse.take k = ini ++ [last] from hpre.symm.trans e1]
        rw [List.map_append, List.map_append, List.append_assoc]
        refine isTyS_hit (fun m hm => ?_) e3
        obtain ⟨x, hx, rfl⟩ := List.mem_map.1 hm
        exact e2 x hx
      rw [List.getD_eq_getElem?_getD] at hT
      refine ⟨g', z1, st', z2, u, z3, ?_⟩
      rw [hT]; exact z4
end Go.Proofs.YtnamdpbcpnnhaaaGreatDoor
end
section
set_option linter.unusedVariables false
set_option linter.unusedSimpArgs false
namespace Go.Proofs.YtnamdpbcpnnhaaaGreatDoor
open Go.Al Go.Den
def c33 (x : List Str × Str × Unit) : Option (Bool × Unit) := if x.1.length < 1000 then some (x.1.contains x.2.1, ()) else none
theorem sh33_eq (fu : Nat) (hfu : 1000 < fu) (nf : Nat → Bool) (x0 : List Str) (x1 : Str) (h : x0.length < 1000) : sh33 fu nf x0 x1 = some (x0.contains x1, ()) := by
  unfold sh33
  refine iter_ind (fun s => ∃ k : Nat, s = ((((k : Int), ()), ()) : (Int × PUnit) × PUnit) ∧ k ≤ x0.length ∧ (x0.take k).contains x1 = false) (fun s => x0.length - s.1.1.toNat) ?_ fu _ ⟨0, rfl, Nat.zero_le _, by simp⟩ (by simp; omega)
  rintro rec s ⟨k, rfl, hk, hc⟩ hrec
  simp only [ilt, lenI, inB, ile]
  by_cases hlt : k < x0.length
  · have h1 : ((k : Int) < (x0.length : Int)) := by omega
    have h2 : (0 : Int) ≤ (k : Int) := by omega
    simp only [h1, h2, decide_true, Bool.and_self, cond_true, Int.toNat_natCast]
    have hg : x0.getD k [] = x0[k] := by simp [List.getD_eq_getElem?_getD, hlt]
    rw [hg]
    by_cases e : x1 = x0[k]
    · have : seq x1 x0[k] = true := by simp [seq, e]
      rw [this, cond_true]
      have hm : x1 ∈ x0 := by rw [e]; exact List.getElem_mem _
      simp [hm]
    · have : seq x1 x0[k] = false := by simp [seq, e]
      rw [this, cond_false]
      have hw : iadd .i64 (k : Int) 1 = ((k + 1 : Nat) : Int) := by unfold iadd; rw [IntWalk.i64_in _ (by omega)]; omega
      refine hrec _ ⟨k + 1, by rw [hw], hlt, ?_⟩ (by simp only [hw]; simp; omega)
      rw [List.take_succ_eq_append_getElem hlt]
      simp only [List.contains_eq_mem, List.mem_append, List.mem_singleton, decide_eq_false_iff_not, not_or] at hc ⊢
      exact ⟨hc, e⟩
  · obtain rfl : k = x0.length := by omega
    have h1 : ¬ ((x0.length : Int) < (x0.length : Int)) := by omega
    simp only [h1, decide_false, cond_false]
    rw [List.take_length] at hc
    rw [hc]; rfl
theorem ok33 : ConOk CC Tryz.prog 33 ⟨as33, rs33, c33⟩ := by
  refine (con33 1001).sub ?_
  rintro ⟨x0, x1, u⟩ y hy
  unfold c33 at hy
  split at hy
  · rename_i h
    injection hy with hy
    subst hy
    exact sh33_eq 1001 (by omega) _ _ _ h
  · cases hy
def c15 (x : Str × Unit) : Option (Bool × Unit) := some (kwL.contains x.1, ())
theorem ok15 : ConOk CC Tryz.prog 15 ⟨as15, rs15, c15⟩ := by
  refine (con15 0 c33 ok33).sub ?_
  rintro ⟨x0, u⟩ y hy
  injection hy with hy
  subst hy
  rfl
def c143 (x : Str × Unit) : Option (Int × Unit) := sh143 0 (fun _ => false) x.1
theorem ok143 : ConOk CC Tryz.prog 143 ⟨as143, rs143, c143⟩ := con143 0
noncomputable def b72 (fu : Nat) : denKs ([.int .i64] : LK) → MM (denKs ([.str] : LK)) := mJ (sh72 fu )
theorem ok72 (fu : Nat) : CPOk CC Tryz.prog syn 72 (cJ (([.int .i64] : LK)) (([.str] : LK)) (b72 fu)) := con72 fu
noncomputable def b54 (fu : Nat) : denKs ([.dl TI.str] : LK) → MM (denKs ([.bool] : LK)) := mJ (sh54 fu c33 (b72 fu))
theorem ok54 (fu : Nat) : CPOk CC Tryz.prog syn 54 (cJ (([.dl TI.str] : LK)) (([.bool] : LK)) (b54 fu)) := con54 fu c33 ok33 (b72 fu) (ok72 fu)
noncomputable def b85 (fu : Nat) : denKs ([.int .i64] : LK) → MM (denKs ([.bool] : LK)) := mM (sh85 fu c15)
theorem ok85 (fu : Nat) : CPOk CC Tryz.prog syn 85 (cM (([.int .i64] : LK)) (([.bool] : LK)) (b85 fu)) := con85 fu c15 ok15
noncomputable def b112 (fu : Nat) : denKs ([.int .i64] : LK) → MM (denKs ([.bool] : LK)) := mM (sh112 fu )
theorem ok112 (fu : Nat) : CPOk CC Tryz.prog syn 112 (cM (([.int .i64] : LK)) (([.bool] : LK)) (b112 fu)) := con112 fu
noncomputable def b73 (fu : Nat) : denKs ([] : LK) → MM (denKs ([.st TI.node] : LK)) := mM (sh73 fu )
theorem ok73 (fu : Nat) : CPOk CC Tryz.prog syn 73 (cM (([] : LK)) (([.st TI.node] : LK)) (b73 fu)) := con73 fu (ok77)
noncomputable def b78 (fu : Nat) : denKs ([.str] : LK) → MM (denKs ([.st TI.node] : LK)) := mM (sh78 fu (b54 fu) (b73 fu))
theorem ok78 (fu : Nat) : CPOk CC Tryz.prog syn 78 (cM (([.str] : LK)) (([.st TI.node] : LK)) (b78 fu)) := con78 fu (b54 fu) (ok54 fu) (b73 fu) (ok73 fu) (ok77)
noncomputable def b80 (fu : Nat) : denKs ([] : LK) → MM (denKs ([.st TI.node] : LK)) := mM (sh80 fu (b73 fu) (b85 fu))
theorem ok80 (fu : Nat) : CPOk CC Tryz.prog syn 80 (cM (([] : LK)) (([.st TI.node] : LK)) (b80 fu)) := con80 fu (b73 fu) (ok73 fu) (ok77) (b85 fu) (ok85 fu)
noncomputable def b76 (fu : Nat) : Int × Unit → MM (Bool × Unit) := c76 (b85 fu)
theorem ok76' (fu : Nat) : CPOk CC Tryz.prog syn 76 (cM ([.int .i64] : LK) ([.bool] : LK) (b76 fu)) := ok76 _ (ok85 fu)
noncomputable def b84 (fu : Nat) : denKs ([.int .i64] : LK) → MM (denKs ([.bool] : LK)) := mM (sh84 fu c33 (b72 fu) (b76 fu))
theorem ok84 (fu : Nat) : CPOk CC Tryz.prog syn 84 (cM (([.int .i64] : LK)) (([.bool] : LK)) (b84 fu)) := con84 fu c33 ok33 (b72 fu) (ok72 fu) (b76 fu) (ok76' fu)
structure RS where
  c53 : denKs ([] : LK) → MM (denKs ([.st TI.node, .bool] : LK))
  c74 : denKs ([] : LK) → MM (denKs ([.st TI.node] : LK))
  c107 : denKs ([] : LK) → MM (denKs ([.st TI.node] : LK))
  c75 : denKs ([] : LK) → MM (denKs ([.st TI.node] : LK))
  c108 : denKs ([] : LK) → MM (denKs ([.st TI.node] : LK))
  c79 : denKs ([] : LK) → List Nd → MM (denKs ([] : LK) × List Nd)
  c82 : denKs ([] : LK) → List Nd → MM (denKs ([] : LK) × List Nd)
  c56 : denKs ([] : LK) → MM (denKs ([.st TI.node, .str, .bool] : LK) × Option (Option MT))
  c130 : denKs ([.bool] : LK) → MM (denKs ([.st TI.node, .str, .bool] : LK))
  c81 : denKs ([] : LK) → MM (denKs ([.st TI.node] : LK) × Option MT)
  c110 : denKs ([] : LK) → MM (denKs ([.st TI.node] : LK))
  c151 : denKs ([] : LK) → MM (denKs ([.st TI.node] : LK))
  c83 : denKs ([] : LK) → MM (denKs ([.st TI.node] : LK))
  c57 : denKs ([.st TI.node, .str, .bool] : LK) → MM (denKs ([.st TI.node] : LK))
  c55 : denKs ([.ag [.ow true TI.node], .bool] : LK) → MM (denKs ([.st TI.node] : LK))
  c37 : denKs ([.bool] : LK) → MM (denKs ([.st TI.node] : LK))
  c60 : denKs ([] : LK) → MM (denKs ([.st TI.node] : LK))
  c86 : denKs ([] : LK) → MM (denKs ([.st TI.node] : LK))
  c116 : denKs ([.ag [.ow true TI.node]] : LK) → MM (denKs ([.st TI.node] : LK))
  c115 : denKs ([] : LK) → List Nd → MM (denKs ([] : LK) × List Nd)
  c117 : denKs ([.str] : LK) → List Nd → MM (denKs ([] : LK) × List Nd)
  c113 : denKs ([] : LK) → MM (denKs ([.st TI.node] : LK))
  c111 : denKs ([] : LK) → MM (denKs ([.st TI.node] : LK))
  c114 : denKs ([] : LK) → MM (denKs ([.st TI.node] : LK))
  c131 : denKs ([.int .i64] : LK) → MM (denKs ([.st TI.node] : LK))
  c142 : denKs ([] : LK) → MM (denKs ([.st TI.node] : LK))
  c150 : denKs ([] : LK) → MM (denKs ([.st TI.node] : LK))
  c154 : denKs ([.st TI.node] : LK) → MM (denKs ([.st TI.node] : LK))
  c155 : denKs ([] : LK) → MM (denKs ([.st TI.node] : LK))
def RS.zero : RS where
  c53 := fun _ _ _ => none
  c74 := fun _ _ _ => none
  c107 := fun _ _ _ => none
  c75 := fun _ _ _ => none
  c108 := fun _ _ _ => none
  c79 := fun _ _ _ _ => none
  c82 := fun _ _ _ _ => none
  c56 := fun _ _ _ => none
  c130 := fun _ _ _ => none
  c81 := fun _ _ _ => none
  c110 := fun _ _ _ => none
  c151 := fun _ _ _ => none
  c83 := fun _ _ _ => none
  c57 := fun _ _ _ => none
  c55 := fun _ _ _ => none
  c37 := fun _ _ _ => none
  c60 := fun _ _ _ => none
  c86 := fun _ _ _ => none
  c116 := fun _ _ _ => none
  c115 := fun _ _ _ _ => none
  c117 := fun _ _ _ _ => none
  c113 := fun _ _ _ => none
  c111 := fun _ _ _ => none
  c114 := fun _ _ _ => none
  c131 := fun _ _ _ => none
  c142 := fun _ _ _ => none
  c150 := fun _ _ _ => none
  c154 := fun _ _ _ => none
  c155 := fun _ _ _ => none
noncomputable def RS.next (fu : Nat) (r : RS) : RS where
  c53 := mM (sh53 fu c33 (b72 fu) (b73 fu) r.c74 r.c75 (b76 fu))
  c74 := mM (sh74 fu (b54 fu) (b73 fu) (b85 fu) r.c107)
  c107 := mM (sh107 fu r.c53 (b54 fu) r.c56 (b73 fu) (b78 fu))
  c75 := mM (sh75 fu (b54 fu) (b73 fu) (b78 fu) (b85 fu) r.c108)
  c108 := mM (sh108 fu (b54 fu) (c58) (b72 fu) (b73 fu) (b80 fu) r.c114)
  c79 := mX (sh79 fu (b54 fu) (b73 fu))
  c82 := mX (sh82 fu (b54 fu) (b73 fu) (b78 fu) r.c81 r.c111)
  c56 := mN (sh56 fu (b54 fu) r.c56 (b72 fu) (b73 fu) (b78 fu) r.c79 (b80 fu) r.c81 r.c82)
  c130 := mM (sh130 fu (b54 fu) (b72 fu) (b73 fu) (b76 fu) (b78 fu) r.c79 r.c82 (b85 fu) r.c130)
  c81 := mL (sh81 fu (b54 fu) (c59) (c61) (b73 fu) (b78 fu) r.c110)
  c110 := mM (sh110 fu r.c53 (c58) r.c130)
  c151 := mM (sh151 fu r.c53 r.c130)
  c83 := mM (sh83 fu (b54 fu) (b73 fu) (b78 fu) r.c83 r.c111)
  c57 := mM (sh57 fu (b54 fu) (c58) (b73 fu) r.c83)
  c55 := mM (sh55 fu (b54 fu) r.c56 r.c57 (b73 fu) (b78 fu))
  c37 := mM (sh37 fu r.c53 (b54 fu) r.c55 r.c56 r.c57 (c58) (c59) r.c60 (c61))
  c60 := mM (sh60 fu r.c37 (b54 fu) (b72 fu) (b73 fu) (b78 fu) (b84 fu) (b85 fu) r.c86)
  c86 := mM (sh86 fu (b54 fu) (c59) r.c60 (c61) (b72 fu) (b73 fu) (b78 fu) (b80 fu) (b85 fu) r.c86 (b112 fu) r.c113 r.c114 r.c115 r.c116 r.c117)
  c116 := mM (sh116 fu r.c37 (c59) (c61) (b78 fu) (b84 fu) r.c86 r.c117)
  c115 := mX (sh115 fu (b78 fu) r.c113)
  c117 := mX (sh117 fu (b54 fu) (b78 fu) r.c113)
  c113 := mM (sh113 fu (b54 fu) (b73 fu) r.c111 r.c113)
  c111 := mM (sh111 fu (b54 fu) (b73 fu) r.c111 r.c114)
  c114 := mM (sh114 fu (b54 fu) (b73 fu) (b78 fu) r.c113 r.c114 r.c131)
  c131 := mM (sh131 fu c143 (b72 fu) (b73 fu) r.c131 r.c142)
  c142 := mM (sh142 fu (b54 fu) (b73 fu) (b78 fu) (b84 fu) r.c142 r.c150 r.c151)
  c150 := mM (sh150 fu (b54 fu) (b73 fu) (b78 fu) (b84 fu) r.c142 r.c150 r.c151 r.c154 r.c155)
  c154 := mM (sh154 fu (b54 fu) (b73 fu) (b78 fu) (b80 fu) r.c111 r.c113)
  c155 := mM (sh155 fu (b73 fu) (b85 fu) (b112 fu) r.c115)
noncomputable def rs (fu : Nat) : Nat → RS
  | 0 => RS.zero
  | n + 1 => (rs fu n).next fu
structure ROk (r : RS) : Prop where
  h53 : CPOk CC Tryz.prog syn 53 (cM (([] : LK)) (([.st TI.node, .bool] : LK)) r.c53)
  h74 : CPOk CC Tryz.prog syn 74 (cM (([] : LK)) (([.st TI.node] : LK)) r.c74)
  h107 : CPOk CC Tryz.prog syn 107 (cM (([] : LK)) (([.st TI.node] : LK)) r.c107)
  h75 : CPOk CC Tryz.prog syn 75 (cM (([] : LK)) (([.st TI.node] : LK)) r.c75)
  h108 : CPOk CC Tryz.prog syn 108 (cM (([] : LK)) (([.st TI.node] : LK)) r.c108)
  h79 : CPOk CC Tryz.prog syn 79 (cX (([] : LK)) (([] : LK)) r.c79)
  h82 : CPOk CC Tryz.prog syn 82 (cX (([] : LK)) (([] : LK)) r.c82)
  h56 : CPOk CC Tryz.prog syn 56 (cN (([] : LK)) (([.st TI.node, .str, .bool] : LK)) r.c56)
  h130 : CPOk CC Tryz.prog syn 130 (cM (([.bool] : LK)) (([.st TI.node, .str, .bool] : LK)) r.c130)
  h81 : CPOk CC Tryz.prog syn 81 (cL (([] : LK)) (([.st TI.node] : LK)) r.c81)
  h110 : CPOk CC Tryz.prog syn 110 (cM (([] : LK)) (([.st TI.node] : LK)) r.c110)
  h151 : CPOk CC Tryz.prog syn 151 (cM (([] : LK)) (([.st TI.node] : LK)) r.c151)
  h83 : CPOk CC Tryz.prog syn 83 (cM (([] : LK)) (([.st TI.node] : LK)) r.c83)
  h57 : CPOk CC Tryz.prog syn 57 (cM (([.st TI.node, .str, .bool] : LK)) (([.st TI.node] : LK)) r.c57)
  h55 : CPOk CC Tryz.prog syn 55 (cM (([.ag [.ow true TI.node], .bool] : LK)) (([.st TI.node] : LK)) r.c55)
  h37 : CPOk CC Tryz.prog syn 37 (cM (([.bool] : LK)) (([.st TI.node] : LK)) r.c37)
  h60 : CPOk CC Tryz.prog syn 60 (cM (([] : LK)) (([.st TI.node] : LK)) r.c60)
  h86 : CPOk CC Tryz.prog syn 86 (cM (([] : LK)) (([.st TI.node] : LK)) r.c86)
  h116 : CPOk CC Tryz.prog syn 116 (cM (([.ag [.ow true TI.node]] : LK)) (([.st TI.node] : LK)) r.c116)
  h115 : CPOk CC Tryz.prog syn 115 (cX (([] : LK)) (([] : LK)) r.c115)
  h117 : CPOk CC Tryz.prog syn 117 (cX (([.str] : LK)) (([] : LK)) r.c117)
  h113 : CPOk CC Tryz.prog syn 113 (cM (([] : LK)) (([.st TI.node] : LK)) r.c113)
  h111 : CPOk CC Tryz.prog syn 111 (cM (([] : LK)) (([.st TI.node] : LK)) r.c111)
  h114 : CPOk CC Tryz.prog syn 114 (cM (([] : LK)) (([.st TI.node] : LK)) r.c114)
  h131 : CPOk CC Tryz.prog syn 131 (cM (([.int .i64] : LK)) (([.st TI.node] : LK)) r.c131)
  h142 : CPOk CC Tryz.prog syn 142 (cM (([] : LK)) (([.st TI.node] : LK)) r.c142)
  h150 : CPOk CC Tryz.prog syn 150 (cM (([] : LK)) (([.st TI.node] : LK)) r.c150)
  h154 : CPOk CC Tryz.prog syn 154 (cM (([.st TI.node] : LK)) (([.st TI.node] : LK)) r.c154)
  h155 : CPOk CC Tryz.prog syn 155 (cM (([] : LK)) (([.st TI.node] : LK)) r.c155)
theorem ROk.zero : ROk RS.zero := ⟨(fun _ _ _ _ _ _ h => by cases h), (fun _ _ _ _ _ _ h => by cases h), (fun _ _ _ _ _ _ h => by cases h), (fun _ _ _ _ _ _ h => by cases h), (fun _ _ _ _ _ _ h => by cases h), (fun _ _ _ _ _ _ h => by cases h), (fun _ _ _ _ _ _ h => by cases h), (fun _ _ _ _ _ _ h => by cases h), (fun _ _ _ _ _ _ h => by cases h), (fun _ _ _ _ _ _ h => by cases h), (fun _ _ _ _ _ _ h => by cases h), (fun _ _ _ _ _ _ h => by cases h), (fun _ _ _ _ _ _ h => by cases h), (fun _ _ _ _ _ _ h => by cases h), (fun _ _ _ _ _ _ h => by cases h), (fun _ _ _ _ _ _ h => by cases h), (fun _ _ _ _ _ _ h => by cases h), (fun _ _ _ _ _ _ h => by cases h), (fun _ _ _ _ _ _ h => by cases h), (fun _ _ _ _ _ _ h => by cases h), (fun _ _ _ _ _ _ h => by cases h), (fun _ _ _ _ _ _ h => by cases h), (fun _ _ _ _ _ _ h => by cases h), (fun _ _ _ _ _ _ h => by cases h), (fun _ _ _ _ _ _ h => by cases h), (fun _ _ _ _ _ _ h => by cases h), (fun _ _ _ _ _ _ h => by cases h), (fun _ _ _ _ _ _ h => by cases h), (fun _ _ _ _ _ _ h => by cases h)⟩
theorem ROk.next (fu : Nat) {r : RS} (h : ROk r) : ROk (r.next fu) where
  h53 := con53 fu c33 ok33 ok38 (b72 fu) (ok72 fu) (b73 fu) (ok73 fu) r.c74 h.h74 r.c75 h.h75 (b76 fu) (ok76' fu) (ok77)
  h74 := con74 fu ok38 (b54 fu) (ok54 fu) (b73 fu) (ok73 fu) (ok77) (b85 fu) (ok85 fu) r.c107 h.h107
  h107 := con107 fu ok38 r.c53 h.h53 (b54 fu) (ok54 fu) r.c56 (cNj_of h.h56) (b73 fu) (ok73 fu) (b78 fu) (ok78 fu)
  h75 := con75 fu ok38 (b54 fu) (ok54 fu) (b73 fu) (ok73 fu) (ok77) (b78 fu) (ok78 fu) (b85 fu) (ok85 fu) r.c108 h.h108
  h108 := con108 fu ok38 (b54 fu) (ok54 fu) (c58) (ok58) (b72 fu) (ok72 fu) (b73 fu) (ok73 fu) (b80 fu) (ok80 fu) r.c114 h.h114
  h79 := con79 fu (b54 fu) (ok54 fu) (b73 fu) (ok73 fu)
  h82 := con82 fu (b54 fu) (ok54 fu) (b73 fu) (ok73 fu) (b78 fu) (ok78 fu) r.c81 (cLj_of h.h81) r.c111 h.h111
  h56 := con56 fu ok38 (b54 fu) (ok54 fu) r.c56 (cNj_of h.h56) (b72 fu) (ok72 fu) (b73 fu) (ok73 fu) (b78 fu) (ok78 fu) r.c79 h.h79 (b80 fu) (ok80 fu) r.c81 h.h81 r.c82 h.h82
  h130 := con130 fu ok38 (b54 fu) (ok54 fu) (b72 fu) (ok72 fu) (b73 fu) (ok73 fu) (b76 fu) (ok76' fu) (b78 fu) (ok78 fu) r.c79 h.h79 r.c82 h.h82 (b85 fu) (ok85 fu) r.c130 h.h130
  h81 := con81 fu ok38 (b54 fu) (ok54 fu) (c59) (ok59) (c61) (ok61) (b73 fu) (ok73 fu) (b78 fu) (ok78 fu) r.c110 h.h110
  h110 := con110 fu ok38 r.c53 h.h53 (c58) (ok58) r.c130 h.h130
  h151 := con151 fu ok38 r.c53 h.h53 r.c130 h.h130
  h83 := con83 fu ok38 (b54 fu) (ok54 fu) (b73 fu) (ok73 fu) (b78 fu) (ok78 fu) r.c83 h.h83 r.c111 h.h111
  h57 := con57 fu ok38 (b54 fu) (ok54 fu) (c58) (ok58) (b73 fu) (ok73 fu) r.c83 h.h83
  h55 := con55 fu ok38 (b54 fu) (ok54 fu) r.c56 (cNj_of h.h56) r.c57 h.h57 (b73 fu) (ok73 fu) (b78 fu) (ok78 fu)
  h37 := con37 fu ok38 r.c53 h.h53 (b54 fu) (ok54 fu) r.c55 h.h55 r.c56 h.h56 r.c57 h.h57 (c58) (ok58) (c59) (ok59) r.c60 h.h60 (c61) (ok61)
  h60 := con60 fu ok38 r.c37 h.h37 (b54 fu) (ok54 fu) (b72 fu) (ok72 fu) (b73 fu) (ok73 fu) (b78 fu) (ok78 fu) (b84 fu) (ok84 fu) (b85 fu) (ok85 fu) r.c86 h.h86
  h86 := con86 fu ok38 (b54 fu) (ok54 fu) (c59) (ok59) r.c60 h.h60 (c61) (ok61) (b72 fu) (ok72 fu) (b73 fu) (ok73 fu) (ok77) (b78 fu) (ok78 fu) (b80 fu) (ok80 fu) (b85 fu) (ok85 fu) r.c86 h.h86 (b112 fu) (ok112 fu) r.c113 h.h113 r.c114 h.h114 r.c115 h.h115 r.c116 h.h116 r.c117 h.h117
  h116 := con116 fu ok38 r.c37 h.h37 (c59) (ok59) (c61) (ok61) (b78 fu) (ok78 fu) (b84 fu) (ok84 fu) r.c86 h.h86 r.c117 h.h117
  h115 := con115 fu (b78 fu) (ok78 fu) r.c113 h.h113
  h117 := con117 fu (b54 fu) (ok54 fu) (b78 fu) (ok78 fu) r.c113 h.h113
  h113 := con113 fu (b54 fu) (ok54 fu) (b73 fu) (ok73 fu) r.c111 h.h111 r.c113 h.h113
  h111 := con111 fu (b54 fu) (ok54 fu) (b73 fu) (ok73 fu) r.c111 h.h111 r.c114 h.h114
  h114 := con114 fu ok38 (b54 fu) (ok54 fu) (b73 fu) (ok73 fu) (b78 fu) (ok78 fu) r.c113 h.h113 r.c114 h.h114 r.c131 h.h131
  h131 := con131 fu c143 ok143 (b72 fu) (ok72 fu) (b73 fu) (ok73 fu) r.c131 h.h131 r.c142 h.h142
  h142 := con142 fu ok38 (b54 fu) (ok54 fu) (b73 fu) (ok73 fu) (b78 fu) (ok78 fu) (b84 fu) (ok84 fu) r.c142 h.h142 r.c150 h.h150 r.c151 h.h151
  h150 := con150 fu ok38 (b54 fu) (ok54 fu) (b73 fu) (ok73 fu) (b78 fu) (ok78 fu) (b84 fu) (ok84 fu) r.c142 h.h142 r.c150 h.h150 r.c151 h.h151 r.c154 h.h154 r.c155 h.h155
  h154 := con154 fu ok38 (b54 fu) (ok54 fu) (b73 fu) (ok73 fu) (b78 fu) (ok78 fu) (b80 fu) (ok80 fu) r.c111 h.h111 r.c113 h.h113
  h155 := con155 fu ok38 (b73 fu) (ok73 fu) (b85 fu) (ok85 fu) (b112 fu) (ok112 fu) r.c115 h.h115
theorem rok (fu : Nat) : ∀ n, ROk (rs fu n)
  | 0 => ROk.zero
  | n + 1 => (rok fu n).next fu
end Go.Proofs.YtnamdpbcpnnhaaaGreatDoor
end
section
set_option linter.unusedVariables false
set_option linter.unusedSimpArgs false
namespace Go.Proofs.YtnamdpbcpnnhaaaGreatDoor
open Go.Al Go.Den Go.RowKit
attribute [local congr] aGuard_congr aPick_congr aBin_congr aUn_congr aExtract_congr aField_congr aFieldAddr_congr aIndexAddr_congr aIndex_congr aLoad_congr aStore_congr aNew_congr aAlloc_congr aBuild_congr aBuildSlice_congr aNilCheck_congr aSlice_congr aLen_congr aMax_congr aAppend_congr sLoad_congr sStore_congr sFieldR_congr sFieldP_congr sField_congr sIndex_congr sIndexM_congr sAlloc_congr sBuild_congr sBuild2_congr sBS_congr sBSk_congr sApp_congr sAppN_congr sAppW_congr sAppS_congr sAppS2_congr sSliceB_congr aGuardD_congr
theorem rest17_ok (fu : Nat) (v2 v3 : Value) (c37 : Bool × Unit → MM (Nd × Unit)) (h37 : CPOk CC Tryz.prog syn 37 (cM ([.bool] : LK) ([.st TI.node] : LK) c37)) {X : Cx} (hX : X.N = ⟨28, [(2, v2), (3, v3)]⟩) {x : denKs k17} {oc : Option (denKs ([parK, ptsK] : LK))} (h : sh17 fu v2 v3 c37 x = some oc)
    {s0 : S} {vx : List V} {rs : List Res} (hv : VKs CC s0 k17 x vx rs) (hn : rs.Nodup) : awp Tryz.prog X rest17 (QPost CC syn ([parK, ptsK] : LK) false [(2, v2), (3, v3)] [4, 5] oc) (conE [(2, v2), (3, v3)] (zipE [0, 4, 5] vx)) s0 := by
  have e : run17 fu v2 v3 c37 x = some oc := by rw [eq17]; exact h
  exact runQ_ok (fu := fu) (d := 3) (inl := findF [(36, fd36)]) (orc := findF []) (orr := findF [(38, crNode)]) (orp := findF [(37, cM ([.bool] : LK) ([.st TI.node] : LK) c37)]) (pf := hasN []) (rf := hasN [38]) Tb_ok CCok mixed (fun g => (findF_some (α := Con UU) (l := []) g).symm) (fun g => (findF_some (α := CR UU) (l := [(38, crNode)]) g).symm)
    (findF_cons fdok36_17 findF_nil) findF_nil (findF_cons ⟨code38, ok38⟩ findF_nil) (findF_cons ⟨code37, h37⟩ findF_nil) (fi := fd17.fi) (cs := [(2, v2), (3, v3)]) (slots := [0, 4, 5]) (oslots := [4, 5]) (by rw [hX]; kernel_rfl) (by kernel_rfl) e (by
      intro p hp
      have hd : dsts fd17.fi rest17 = [16, 17, 18, 19, 20, 21, 22, 23, 24, 25, 26] := by kernel_rfl
      rw [hd]
      simp only [List.mem_cons, List.not_mem_nil, or_false] at hp
      rcases hp with rfl | rfl
      · show (2 : Nat) ∉ _; decide
      · show (3 : Nat) ∉ _; decide) hv hn
set_option maxRecDepth 100000 in
set_option maxHeartbeats 1000000 in
theorem long17 (a : Option Addr) (n cap : Nat) (h : 4000 < n) (w : World) :
    Calls Tryz.prog 17 #[.slice a n cap] w fun e w' => e = .returned (.tuple #[.agg #[.int .i64 0, .int .i64 0, .slice none 0 0], .int .i64 2]) ∧ Below w.heap.size w w' := by
  have h4 : (4000 : Int) < (n : Int) := by omega
  go_enter_defers Tryz.func17, Tryz.ntmps17
  go_wp2
  simp [bodyPostD, Leaves, results, Tryz.results17, go_sem]
  exact ((Below.refl _ w).alloc (Nat.le_refl _) _).alloc (by simp) _
def z18 (l : List Nd) : denKs k17c := (show (Int × Int × List Nd × Unit) × (Int × Unit) × Unit from ((1, 0, l, ()), (0, ()), ()))
theorem rest18_ok {X : Cx} (hX : X.N = ⟨28, []⟩) {x : denKs k17b} {s0 : S} {vx : List V} {rs : List Res} (hv : VKs CC s0 k17b x vx rs) (hn : rs.Nodup) : awp Tryz.prog X rest17b (QPost CC syn k17c true [] [2, 3] (some (z18 x.2.2.1.1))) (conE [] (zipE [2, 3, 5] vx)) s0 := by
  have e : run17r x = some (some (z18 x.2.2.1.1)) := by rw [eq17r]; rfl
  exact runQ_ok (fu := 0) (d := 2) (inl := findF []) (orc := findF []) (orr := findF [(38, crNode)]) (orp := findF []) (pf := hasN []) (rf := hasN [38]) Tb_ok CCok mixed (fun g => (findF_some (α := Con UU) (l := []) g).symm) (fun g => (findF_some (α := CR UU) (l := [(38, crNode)]) g).symm)
    findF_nil findF_nil (findF_cons ⟨code38, ok38⟩ findF_nil) findF_nil (fi := fd17.fi) (cs := []) (slots := [2, 3, 5]) (oslots := [2, 3]) (by rw [hX]; kernel_rfl) (by kernel_rfl) e (by simp) hv hn
theorem inv17 {wm : Nat → Nat} {w W6 : World} {toks : V} {u0 : Value} {tm tn tp : TypeId} (hwm : ∀ b, w.heap.size ≤ b → wm b = 0) (hsz : W6.heap.size = w.heap.size + 6)
    (h2 : W6.heap[w.heap.size + 2]? = some (.map #[] 0)) (h3 : W6.heap[w.heap.size + 3]? = some (.cells #[.map (some (w.heap.size + 2))] tm (0, 0)))
    (h4 : W6.heap[w.heap.size + 4]? = some (.cells #[u0, .int .i64 0, .slice (some ⟨w.heap.size + 3, 0, none⟩) 1 1, .map none] tn (0, 0))) (h5 : W6.heap[w.heap.size + 5]? = some (.cells #[.slice none 0 0] tp (0, 0)))
    (h1 : toks.isOne = true) (hu : RC ⟨wm, fun t => if t = 0 then some none else none, Fr.no⟩ W6 toks [u0]) :
    Al.Inv (w.heap.size + 2) ⟨wm, fun t => if t = 0 then some none else none, Fr.no⟩ ⟨[(w.heap.size + 4, [toks, .at (.int .i64 0), .at (.slice (some ⟨w.heap.size + 3, 0, none⟩) 1 1), .at (.map none)], 4), (w.heap.size + 5, [.lst (.own 0 true 3) []], 1)], [0], 1, [(w.heap.size + 3, .sc [[]] 1, [w.heap.size + 3, w.heap.size + 2])]⟩ W6 := by
  have hno : ∀ (t : Nat) (d : Nat × Nat × Nat × Nat), (if t = 0 then some (none : Option (Nat × Nat × Nat × Nat)) else none) = some (some d) → False := fun t d h => by
    by_cases e : t = 0 <;> simp [e] at h
  have hlk : ∀ b c, Al.look [(w.heap.size + 4, [toks, .at (.int .i64 0), .at (.slice (some ⟨w.heap.size + 3, 0, none⟩) 1 1), .at (.map none)], 4), (w.heap.size + 5, [.lst (.own 0 true 3) []], 1)] b = some c → (b = w.heap.size + 4 ∧ c = ([toks, .at (.int .i64 0), .at (.slice (some ⟨w.heap.size + 3, 0, none⟩) 1 1), .at (.map none)], 4)) ∨ (b = w.heap.size + 5 ∧ c = ([.lst (.own 0 true 3) []], 1)) := fun b c h => by
    by_cases e : w.heap.size + 4 = b
    · subst e; simp [Al.look] at h; exact .inl ⟨rfl, h.symm⟩
    · by_cases e2 : w.heap.size + 5 = b
      · subst e2; simp [Al.look] at h; exact .inr ⟨rfl, h.symm⟩
      · simp [Al.look, e, e2] at h
  have hlo : ∀ b o fp, olook [(w.heap.size + 3, OV.sc [[]] 1, [w.heap.size + 3, w.heap.size + 2])] b = some (o, fp) → b = w.heap.size + 3 ∧ o = .sc [[]] 1 ∧ fp = [w.heap.size + 3, w.heap.size + 2] := fun b o fp h => by
    rw [olook_cons] at h
    by_cases e : w.heap.size + 3 = b
    · rw [if_pos e] at h; injection h with h; obtain ⟨h1, h2⟩ := Prod.mk.inj h; exact ⟨e.symm, h1.symm, h2.symm⟩
    · rw [if_neg e] at h; cases h
  refine ⟨by omega, fun b cs k h => ?_, fun t ht => ?_, fun t ht b cap n sz h => (hno t _ h).elim, fun t ht t' ht' b x y h => (hno t _ h).elim, by simp, fun b hb => hwm b (by omega), fun t ht => ?_, fun b hb => (by cases hb), fun b o fp h => ?_, fun b o fp b' o' fp' j h h' _ _ => (hlo b _ _ h).1.trans (hlo b' _ _ h').1.symm, fun t ht => (by cases ht)⟩
  · rcases hlk b _ h with ⟨rfl, e⟩ | ⟨rfl, e⟩
    · obtain ⟨rfl, rfl⟩ := Prod.mk.inj e
      refine ⟨by omega, hwm _ (by omega), Nat.le_refl _, fun c hc => (by simp at hc; rcases hc with rfl | rfl | rfl | rfl <;> first | exact h1 | rfl), _, _, _, h4, rfl, ?_, rfl⟩
      simp only [RCs]
      exact ⟨[u0], _, rfl, hu, [_], _, rfl, by simp [RC, one], [_], _, rfl, by simp [RC, one], [_], _, rfl, by simp [RC, one], rfl⟩
    · obtain ⟨rfl, rfl⟩ := Prod.mk.inj e
      refine ⟨by omega, hwm _ (by omega), Nat.le_refl _, by simp [V.isOne], _, _, [.slice none 0 0], h5, rfl, ?_, rfl⟩
      simp only [RCs, RC]
      exact ⟨_, [], rfl, .inl ⟨trivial, rfl, rfl, rfl⟩, rfl⟩
  · simp only [List.mem_singleton] at ht; subst ht; exact ⟨none, rfl⟩
  · show (if t = 0 then _ else _) = _
    rw [if_neg (by show t ≠ 0; have : 1 ≤ t := ht; omega)]
  · obtain ⟨rfl, rfl, rfl⟩ := hlo b o fp h
    refine ⟨⟨[w.heap.size + 2], _, _, rfl, by simp, h3, rfl, Nat.le_refl _, rfl, ⟨[], [], rfl, ⟨_, _, h2, rfl⟩, rfl⟩⟩, by simp, fun j hj => ?_⟩
    simp only [List.mem_cons, List.not_mem_nil, or_false] at hj
    refine ⟨by rcases hj with rfl | rfl <;> omega, by rcases hj with rfl | rfl <;> omega, hwm j (by rcases hj with rfl | rfl <;> omega), ?_, fun t ht d hd => hno t _ hd, rfl⟩
    cases e : Al.look [(w.heap.size + 4, [toks, .at (.int .i64 0), .at (.slice (some ⟨w.heap.size + 3, 0, none⟩) 1 1), .at (.map none)], 4), (w.heap.size + 5, [.lst (.own 0 true 3) []], 1)] j with
    | none => rfl
    | some c => rcases hlk j c e with ⟨e1, _⟩ | ⟨e1, _⟩ <;> rcases hj with rfl | rfl <;> omega
end Go.Proofs.YtnamdpbcpnnhaaaGreatDoor
end
section
set_option linter.unusedVariables false
set_option linter.unusedSimpArgs false
namespace Go.Proofs.YtnamdpbcpnnhaaaGreatDoor
open Go.Al Go.Den Go.RowKit
attribute [local congr] aGuard_congr aPick_congr aBin_congr aUn_congr aExtract_congr aField_congr aFieldAddr_congr aIndexAddr_congr aIndex_congr aLoad_congr aStore_congr aNew_congr aAlloc_congr aBuild_congr aBuildSlice_congr aNilCheck_congr aSlice_congr aLen_congr aMax_congr aAppend_congr sLoad_congr sStore_congr sFieldR_congr sFieldP_congr sField_congr sIndex_congr sIndexM_congr sAlloc_congr sBuild_congr sBuild2_congr sBS_congr sBSk_congr sApp_congr sAppN_congr sAppW_congr sAppS_congr sAppS2_congr sSliceB_congr aGuardD_congr
theorem Inv.lower {B B' : Nat} {g : Gh} {st : S} {w : World} (h : Al.Inv B g st w) (hB : B' ≤ B) : Al.Inv B' g st w :=
  ⟨Nat.le_trans hB h.base, fun b cs k hb => let ⟨q1, q⟩ := h.box b cs k hb; ⟨Nat.le_trans hB q1, q⟩, h.tag, fun t ht b cap n sz hb => let ⟨q1, q⟩ := h.own t ht b cap n sz hb; ⟨Nat.le_trans hB q1, q⟩, h.dist, h.nodup, h.fresh, h.names,
   h.ex.frz, fun b o fp hl => let ⟨q1, q2, q3⟩ := h.ex.ob b o fp hl; ⟨q1, q2, fun j hj => let ⟨r1, r⟩ := q3 j hj; ⟨Nat.le_trans hB r1, r⟩⟩, h.ex.obd, h.ex.ft⟩
abbrev pv (n : Nat) : Value := .pointer (some ⟨n, 0, none⟩)
abbrev dfs17 (n : Nat) : List Deferred := [{ target := .fn (.func 35) #[pv n, pv (n + 1)], args := #[] }]
theorem inv35 (n : Nat) (W : World) : (invoke (.fn (.func 35) #[pv n, pv (n + 1)]) #[]).run Tryz.prog W = .ok (.enter 35 #[pv n, pv (n + 1)]) W := by kernel_rfl
set_option maxHeartbeats 1000000 in
theorem fin17 {n : Nat} {g : Gh} {a : Act} {W : World} {e : Env} {s : S} (h2 : Rel ⟨n + 2, ⟨28, [(2, pv n), (3, pv (n + 1))]⟩, none, dfs17 n⟩ g e s a W) {y : denKs ([parK, ptsK] : LK)}
    (hq : QEnd CC ([parK, ptsK] : LK) [(2, pv n), (3, pv (n + 1))] [4, 5] (some y) e s) (hn : W.heap[n]? = some (.cells #[.int .i64 0, .int .i64 0, .slice none 0 0] 29 (0, 0))) (hn1 : W.heap[n + 1]? = some (.cells #[.int .i64 0] 30 (0, 0)))
    (hw0 : g.wm n = 0) (hw1 : g.wm (n + 1) = 0) (hgl : GlobOk n g.wm W) (hfr : g.fr = Fr.no) {R : Ending → World → Prop}
    (hR : ∀ g' W' v, Step n g W g' W' → (∀ b, W'.heap.size ≤ b → g'.wm b = 0) → RV g'.bare W' (.tup [encNd (Nd.mk 1 0 y.2.1.1), .at (.int .i64 0)]) v → R (.returned v) W') :
    rest17b.wp Tryz.prog (bodyPostD Tryz.prog Tryz.f17 R) a W := by
  obtain ⟨hc, y', hy, q, hv, hnd⟩ := hq
  injection hy with hy
  subst hy
  simp only [List.map_cons, List.map_nil] at hv
  obtain ⟨v4, vs4, r4, r4', e4, rfl, k4, hv⟩ := hv
  obtain ⟨v5, vs5, r5, r5', e5, rfl, k5, hv⟩ := hv
  obtain ⟨rfl, rfl⟩ := hv
  subst e5
  injection e4 with e4 e4'
  injection e4' with e5 _
  obtain ⟨b, vs, rs', rfl, hl5, hv5, rfl⟩ := k5
  obtain ⟨vo, _, _, _, rfl, rfl, ⟨m, rfl, hm1, hm2, rfl⟩, rfl, rfl⟩ := hv5
  have i0 := Inv.lower h2.inv (Nat.le_add_right n 2)
  have hlk : ∀ b c, Al.look s.box b = some c → n + 2 ≤ b := fun b c h => (h2.inv.box b c.1 c.2 h).1
  have hno : ∀ j, j < n + 2 → ∀ t ∈ s.tg, ∀ d, g.tb t = some (some (j, d)) → False := fun j hj t ht d hd => by
    obtain ⟨cap, n', sz⟩ := d
    have := (h2.inv.own t ht j cap n' sz hd).1
    simp only at this
    omega
  have hob : ∀ j, j < n + 2 → ∀ b' o fp, olook s.ob b' = some (o, fp) → j ∉ fp := fun j hj b' o fp h hm => by
    have := ((h2.inv.ex.ob b' o fp h).2.2 j hm).1
    simp only at this
    omega
  have i1 := i0.addBox (b := n) (cs := [.at (.int .i64 0), .at (.int .i64 0), .lst .nil []]) (us := [.int .i64 0, .int .i64 0, .slice none 0 0]) (Nat.le_refl _) hw0 hn (by simp) (by simp [V.isOne])
    (by simp only [RCs, RC]; exact ⟨[_], _, rfl, ⟨rfl, rfl⟩, [_], _, rfl, ⟨rfl, rfl⟩, [_], [], rfl, .inl ⟨trivial, rfl, trivial⟩, rfl⟩) rfl (hno n (by omega)) (by rw [hfr]; rfl) (hob n (by omega))
  have i2 := i1.addBox (b := n + 1) (cs := [.at (.int .i64 0)]) (us := [.int .i64 0]) (Nat.le_succ _) hw1 hn1 (by simp) (by simp [V.isOne])
    (by simp only [RCs, RC]; exact ⟨[_], [], rfl, ⟨rfl, rfl⟩, rfl⟩) rfl (hno (n + 1) (by omega)) (by rw [hfr]; rfl) (hob (n + 1) (by omega))
  have r2 : Rel ⟨n, ⟨28, []⟩, none, dfs17 n⟩ g (conE [] (zipE [2, 3, 5] [.at (pv n), .at (pv (n + 1)), .at (pv b)])) _ a W := ⟨i2, fun k => by
    rcases (Env.sub_of e [(2, .at (pv n)), (3, .at (pv (n + 1))), (5, .at (pv b))] (fun p hp => by
      simp only [List.mem_cons, List.not_mem_nil, or_false] at hp
      rcases hp with rfl | rfl | rfl
      · exact hc (2, pv n) (by simp)
      · exact hc (3, pv (n + 1)) (by simp)
      · exact e5)) k with hk | hk
    · show RV g W (Env.get [(2, .at (pv n)), (3, .at (pv (n + 1))), (5, .at (pv b))] k) _
      rw [hk]
      exact h2.env k
    · show RV g W (Env.get [(2, .at (pv n)), (3, .at (pv (n + 1))), (5, .at (pv b))] k) _
      rw [hk]
      trivial, ⟨h2.size.1, by simp⟩, h2.df, hgl⟩
  have hb5 := hlk _ _ hl5
  have hV : VKs CC ⟨lay (lay s.box n ([.at (.int .i64 0), .at (.int .i64 0), .lst .nil []], 3)) (n + 1) ([.at (.int .i64 0)], 1), s.tg, s.nx, s.ob⟩ k17b (show (Int × Int × List Nd × Unit) × (Int × Unit) × (List Nd × Unit) × Unit from ((0, 0, [], ()), (0, ()), (y.2.1.1, ()), ())) [.at (pv n), .at (pv (n + 1)), .at (pv b)] [.inr n, .inr (n + 1), .inr b, .inl m] :=
    ⟨_, _, [.inr n], [.inr (n + 1), .inr b, .inl m], rfl, rfl, ⟨n, _, [], rfl, by simp only [look_lay, if_neg (show ¬ n + 1 = n by omega), if_true]; rfl, ⟨_, _, [], [], rfl, rfl, ⟨rfl, rfl⟩, _, _, [], [], rfl, rfl, ⟨rfl, rfl⟩, _, _, [], [], rfl, rfl, ⟨rfl, rfl⟩, rfl, rfl⟩, rfl⟩,
      _, _, [.inr (n + 1)], [.inr b, .inl m], rfl, rfl, ⟨n + 1, _, [], rfl, by simp only [look_lay, if_true]; rfl, ⟨_, _, [], [], rfl, rfl, ⟨rfl, rfl⟩, rfl, rfl⟩, rfl⟩,
      _, _, [.inr b, .inl m], [], rfl, rfl, ⟨b, _, [.inl m], rfl, by simp only [look_lay, if_neg (show ¬ n + 1 = b by omega), if_neg (show ¬ n = b by omega)]; exact hl5, ⟨_, _, [.inl m], [], rfl, rfl, ⟨m, rfl, hm1, hm2, rfl⟩, rfl, rfl⟩, rfl⟩, rfl, rfl⟩
  have H := rest18_ok (X := ⟨n, ⟨28, []⟩, none, dfs17 n⟩) rfl hV (by simp; omega) g a W r2
  refine wpIn_wide.1 (wpIn_mono H ?_)
  rintro ex a3 W3 ⟨g3, e3, s3, k1, k2, k3⟩
  have fin : QEnd CC k17c [] [2, 3] (some (z18 y.2.1.1)) e3 s3 → Leaves Tryz.prog Tryz.f17 a3.tmps R a3.defers .returning W3 := by
    rintro ⟨_, y', hy, q, hv, hnd⟩
    injection hy with hy
    subst hy
    obtain ⟨v2, vs2, _, _, e2, rfl, ⟨b2, cs2, _, rfl, hl2, hv2, rfl⟩, hv⟩ := hv
    obtain ⟨v3, vs3, _, _, e3', rfl, ⟨b3, cs3, _, rfl, hl3, hv3, rfl⟩, rfl, rfl⟩ := hv
    subst e3'
    obtain ⟨_, _, _, _, rfl, rfl, ⟨rfl, rfl⟩, _, _, _, _, rfl, rfl, ⟨rfl, rfl⟩, _, _, _, _, rfl, rfl, ⟨rfl, rfl⟩, rfl, rfl⟩ := hv2
    obtain ⟨_, _, _, _, rfl, rfl, ⟨rfl, rfl⟩, rfl, rfl⟩ := hv3
    injection e2 with e2 e2'
    injection e2' with e3' _
    rw [k2.df]
    refine leaves_cons (f := 35) (args := #[pv n, pv (n + 1)]) (by simp) (inv35 n W3) (CallsD.mono (idle35 ⟨n, 0, none⟩ ⟨n + 1, 0, none⟩ W3) ?_)
    rintro en u' w' ⟨rfl, rfl, rfl⟩
    have hres : aResults Tryz.prog [.cell 2 29, .cell 3 30] e3 s3 fun xs => xs = [encNd (Nd.mk 1 0 y.2.1.1), .at (.int .i64 0)] := by
      simp only [aResults, aLoad, e2, e3', hl2, hl3, partOk, partV, hasT29, hasT30, cells29, cells30, aggT29, aggT30]
      refine ⟨⟨trivial, by simp, by simp⟩, by simp [V.flat, flats, allOne, V.isOne], ⟨trivial, by simp, by simp⟩, by simp [V.flat, allOne, V.isOne], ?_⟩
      have e1 : encNd (Nd.mk 1 0 y.2.1.1) = .agg [.at (.int .i64 1), .at (.int .i64 0), .lst (tagOf (y.2.1.1.map (CC.encV TI.node))) (y.2.1.1.map (CC.encV TI.node))] := encNd_mk 1 0 (show List Nd from y.2.1.1)
      have e2 := CCok.untag TI.node (Nd.mk 1 0 y.2.1.1)
      change (encNd (Nd.mk 1 0 y.2.1.1)).untag = encNd (Nd.mk 1 0 y.2.1.1) at e2
      simp only [if_true, Bool.false_eq_true, if_false]
      show [Al.V.untag (.agg [.at (.int .i64 1), .at (.int .i64 0), .lst (tagOf (y.2.1.1.map (CC.encV TI.node))) (y.2.1.1.map (CC.encV TI.node))]), Al.V.untag (.at (.int .i64 0))] = _
      rw [← e1, e2]
      rfl
    obtain ⟨xs, us, rfl, j2, j3⟩ := aResults_spec hres k2
    have hrs : Tryz.f17.results.toList = [.cell 2 29, .cell 3 30] := by rw [Tryz.results17]
    refine ⟨_, results_run (by rw [hrs]; exact j3), hR g3 _ _ k1 k2.inv.fresh (RV_fin j2)⟩
  cases ex with
  | normal => exact fin k3
  | ret => exact fin k3.2
  | exit id => cases k3.1.2
  | panic c => cases k3.2
  | goto l => exact k3.elim
  | outgrown => exact k3.elim
end Go.Proofs.YtnamdpbcpnnhaaaGreatDoor
end
section
set_option linter.unusedVariables false
set_option linter.unusedSimpArgs false
namespace Go.Proofs.YtnamdpbcpnnhaaaGreatDoor
open Go.Al Go.Den Go.RowKit
attribute [local congr] aGuard_congr aPick_congr aBin_congr aUn_congr aExtract_congr aField_congr aFieldAddr_congr aIndexAddr_congr aIndex_congr aLoad_congr aStore_congr aNew_congr aAlloc_congr aBuild_congr aBuildSlice_congr aNilCheck_congr aSlice_congr aLen_congr aMax_congr aAppend_congr sLoad_congr sStore_congr sFieldR_congr sFieldP_congr sField_congr sIndex_congr sIndexM_congr sAlloc_congr sBuild_congr sBuild2_congr sBS_congr sBSk_congr sApp_congr sAppN_congr sAppW_congr sAppS_congr sAppS2_congr sSliceB_congr aGuardD_congr
set_option maxHeartbeats 1000000 in
theorem bad17 {n : Nat} {a : Act} {W : World} (ht2 : a.tmps.getD 2 undef = pv n) (ht3 : a.tmps.getD 3 undef = pv (n + 1)) (hdf : a.defers = dfs17 n)
    (hn : W.heap[n]? = some (.cells #[.int .i64 0, .int .i64 0, .slice none 0 0] 29 (0, 0))) (hn1 : W.heap[n + 1]? = some (.cells #[.int .i64 0] 30 (0, 0))) {R : Ending → World → Prop}
    (hR : ∀ W', W.heap.size ≤ W'.heap.size → (∀ j, j < W.heap.size → j ≠ n → j ≠ n + 1 → W'.heap[j]? = W.heap[j]?) → W'.os = W.os → W'.tape = W.tape → W'.output = W.output → R (.returned (.tuple #[.agg #[.int .i64 0, .int .i64 0, .slice none 0 0], .int .i64 160])) W') :
    Leaves Tryz.prog Tryz.f17 a.tmps R a.defers (.panicking syn) W := by
  rw [hdf]
  refine leaves_cons (f := 35) (args := #[pv n, pv (n + 1)]) (by simp) (inv35 n W) (CallsD.mono (syn35 n (n + 1) _ _ _ _ _ _ [] W hn hn1 (by omega)) ?_)
  rintro en u' w' ⟨rfl, rfl, q1, q2, q3, q4, q5, q6, q7⟩
  have hrs : Tryz.f17.results.toList = [.cell 2 29, .cell 3 30] := by rw [Tryz.results17]
  refine ⟨_, results_run (us := [.agg #[.int .i64 0, .int .i64 0, .slice none 0 0], .int .i64 160]) ?_, hR w' q1 q4 q5 q6 q7⟩
  rw [hrs]
  have c0 : w'.cell? ⟨n, 0, none⟩ = some (.int .i64 0) := by simp [World.cell?, q2]
  have c1 : w'.cell? ⟨n, 1, none⟩ = some (.int .i64 0) := by simp [World.cell?, q2]
  have c2 : w'.cell? ⟨n, 2, none⟩ = some (.slice none 0 0) := by simp [World.cell?, q2]
  have c3 : w'.cell? ⟨n + 1, 0, none⟩ = some (.int .i64 160) := by simp [World.cell?, q3]
  simp [resOf, ht2, ht3, go_sem, c0, c1, c2, c3]
theorem six (w : World) (o0 o1 o2 o3 o4 o5 : Obj) {W6 : World} (h : ((((((w.alloc o0).alloc o1).alloc o2).alloc o3).alloc o4).alloc o5) = W6) :
    W6.heap.size = w.heap.size + 6 ∧ W6.heap[w.heap.size]? = some o0 ∧ W6.heap[w.heap.size + 1]? = some o1 ∧ W6.heap[w.heap.size + 2]? = some o2 ∧ W6.heap[w.heap.size + 3]? = some o3 ∧ W6.heap[w.heap.size + 4]? = some o4 ∧ W6.heap[w.heap.size + 5]? = some o5 := by
  have e : W6.heap = (((((w.heap.push o0).push o1).push o2).push o3).push o4).push o5 := by rw [← h]; rfl
  rw [e]
  generalize w.heap = H
  have L : ∀ (A : Array Obj) (x : Obj) (i : Nat), i < A.size → (A.push x)[i]? = A[i]? := fun A x i h => by simp [Array.getElem?_push, Nat.ne_of_lt h]
  have N : ∀ (A : Array Obj) (x : Obj) (i : Nat), i = A.size → (A.push x)[i]? = some x := fun A x i h => by subst h; simp
  refine ⟨by simp, ?_, ?_, ?_, ?_, ?_, ?_⟩ <;> (repeat rw [L _ _ _ (by simp only [Array.size_push]; omega)]) <;> exact N _ _ _ (by simp [Array.size_push])
abbrev x17 (l : List TokT) : denKs k17 := (show List TokT × ParT × NdsT × Unit from (l, (l, 0, [[]], (), ()), ([], ()), ()))
def ans17 : Option (ParT × NdsT × Unit) → V
  | none => .tup [encNd (Nd.mk 0 0 []), .at (.int .i64 160)]
  | some y => .tup [encNd (Nd.mk 1 0 y.2.1.1), .at (.int .i64 0)]
set_option maxRecDepth 100000 in
set_option maxHeartbeats 2000000 in
theorem short17 (fu : Nat) (c37 : Bool × Unit → MM (Nd × Unit)) (h37 : CPOk CC Tryz.prog syn 37 (cM ([.bool] : LK) ([.st TI.node] : LK) c37)) {l : List TokT} {oc : Option (ParT × NdsT × Unit)} (hlen : l.length ≤ 4000)
    (hoc : sh17 fu (.int .i64 0) (.int .i64 0) c37 (x17 l) = some oc) (a : Option Addr) (cap : Nat) (wm : Nat → Nat) (w : World) (hwm : ∀ b, w.heap.size ≤ b → wm b = 0) (hgl : GlobOk w.heap.size wm w)
    (hu : RC ⟨wm, fun _ => none, Fr.no⟩ w (.lst (tagOf (l.map (CC.encV TI.tok))) (l.map (CC.encV TI.tok))) [.slice a l.length cap]) :
    Calls Tryz.prog 17 #[.slice a l.length cap] w fun e w' => ∃ v wm', e = .returned v ∧ (∀ b, w'.heap.size ≤ b → wm' b = 0) ∧ Step w.heap.size ⟨wm, fun _ => none, Fr.no⟩ w ⟨wm', fun _ => none, Fr.no⟩ w' ∧ RV ⟨wm', fun _ => none, Fr.no⟩ w' (ans17 oc) v := by
  have h4 : ¬ ((4000 : Int) < (l.length : Int)) := by omega
  have hmf : ∀ fn first cap w, (Instr.makeFunc fn first cap).run Tryz.prog w = .ok (.func fn first cap) w := fun _ _ _ _ => rfl
  have hmk : ∀ w, (Instr.makeMap 63 none).run Tryz.prog w = .ok (.map (some w.heap.size)) (w.alloc (.map #[] 0)) := fun _ => by kernel_rfl
  go_enter_defers Tryz.func17, Tryz.ntmps17
  go_wp2
  rename_i hle K hK
  have B0 : Below w.heap.size w ((((((w.alloc (.cells #[.int .i64 0, .int .i64 0, .slice none 0 0] 29)).alloc (.cells #[.int .i64 0] 30)).alloc (.map #[] 0)).alloc (.cells #[.map (some (w.heap.size + 1 + 1))] 63)).alloc
      (.cells #[.slice a l.length cap, .int .i64 0, .slice (some ⟨w.heap.size + 1 + 1 + 1, 0, none⟩) 1 1, .map none] 66)).alloc (.cells #[.slice none 0 0] 68)) :=
    ((((((Below.refl _ w).alloc (Nat.le_refl _) _).alloc (by simp) _).alloc (by simp; omega) _).alloc (by simp; omega) _).alloc (by simp; omega) _).alloc (by simp; omega) _
  obtain ⟨W6, hW6⟩ : ∃ W6, ((((((w.alloc (.cells #[.int .i64 0, .int .i64 0, .slice none 0 0] 29)).alloc (.cells #[.int .i64 0] 30)).alloc (.map #[] 0)).alloc (.cells #[.map (some (w.heap.size + 1 + 1))] 63)).alloc
      (.cells #[.slice a l.length cap, .int .i64 0, .slice (some ⟨w.heap.size + 1 + 1 + 1, 0, none⟩) 1 1, .map none] 66)).alloc (.cells #[.slice none 0 0] 68)) = W6 := ⟨_, rfl⟩
  obtain ⟨hsz, q0, q1, q2, q3, q4, q5⟩ := six w _ _ _ _ _ _ hW6
  rw [hW6] at B0 ⊢
  have hL : Later ⟨wm, fun _ => none, Fr.no⟩ w ⟨wm, fun t => if t = 0 then some none else none, Fr.no⟩ W6 := ⟨fun _ => Nat.le_refl _, (fun _ _ e => nomatch e), fun b o ho => World.cell?_of_block (B0.block b (by
    rcases Nat.lt_or_ge b w.heap.size with hh | hh
    · exact hh
    · replace ho : o < wm b := ho; rw [hwm b hh] at ho; omega))⟩
  have hu' := RC_later hL _ _ hu
  have i0 := inv17 (toks := .lst (tagOf (l.map (CC.encV TI.tok))) (l.map (CC.encV TI.tok))) hwm hsz q2 q3 q4 q5 rfl hu'
  have hV : VKs CC ⟨[(w.heap.size + 4, [.lst (tagOf (l.map (CC.encV TI.tok))) (l.map (CC.encV TI.tok)), .at (.int .i64 0), .at (.slice (some ⟨w.heap.size + 3, 0, none⟩) 1 1), .at (.map none)], 4), (w.heap.size + 5, [.lst (.own 0 true 3) []], 1)], [0], 1, [(w.heap.size + 3, .sc [[]] 1, [w.heap.size + 3, w.heap.size + 2])]⟩
      k17 (x17 l) [.lst (tagOf (l.map (CC.encV TI.tok))) (l.map (CC.encV TI.tok)), .at (pv (w.heap.size + 4)), .at (pv (w.heap.size + 5))] [.inr (w.heap.size + 4), .ob (w.heap.size + 3), .inr (w.heap.size + 5), .inl 0] :=
    ⟨_, _, [], _, rfl, rfl, ⟨rfl, rfl⟩, _, _, [.inr (w.heap.size + 4), .ob (w.heap.size + 3)], [.inr (w.heap.size + 5), .inl 0], rfl, rfl, ⟨_, _, [.ob (w.heap.size + 3)], rfl, by simp [Al.look],
      ⟨_, _, [], [.ob (w.heap.size + 3)], rfl, rfl, ⟨rfl, rfl⟩, _, _, [], [.ob (w.heap.size + 3)], rfl, rfl, ⟨rfl, rfl⟩, _, _, [.ob (w.heap.size + 3)], [], rfl, rfl, ⟨w.heap.size + 3, 1, _, rfl, by rw [olook_cons, if_pos rfl]; rfl, rfl⟩, _, _, [], [], rfl, rfl, ⟨⟨none, rfl⟩, rfl⟩, rfl, rfl⟩, rfl⟩,
      _, _, [.inr (w.heap.size + 5), .inl 0], [], rfl, rfl, ⟨_, [.lst (.own 0 true 3) []], [.inl 0], rfl, by simp [Al.look], ⟨_, _, [.inl 0], [], rfl, rfl, ⟨0, rfl, by simp, by simp, rfl⟩, rfl, rfl⟩, rfl⟩, rfl, rfl⟩
  have H := rest17_ok fu (pv w.heap.size) (pv (w.heap.size + 1)) c37 h37 (X := ⟨w.heap.size + 2, ⟨28, [(2, pv w.heap.size), (3, pv (w.heap.size + 1))]⟩, none, dfs17 w.heap.size⟩) rfl (x := x17 l) (oc := oc) hoc hV (by simp)
  refine wpIn_wide.1 (wpIn_mono (H ⟨wm, fun t => if t = 0 then some none else none, Fr.no⟩ _ W6 ⟨i0, fun k => ?_, ⟨rfl, fun p hp => ?_⟩, rfl, (hgl.below B0 fun _ => Nat.le_refl _).mono (Nat.le_add_right _ 2)⟩) ?_)
  · have hat : ∀ v : Value, one v = true → RV ⟨wm, fun t => if t = 0 then some none else none, Fr.no⟩ W6 (.at v) v := fun v hv => RV.of_RV1 ⟨[v], by simp [RC, hv], rfl⟩
    show RV _ _ (Env.get [(2, .at (pv w.heap.size)), (3, .at (pv (w.heap.size + 1))), (0, .lst (tagOf (l.map (CC.encV TI.tok))) (l.map (CC.encV TI.tok))), (4, .at (pv (w.heap.size + 4))), (5, .at (pv (w.heap.size + 5)))] k) _
    simp only [Env.get]
    split
    · rename_i e; subst e; exact hat _ rfl
    split
    · rename_i e; subst e; exact hat _ rfl
    split
    · rename_i e; subst e; exact RV.of_RV1 ⟨_, hu', rfl⟩
    split
    · rename_i e; subst e; exact hat _ rfl
    split
    · rename_i e; subst e; exact hat _ rfl
    trivial
  · simp only [List.mem_cons, List.not_mem_nil, or_false] at hp
    rcases hp with rfl | rfl <;> rfl
  · rintro ex a' w' ⟨g', e', s', k1, k2, k3⟩
    have S1 : Step w.heap.size ⟨wm, fun t => if t = 0 then some none else none, Fr.no⟩ W6 g' w' := ⟨k1.later, k1.below.mono (Nat.le_add_right _ 2), k1.fz, fun b hb => k1.wmB b (Nat.lt_of_lt_of_le hb (Nat.le_add_right _ 2)), k1.fr⟩
    have p0 : w'.heap[w.heap.size]? = _ := (k1.below.block _ (by show w.heap.size < w.heap.size + 2; omega)).trans q0
    have p1 : w'.heap[w.heap.size + 1]? = _ := (k1.below.block _ (by show w.heap.size + 1 < w.heap.size + 2; omega)).trans q1
    have hw0 : g'.wm w.heap.size = 0 := (k1.wmB _ (by show w.heap.size < w.heap.size + 2; omega)).trans (hwm _ (Nat.le_refl _))
    have hw1 : g'.wm (w.heap.size + 1) = 0 := (k1.wmB _ (by show w.heap.size + 1 < w.heap.size + 2; omega)).trans (hwm _ (Nat.le_succ _))
    have hg' : GlobOk w.heap.size g'.wm w' := hgl.below (B0.trans S1.below) fun b => k1.later.wm b
    have all : ∀ g2 W2, Step w.heap.size ⟨wm, fun t => if t = 0 then some none else none, Fr.no⟩ W6 g2 W2 → Step w.heap.size ⟨wm, fun _ => none, Fr.no⟩ w ⟨g2.wm, fun _ => none, Fr.no⟩ W2 := fun g2 W2 S2 =>
      ⟨⟨S2.later.wm, (fun _ _ e => nomatch e), fun b o ho => (S2.later.cell b o ho).trans (hL.cell b o ho)⟩, B0.trans S2.below, (fun b hb => by cases hb), S2.wmB, rfl⟩
    have good : QEnd CC ([parK, ptsK] : LK) [(2, pv w.heap.size), (3, pv (w.heap.size + 1))] [4, 5] oc e' s' → K a' w' := by
      rintro ⟨m1, y, rfl, m2⟩
      refine hK a' w' (fin17 k2 ⟨m1, y, rfl, m2⟩ p0 p1 hw0 hw1 hg' k1.fr fun g2 W2 v r1 r2 r3 => ?_)
      exact ⟨v, g2.wm, rfl, r2, all g2 W2 (S1.trans r1), RV.fr _ _ r3⟩
    cases ex with
    | normal => exact good k3
    | ret => cases k3.1
    | exit id =>
      obtain ⟨⟨rfl, _⟩, k3⟩ := k3
      exact good k3
    | panic c =>
      obtain ⟨rfl, rfl⟩ := k3
      refine bad17 (k2.size.2 (2, pv w.heap.size) (by simp)) (k2.size.2 (3, pv (w.heap.size + 1)) (by simp)) k2.df p0 p1 fun W2 r1 r2 r3 r4 r5 => ?_
      have hL2 : Later g' w' g' W2 := ⟨fun _ => Nat.le_refl _, fun _ _ e => e, fun b o ho => World.cell?_of_block (r2 b (by
        rcases Nat.lt_or_ge b w'.heap.size with hh | hh
        · exact hh
        · rw [k2.inv.fresh b hh] at ho; omega) (fun e => by subst e; rw [hw0] at ho; omega) (fun e => by subst e; rw [hw1] at ho; omega))⟩
      have hb : Below w.heap.size w' W2 := ⟨r3, r4, r5, r1, fun k hk => r2 k (by have := (B0.trans S1.below).size; omega) (by omega) (by omega)⟩
      refine ⟨_, g'.wm, rfl, fun b hb => k2.inv.fresh b (Nat.le_trans r1 hb), all g' W2 (S1.trans ⟨hL2, hb, fun b hb => (by rw [k1.fr] at hb; cases hb), fun _ _ => rfl, rfl⟩), ?_⟩
      refine RV_fin (xs := [encNd (Nd.mk 0 0 []), .at (.int .i64 160)]) (us := [.agg #[.int .i64 0, .int .i64 0, .slice none 0 0], .int .i64 160]) (.cons ⟨[.int .i64 0, .int .i64 0, .slice none 0 0], ?_, rfl⟩ (.cons ⟨[.int .i64 160], ?_, rfl⟩ .nil))
      · rw [encNd_mk]
        simp only [RC, RCs, vi, sl]
        exact ⟨[_], _, rfl, ⟨rfl, rfl⟩, [_], _, rfl, ⟨rfl, rfl⟩, [_], [], rfl, .inl ⟨rfl, rfl, trivial⟩, rfl⟩
      · simp only [RC]
        exact ⟨trivial, rfl⟩
    | goto l => exact k3.elim
    | outgrown => exact k3.elim
theorem pure17_long {l : List TokT} (hl : 4000 < l.length) : PureF Tryz.prog 17 [.lst (tagOf (l.map (CC.encV TI.tok))) (l.map (CC.encV TI.tok))] (.tup [encNd (Nd.mk 0 0 []), .at (.int .i64 2)]) := by
  intro wm w vs hwm hgl hv
  obtain ⟨v, rfl⟩ : ∃ v, vs = [v] := by cases hv with | cons _ hv => cases hv; exact ⟨_, rfl⟩
  cases hv with
  | cons h _ =>
    obtain ⟨us, h1, h2⟩ := h
    have hml : (l.map (CC.encV TI.tok)).length = l.length := List.length_map _
    obtain ⟨a, cap, rfl⟩ : ∃ a cap, v = .slice a l.length cap := by
      simp only [RC] at h1
      rcases h1 with ⟨e, rfl, _⟩ | ⟨b, o, cap, ds, rfl, _⟩
      · have : l = [] := List.map_eq_nil_iff.1 e
        subst this
        simp at hl
      · exact ⟨some ⟨b, o, none⟩, cap, h2.trans (congrArg (fun n => Value.slice (some ⟨b, o, none⟩) n cap) hml)⟩
    refine Calls.mono (long17 a l.length cap hl w) ?_
    rintro e w' ⟨rfl, hb⟩
    have hL : Later ⟨wm, fun _ => none, Fr.no⟩ w ⟨wm, fun _ => none, Fr.no⟩ w' := ⟨fun _ => Nat.le_refl _, fun _ _ e => e, fun b o ho => World.cell?_of_block (hb.block b (by
      rcases Nat.lt_or_ge b w.heap.size with hh | hh
      · exact hh
      · replace ho : o < wm b := ho; rw [hwm b hh] at ho; omega))⟩
    refine ⟨_, wm, rfl, fun b hh => hwm b (Nat.le_trans hb.size hh), ⟨hL, hb, (fun b hb => by cases hb), fun _ _ => rfl, rfl⟩, ?_⟩
    refine RV_fin (xs := [encNd (Nd.mk 0 0 []), .at (.int .i64 2)]) (us := [.agg #[.int .i64 0, .int .i64 0, .slice none 0 0], .int .i64 2]) (.cons ⟨[.int .i64 0, .int .i64 0, .slice none 0 0], ?_, rfl⟩ (.cons ⟨[.int .i64 2], ?_, rfl⟩ .nil))
    · rw [encNd_mk]
      simp only [RC, RCs, vi, sl]
      exact ⟨[_], _, rfl, ⟨rfl, rfl⟩, [_], _, rfl, ⟨rfl, rfl⟩, [_], [], rfl, .inl ⟨rfl, rfl, trivial⟩, rfl⟩
    · simp only [RC]
      exact ⟨trivial, rfl⟩
theorem pure17 (fu : Nat) (c37 : Bool × Unit → MM (Nd × Unit)) (h37 : CPOk CC Tryz.prog syn 37 (cM ([.bool] : LK) ([.st TI.node] : LK) c37)) {l : List TokT} {oc : Option (ParT × NdsT × Unit)} (hlen : l.length ≤ 4000)
    (hoc : sh17 fu (.int .i64 0) (.int .i64 0) c37 (x17 l) = some oc) : PureF Tryz.prog 17 [.lst (tagOf (l.map (CC.encV TI.tok))) (l.map (CC.encV TI.tok))] (ans17 oc) := by
  intro wm w vs hwm hgl hv
  obtain ⟨v, rfl⟩ : ∃ v, vs = [v] := by cases hv with | cons _ hv => cases hv; exact ⟨_, rfl⟩
  cases hv with
  | cons h _ =>
    obtain ⟨us, h1, h2⟩ := h
    have hml : (l.map (CC.encV TI.tok)).length = l.length := List.length_map _
    obtain ⟨a, cap, rfl, rfl⟩ : ∃ a cap, v = .slice a l.length cap ∧ us = [.slice a l.length cap] := by
      have h1' := h1
      simp only [RC] at h1
      rcases h1 with ⟨e, rfl, _⟩ | ⟨b, o, cap, ds, rfl, _⟩
      · have : l = [] := List.map_eq_nil_iff.1 e
        subst this
        exact ⟨none, 0, by rw [h2]; simp [pack], rfl⟩
      · exact ⟨some ⟨b, o, none⟩, cap, h2.trans (congrArg (fun n => Value.slice (some ⟨b, o, none⟩) n cap) hml), congrArg (fun n => [Value.slice (some ⟨b, o, none⟩) n cap]) hml⟩
    exact short17 fu c37 h37 hlen hoc a cap wm w hwm hgl h1
end Go.Proofs.YtnamdpbcpnnhaaaGreatDoor
end
section
set_option linter.unusedVariables false
set_option linter.unusedSimpArgs false
namespace Go.Proofs.YtnamdpbcpnnhaaaGreatDoor
open Go.Al Go.Den
def cv17 : Option (ParT × NdsT × Unit) → Nd × Int × Unit
  | none => (Nd.mk 0 0 [], 160, ())
  | some y => (Nd.mk 1 0 y.2.1.1, 0, ())
noncomputable def c17 (fu n : Nat) (x : List TokT × Unit) : Option (Nd × Int × Unit) :=
  if x.1.length ≤ 4000 then (sh17 fu (.int .i64 0) (.int .i64 0) (rs fu n).c37 (x17 x.1)).map cv17 else some (Nd.mk 0 0 [], 2, ())
theorem fin17r (nd : Nd) (e : Int) : finV ((argTs CC rs17 (fun _ => false) 0 (nd, e, ())).map (trT CC ⟨id, id, id, id⟩)) = .tup [encNd nd, .at (.int .i64 e)] := by
  have h := CCok.enc ⟨id, id, id, id⟩ TI.node nd
  show V.tup [trT CC ⟨id, id, id, id⟩ (CC.enc TI.node nd), .at (.int .i64 e)] = _
  rw [h]; rfl
theorem ok17' (fu n : Nat) (l : List TokT) (u : Unit) (y : Nd × Int × Unit) (hx : c17 fu n (l, u) = some y) (vs : List V) (hvs : ArgVs CC as17 ((l, u) : denAs as17) vs) : PureF Tryz.prog 17 vs (.tup [encNd y.1, .at (.int .i64 y.2.1)]) := by
  obtain ⟨v, vs', rfl, hv, hvs⟩ := hvs
  replace hvs : vs' = [] := hvs
  subst hvs
  replace hv : v = .lst (tagOf (l.map (CC.encV TI.tok))) (l.map (CC.encV TI.tok)) := hv
  subst hv
  by_cases h : l.length ≤ 4000
  · have h2 : c17 fu n (l, u) = (sh17 fu (.int .i64 0) (.int .i64 0) (rs fu n).c37 (x17 l)).map cv17 := if_pos h
    rw [h2] at hx
    cases hoc : sh17 fu (.int .i64 0) (.int .i64 0) (rs fu n).c37 (x17 l) with
    | none => rw [hoc] at hx; cases hx
    | some oc =>
      rw [hoc] at hx
      injection hx with hx
      subst hx
      have hp := pure17 fu (rs fu n).c37 (rok fu n).h37 h hoc
      cases oc with
      | none => exact hp
      | some z => exact hp
  · have h2 : c17 fu n (l, u) = some (Nd.mk 0 0 [], 2, ()) := if_neg h
    rw [h2] at hx
    injection hx with hx
    subst hx
    exact pure17_long (Nat.lt_of_not_le h)
theorem ok17 (fu n : Nat) : ConOk CC Tryz.prog 17 ⟨as17, rs17, c17 fu n⟩ := fun x y hx vs hvs => by
  have h := ok17' fu n x.1 x.2 y hx vs hvs
  have e : finV ((argTs CC rs17 (fun _ => false) 0 y).map (trT CC ⟨id, id, id, id⟩)) = _ := fin17r y.1 y.2.1
  show PureF Tryz.prog 17 vs (finV ((argTs CC rs17 (fun _ => false) 0 y).map (trT CC ⟨id, id, id, id⟩)))
  rw [e]
  exact h
end Go.Proofs.YtnamdpbcpnnhaaaGreatDoor
end
section
set_option linter.unusedVariables false
set_option linter.unusedSimpArgs false
namespace Go.Proofs.YtnamdpbcpnnhaaaGreatDoor
open Go.Al Go.Den Go.RowKit Go.Shelf
def El (g : Gh) (w0 : World) : Type := { x : Nd × Value // RV g w0 (encNd x.1) x.2 }
def exb (bx : Nat) (W : World) (b : Nat) : Prop := b = bx ∨ ∃ o l c, W.cell? ⟨bx, 0, none⟩ = some (.slice (some ⟨b, o, none⟩) l c)
def BoxOk (n0 bx : Nat) (W : World) : Prop := n0 ≤ bx ∧ (∃ arr t m, W.heap[bx]? = some (.cells arr t m)) ∧ ∀ b, exb bx W b → n0 ≤ b ∧ b < W.heap.size
structure Kept (n0 bx : Nat) (A B : World) : Prop where
  ok : BoxOk n0 bx B
  size : A.heap.size ≤ B.heap.size
  same : ∀ b o v, A.cell? ⟨b, o, none⟩ = some v → ¬ exb bx A b → B.cell? ⟨b, o, none⟩ = some v
  ex : ∀ b, exb bx B b → exb bx A b ∨ A.heap.size ≤ b
  low : ∀ b, b < n0 → B.heap[b]? = A.heap[b]?
def KeptIf (n0 bx : Nat) (A B : World) : Prop := BoxOk n0 bx A → Kept n0 bx A B
theorem cell_lt {A : World} {b o : Nat} {v : Value} (h : A.cell? ⟨b, o, none⟩ = some v) : b < A.heap.size := by
  rcases Nat.lt_or_ge b A.heap.size with h1 | h1
  · exact h1
  · unfold World.cell? at h
    have : A.heap[b]? = none := Array.getElem?_eq_none h1
    simp only [this] at h
    cases h
theorem cell_of_heap {A B : World} {b : Nat} (h : B.heap[b]? = A.heap[b]?) (o : Nat) : B.cell? ⟨b, o, none⟩ = A.cell? ⟨b, o, none⟩ := World.cell?_of_block h
theorem Kept.refl {n0 bx : Nat} {A : World} (h : BoxOk n0 bx A) : Kept n0 bx A A := ⟨h, Nat.le_refl _, fun _ _ _ h _ => h, fun _ h => .inl h, fun _ _ => rfl⟩
theorem Kept.trans {n0 bx : Nat} {A B C : World} (h : Kept n0 bx A B) (k : Kept n0 bx B C) : Kept n0 bx A C := by
  refine ⟨k.ok, Nat.le_trans h.size k.size, fun b o v hb hx => ?_, fun b hb => ?_, fun b hb => (k.low b hb).trans (h.low b hb)⟩
  · refine k.same b o v (h.same b o v hb hx) (fun hx2 => ?_)
    rcases h.ex b hx2 with h1 | h1
    · exact hx h1
    · have := cell_lt hb; omega
  · rcases k.ex b hb with h1 | h1
    · exact h.ex b h1
    · exact .inr (Nat.le_trans h.size h1)
theorem keptIf_t {n0 bx : Nat} {A B C : World} (h : KeptIf n0 bx A B) (k : KeptIf n0 bx B C) : KeptIf n0 bx A C := fun hA => (h hA).trans (k (h hA).ok)
theorem exb_congr {bx : Nat} {A B : World} (h : B.heap[bx]? = A.heap[bx]?) (b : Nat) : exb bx B b ↔ exb bx A b := by
  unfold exb; rw [cell_of_heap h]
theorem BoxOk.grown {n0 bx : Nat} {A B : World} (h : BoxOk n0 bx A) (hs : A.heap.size ≤ B.heap.size) (hb : B.heap[bx]? = A.heap[bx]?) : BoxOk n0 bx B := by
  obtain ⟨h1, ⟨arr, t, m, h2⟩, h3⟩ := h
  exact ⟨h1, ⟨arr, t, m, hb.trans h2⟩, fun b hx => ⟨(h3 b ((exb_congr hb b).1 hx)).1, Nat.lt_of_lt_of_le (h3 b ((exb_congr hb b).1 hx)).2 hs⟩⟩
theorem BoxOk.lt {n0 bx : Nat} {A : World} (h : BoxOk n0 bx A) : bx < A.heap.size := (h.2.2 bx (.inl rfl)).2
theorem Kept.grown {n0 bx : Nat} {A B : World} (h : BoxOk n0 bx A) (hg : A.grownBy B none) : Kept n0 bx A B := by
  have hb : ∀ b, b < A.heap.size → B.heap[b]? = A.heap[b]? := fun b hb => hg.block b hb (by simp)
  refine ⟨h.grown hg.size (hb bx h.lt), hg.size, fun b o v ho _ => (cell_of_heap (hb b (cell_lt ho)) o).trans ho, fun b hx => .inl ((exb_congr (hb bx h.lt) b).1 hx), fun b hl => hb b (Nat.lt_trans (Nat.lt_of_lt_of_le hl h.1) h.lt)⟩
theorem keptIf_b {n0 bx : Nat} (W : World) (l : Nat) (o o' : Obj) (hl : n0 ≤ l) (h : W.heap[l]? = some o) (hc : o.isCells = false) : KeptIf n0 bx W (W.putObj l o') := by
  intro hW
  have hne : bx ≠ l := by
    rintro rfl
    obtain ⟨_, ⟨arr, t, m, h2⟩, _⟩ := hW
    rw [h] at h2; injection h2 with h2; subst h2; cases hc
  have hb : (W.putObj l o').heap[bx]? = W.heap[bx]? := World.putObj_heap_other hne
  have hsz : (W.putObj l o').heap.size = W.heap.size := by simp [World.putObj]
  refine ⟨hW.grown (Nat.le_of_eq hsz.symm) hb, Nat.le_of_eq hsz.symm, fun b o1 v h1 _ => (cell_of_heap (World.putObj_heap_other ?_) o1).trans h1, fun b hx => .inl ((exb_congr hb b).1 hx), fun b hb => World.putObj_heap_other (by omega)⟩
  rintro rfl
  unfold World.cell? at h1
  simp only [h] at h1
  cases o <;> first | (cases hc; done) | (cases h1; done) | (simp at h1; done)
def Same (g : Gh) (w0 W : World) : Prop := ∀ b o, o < g.wm b → W.cell? ⟨b, o, none⟩ = w0.cell? ⟨b, o, none⟩
theorem Same.later {wm : Nat → Nat} {w0 W : World} (h : Same ⟨wm, fun _ => none, Fr.no⟩ w0 W) : Later ⟨wm, fun _ => none, Fr.no⟩ w0 ⟨wm, fun _ => none, Fr.no⟩ W := ⟨fun _ => Nat.le_refl _, fun _ _ h => h, h⟩
theorem Same.back {wm : Nat → Nat} {w0 W : World} (h : Same ⟨wm, fun _ => none, Fr.no⟩ w0 W) : Later ⟨wm, fun _ => none, Fr.no⟩ W ⟨wm, fun _ => none, Fr.no⟩ w0 := ⟨fun _ => Nat.le_refl _, fun _ _ h => h, fun b o ho => (h b o ho).symm⟩
theorem Same.kept {wm : Nat → Nat} {n0 bx : Nat} {w0 W W' : World} (hwm : ∀ b, n0 ≤ b → wm b = 0) (h : Same ⟨wm, fun _ => none, Fr.no⟩ w0 W) (k : Kept n0 bx W W') : Same ⟨wm, fun _ => none, Fr.no⟩ w0 W' := fun b o ho => by
  have hb : b < n0 := by
    rcases Nat.lt_or_ge b n0 with h1 | h1
    · exact h1
    · replace ho : o < wm b := ho
      rw [hwm b h1] at ho; omega
  exact (cell_of_heap (k.low b hb) o).trans (h b o ho)
mutual
/-- A tree's parts, the outer ones first. -/
def allT : Nd → List Nd
  | .mk k a ks => .mk k a ks :: allK ks
def allK : List Nd → List Nd
  | [] => []
  | t :: r => allT t ++ allK r
end
theorem RV_node {g : Gh} {w : World} {k a : Int} {ks : List Nd} {v : Value} (h : RV g w (encNd (.mk k a ks)) v) : ∃ sv, v = .agg #[.int .i64 k, .int .i64 a, sv] ∧ RC g w (.lst (tagOf (encNds ks)) (encNds ks)) [sv] := by
  obtain ⟨us, h1, h2⟩ := RV_agg (show RV g w (.agg [vi k, vi a, sl (encNds ks)]) v from h)
  simp only [RCs, vi, sl] at h1
  obtain ⟨u1, u2, rfl, ⟨rfl, _⟩, u3, u4, rfl, ⟨rfl, _⟩, u5, u6, rfl, h3, rfl⟩ := h1
  have := RC_length g w _ _ h3
  simp only [V.size] at this
  obtain ⟨sv, rfl⟩ := List.length_eq_one_iff.1 this
  exact ⟨sv, by rw [h2]; simp, h3⟩
theorem RCs_nodes {g : Gh} {w : World} : ∀ {ks : List Nd} {us : List Value} (i : Nat) (h : i < ks.length), RCs g w (encNds ks) us → ∃ v0 v1 v2, RV g w (encNd ks[i]) (.agg #[v0, v1, v2]) ∧ us[3 * i]? = some v0 ∧ us[3 * i + 1]? = some v1 ∧ us[3 * i + 2]? = some v2
  | .mk k a l :: r, us, 0, _, h => by
    simp only [encNds, encNd, RCs] at h
    obtain ⟨u1, u2, rfl, h1, h2⟩ := h
    have hv : RV g w (encNd (.mk k a l)) (.agg u1.toArray) := RV_agg_mk (by simpa only [RC] using h1)
    obtain ⟨sv, e, _⟩ := RV_node hv
    have : u1 = [.int .i64 k, .int .i64 a, sv] := by
      have := congrArg (fun v => match v with | Value.agg a => a.toList | _ => []) e
      simpa using this
    subst this
    exact ⟨_, _, _, hv, rfl, rfl, rfl⟩
  | .mk k a l :: r, us, i + 1, hi, h => by
    simp only [encNds, encNd, RCs] at h
    obtain ⟨u1, u2, rfl, h1, h2⟩ := h
    have h3 := RC_length g w _ _ h1
    have h4 : u1.length = 3 := by rw [h3]; rfl
    obtain ⟨v0, v1, v2, k0, k1, k2, k3⟩ := RCs_nodes i (by simpa using hi) h2
    have ap : ∀ j, (u1 ++ u2)[3 * (i + 1) + j]? = u2[3 * i + j]? := fun j => by
      rw [List.getElem?_append_right (by omega), h4]; congr 1; omega
    exact ⟨v0, v1, v2, k0, (ap 0).trans k1, (ap 1).trans k2, (ap 2).trans k3⟩
theorem setCell_last (w : World) (t : TypeId) (c : Array Value) (i : Nat) (v : Value) : (w.alloc (.cells c t)).setCell ⟨w.heap.size, i, none⟩ v = w.alloc (.cells (c.setIfInBounds i v) t) := by
  unfold World.setCell World.alloc
  simp only [Option.isSome_none, Bool.false_eq_true, if_false]
  congr 1
  refine Array.ext_getElem? fun j => ?_
  rw [Array.getElem?_modify, Array.getElem?_push, Array.getElem?_push]
  by_cases h : w.heap.size = j
  · subst h; simp
  · have h2 : ¬ j = w.heap.size := fun e => h e.symm
    simp [h, h2]
theorem store_last {P : Program} (w : World) (t : TypeId) (c : Array Value) (i : Nat) (hi : i < c.size) (v : Value) (hv : v.oneCell' = true) : (store ⟨w.heap.size, i, none⟩ v).run P (w.alloc (.cells c t)) = .ok () (w.alloc (.cells (c.setIfInBounds i v) t)) := by
  have h1 : (w.alloc (.cells c t)).heap[w.heap.size]? = some (.cells c t (0, 0)) := World.alloc_heap_new w _
  have h2 : (w.alloc (.cells c t)).cell? ⟨w.heap.size, i, none⟩ = some c[i] := by unfold World.cell?; simp only [h1]; simp [hi]
  have h3 : (w.alloc (.cells c t)).frozen? ⟨w.heap.size, i, none⟩ = false := by unfold World.frozen?; simp only [h1]; simp
  rw [run_store P _ _ v _ hv, h2, h3]
  simp only [Bool.false_eq_true, if_false]
  rw [setCell_last]
theorem store3 {P : Program} (w : World) (t : TypeId) (z0 z1 z2 v0 v1 v2 : Value) (h0 : v0.oneCell' = true) (h1 : v1.oneCell' = true) (h2 : v2.oneCell' = true) :
    (((store ⟨w.heap.size, 0, none⟩ v0).run P (w.alloc (.cells #[z0, z1, z2] t))).andThen fun _ w' => ((store ⟨w.heap.size, 1, none⟩ v1).run P w').andThen fun _ w' => (store ⟨w.heap.size, 2, none⟩ v2).run P w') = .ok () (w.alloc (.cells #[v0, v1, v2] t)) := by
  rw [store_last w t _ 0 (by simp) v0 h0]
  simp only [Result.andThen]
  rw [store_last w t _ 1 (by simp) v1 h1]
  simp only [Result.andThen]
  rw [store_last w t _ 2 (by simp) v2 h2]
  rfl
theorem allK_app (x : Nd) : ∀ ks : List Nd, allK (ks ++ [x]) = allK ks ++ allT x
  | [] => by simp [allK]
  | t :: r => by simp only [List.cons_append, allK, allK_app x r, List.append_assoc]
theorem allK_take : ∀ (ks : List Nd) (j : Nat), (allK (ks.take j)).length ≤ (allK ks).length
  | [], j => by simp
  | t :: r, 0 => by simp [allK]
  | t :: r, j + 1 => by have := allK_take r j; simp only [List.take_succ_cons, allK, List.length_append]; omega
theorem RV_ones3 {g : Gh} {w : World} {t : Nd} {v0 v1 v2 : Value} (h : RV g w (encNd t) (.agg #[v0, v1, v2])) : v0.oneCell' = true ∧ v1.oneCell' = true ∧ v2.oneCell' = true := by
  obtain ⟨k, a, ks⟩ := t
  obtain ⟨sv, e, h2⟩ := RV_node h
  have h3 := RC_ones _ _ _ _ h2 sv (by simp)
  injection e with e
  have e0 := congrArg Array.toList e
  simp only [List.cons.injEq, and_true] at e0
  obtain ⟨rfl, rfl, rfl⟩ := e0
  exact ⟨rfl, rfl, h3⟩
theorem meas_lt {n j : Nat} (h : j < n) : n - Int.toNat ((j + 1 : Nat) : Int) < n - Int.toNat ((j : Nat) : Int) := by
  rw [Int.toNat_natCast, Int.toNat_natCast]; omega
theorem allT_pos (t : Nd) : 0 < (allT t).length := by cases t; simp [allT]
theorem allK_len : ∀ ks : List Nd, ks.length ≤ (allK ks).length
  | [] => by simp
  | t :: r => by have := allK_len r; have := allT_pos t; simp only [allK, List.length_cons, List.length_append]; omega
theorem RC_kids {wm : Nat → Nat} {w : World} {ks : List Nd} {sv : Value} (h : RC ⟨wm, fun _ => none, Fr.no⟩ w (.lst (tagOf (encNds ks)) (encNds ks)) [sv]) :
    ∃ ad cap, sv = .slice ad ks.length cap ∧ ∀ i (hi : i < ks.length), ∃ b o v0 v1 v2, ad = some ⟨b, o, none⟩ ∧ RV ⟨wm, fun _ => none, Fr.no⟩ w (encNd ks[i]) (.agg #[v0, v1, v2]) ∧
      (w.cell? ⟨b, o + 3 * i, none⟩ = some v0 ∧ o + 3 * i < wm b) ∧ (w.cell? ⟨b, o + (3 * i + 1), none⟩ = some v1 ∧ o + (3 * i + 1) < wm b) ∧ (w.cell? ⟨b, o + (3 * i + 2), none⟩ = some v2 ∧ o + (3 * i + 2) < wm b) := by
  have hl : (encNds ks).length = ks.length := by rw [encNds_map]; simp
  simp only [RC] at h
  rcases h with ⟨he, hu, _⟩ | ⟨b, o, cap, ds, hu, hc, _, hr, _, ha⟩
  · have h0 : ks = [] := by cases ks with | nil => rfl | cons x r => cases he
    subst h0
    injection hu with hu
    exact ⟨none, 0, hu, fun i hi => absurd hi (by simp)⟩
  · injection hu with hu
    refine ⟨_, cap, by rw [hu, hl], fun i hi => ?_⟩
    obtain ⟨v0, v1, v2, k0, k1, k2, k3⟩ := RCs_nodes i hi hr
    exact ⟨b, o, v0, v1, v2, rfl, k0, ha _ _ k1, ha _ _ k2, ha _ _ k3⟩
def WalkAt (F : Fence) (l n0 bx N by' bw : Nat) (wm : Nat → Nat) (w0 : World) (J Jx : List (El ⟨wm, fun _ => none, Fr.no⟩ w0) → World → Prop) (t : Nd) : Prop :=
  ∀ (m : Nat) (v : Value) (pre : List (El ⟨wm, fun _ => none, Fr.no⟩ w0)) (W : World), Same ⟨wm, fun _ => none, Fr.no⟩ w0 W → RV ⟨wm, fun _ => none, Fr.no⟩ w0 (encNd t) v → J pre W → BoxOk n0 bx W →
    W.cell? ⟨by', 0, none⟩ = some (.func (.yield l) #[] #[]) → ¬ exb bx W by' → W.cell? ⟨bw, 0, none⟩ = some (.func (.func 71) #[] #[.pointer (some ⟨by', 0, none⟩), .pointer (some ⟨bw, 0, none⟩)]) → ¬ exb bx W bw →
    pre.length + (allT t).length ≤ N →
    CallsIn F m Tryz.prog 71 #[v, .pointer (some ⟨by', 0, none⟩), .pointer (some ⟨bw, 0, none⟩)] W fun e W' =>
      (e = .returned (.bool true) ∧ ∃ q : List (El ⟨wm, fun _ => none, Fr.no⟩ w0), q.map (·.1.1) = allT t ∧ J (pre ++ q) W' ∧ Kept n0 bx W W') ∨ (e = .returned (.bool false) ∧ ∃ q, Jx (pre ++ q) W')
set_option maxRecDepth 100000 in
set_option maxHeartbeats 1000000 in
theorem walk36 (F : Fence) (hd : F.depth = none) (hF : ∀ f, F.fn f) (hro : F.round = none) (l n0 bx N by' bw : Nat) (wm : Nat → Nat) (w0 : World) (hwm : ∀ b, n0 ≤ b → wm b = 0) (hNb : N ≤ 1000000) (J Jx : List (El ⟨wm, fun _ => none, Fr.no⟩ w0) → World → Prop)
    (hJ : ∀ pre W W', J pre W → W.grownBy W' none → J pre W')
    (hY : ∀ m pre (x : El ⟨wm, fun _ => none, Fr.no⟩ w0) W, J pre W → pre.length < N → YieldAt F m Tryz.prog l #[x.1.2] W fun e W' => (e = .returned (.bool true) ∧ J (pre ++ [x]) W' ∧ KeptIf n0 bx W W') ∨ (e = .returned (.bool false) ∧ Jx (pre ++ [x]) W'))
    (k a : Int) (ks : List Nd)
    (ih : ∀ t ∈ ks, WalkAt F l n0 bx N by' bw wm w0 J Jx t) : WalkAt F l n0 bx N by' bw wm w0 J Jx (.mk k a ks) := by
  intro m v pre W hS hv hJ0 hB hby hxy hbw hxw hN
  have hdd : ∀ k : Nat, (F.depth.isSome = true → 1 ≤ k) := fun k h => by rw [hd] at h; cases h
  obtain ⟨sv, rfl, hsv⟩ := RV_node hv
  obtain ⟨ad, cap, rfl, hkid⟩ := RC_kids hsv
  have c1 : (W.alloc (.cells #[.int .i64 k, .int .i64 a, (.slice ad ks.length cap)] 29)).cell? ⟨by', 0, none⟩ = some (.func (.yield l) #[] #[]) := by
    rw [cell_of_heap (Below.heap_alloc _ _ _ (cell_lt hby))]; exact hby
  refine callsIn_of_wp Tryz.func71 rfl (hF _) ?_ hro
  simp only [Tryz.ntmps71, List.size_toArray, List.length_cons, List.length_nil, Nat.reduceAdd, Nat.reduceSub, Array.replicate_succ, Array.replicate_zero, List.push_toArray, List.append_toArray, List.nil_append, List.cons_append]
  obtain ⟨W1, hW1⟩ : ∃ W1, W.alloc (.cells #[.int .i64 k, .int .i64 a, (.slice ad ks.length cap)] 29) = W1 := ⟨_, rfl⟩
  have hK1 : Kept n0 bx W W1 := by rw [← hW1]; exact Kept.grown hB (World.grownBy_alloc W _ none)
  have hn1 : W1.heap[W.heap.size]? = some (.cells #[.int .i64 k, .int .i64 a, (.slice ad ks.length cap)] 29 (0, 0)) := by rw [← hW1]; exact World.alloc_heap_new W _
  have e1 : W1.heap[bx]? = W.heap[bx]? := by rw [← hW1]; exact Below.heap_alloc _ _ _ hB.lt
  have hnx : ¬ exb bx W1 W.heap.size := fun h => by
    have := (hB.2.2 _ ((exb_congr e1 _).1 h)).2
    omega
  have d0 : W1.cell? ⟨W.heap.size, 0, none⟩ = some (.int .i64 k) := by simp [World.cell?, hn1]
  have d1 : W1.cell? ⟨W.heap.size, 1, none⟩ = some (.int .i64 a) := by simp [World.cell?, hn1]
  have d2 : W1.cell? ⟨W.heap.size, 2, none⟩ = some (.slice ad ks.length cap) := by simp [World.cell?, hn1]
  have hJ1 : J pre W1 := hJ pre W W1 hJ0 (by rw [← hW1]; exact World.grownBy_alloc W _ none)
  have hY1 : YieldAt F (m - 1) Tryz.prog l #[.agg #[.int .i64 k, .int .i64 a, (.slice ad ks.length cap)]] W1 fun e W2 =>
      (e = .returned (.bool true) ∧ J (pre ++ [⟨(.mk k a ks, .agg #[.int .i64 k, .int .i64 a, (.slice ad ks.length cap)]), hv⟩]) W2 ∧ Kept n0 bx W1 W2 ∧ W2.cell? ⟨W.heap.size, 2, none⟩ = some (.slice ad ks.length cap)) ∨ (e = .returned (.bool false) ∧ ∃ q, Jx (pre ++ q) W2) := by
    refine YieldAt.mono (hY (m - 1) pre ⟨(.mk k a ks, .agg #[.int .i64 k, .int .i64 a, (.slice ad ks.length cap)]), hv⟩ W1 hJ1 (by simp only [allT, List.length_cons] at hN; omega)) fun e W2 h => h.elim (fun ⟨he, hj, hk⟩ => .inl ⟨he, hj, hk hK1.ok, ?_⟩) (fun ⟨he, hx⟩ => .inr ⟨he, _, hx⟩)
    exact (hk hK1.ok).same _ _ _ d2 hnx
  obtain ⟨fn, tmps, assign, body, hy, hR⟩ := hY1
  rw [hW1] at c1
  gi_wp2_with (first
    | ((try refine ⟨hdd _, ?_⟩); refine hR.mono ?_; clear hR; rintro e W2 (⟨rfl, hJ2, hK2, hc2⟩ | ⟨rfl, hx2⟩))
    | (rw [hW1]))
  · gi_loopw [14] (fun u14 wr => ∃ (j : Nat) (q : List (El ⟨wm, fun _ => none, Fr.no⟩ w0)), u14 = .int .i64 j ∧ j ≤ ks.length ∧ q.map (·.1.1) = .mk k a ks :: allK (ks.take j) ∧ J (pre ++ q) wr ∧ Kept n0 bx W1 wr)
      (fun u14 _ => match u14 with | .int _ z => ks.length - z.toNat | _ => 0)
    case atStart => exact ⟨0, [⟨(.mk k a ks, _), hv⟩], rfl, Nat.zero_le _, rfl, hJ2, hK2⟩
    case round =>
      obtain ⟨j, q, rfl, hj, hq, hJq, hKq⟩ := hrel
      by_cases hlt : j < ks.length
      · obtain ⟨b, o, v0, v1, v2, rfl, hvj, ⟨a0, b0⟩, ⟨a1, b1⟩, ⟨a2, b2⟩⟩ := hkid j hlt
        have hSr := (hS.kept hwm hK1).kept hwm hKq
        have f0 : wr.cell? ⟨b, o + j * 3, none⟩ = some v0 := by rw [Nat.mul_comm j 3]; exact (hSr _ _ b0).trans a0
        have f1 : wr.cell? ⟨b, o + j * 3 + 1, none⟩ = some v1 := by rw [Nat.mul_comm j 3]; exact (hSr _ _ b1).trans a1
        have f2 : wr.cell? ⟨b, o + j * 3 + 2, none⟩ = some v2 := by rw [Nat.mul_comm j 3]; exact (hSr _ _ b2).trans a2
        have h1c := RV_ones3 hvj
        have hst := store3 (P := Tryz.prog) wr 29 (.int .i64 0) (.int .i64 0) (.slice none 0 0) v0 v1 v2 h1c.1 h1c.2.1 h1c.2.2
        obtain ⟨W3, hW3⟩ : ∃ W3, wr.alloc (.cells #[v0, v1, v2] 29) = W3 := ⟨_, rfl⟩
        rw [hW3] at hst
        have hK3 : Kept n0 bx wr W3 := by rw [← hW3]; exact Kept.grown hKq.ok (World.grownBy_alloc wr _ none)
        have hK03 : Kept n0 bx W W3 := (hK1.trans hKq).trans hK3
        have hn3 : W3.heap[wr.heap.size]? = some (.cells #[v0, v1, v2] 29 (0, 0)) := by rw [← hW3]; exact World.alloc_heap_new wr _
        have g0 : W3.cell? ⟨wr.heap.size, 0, none⟩ = some v0 := by simp [World.cell?, hn3]
        have g1 : W3.cell? ⟨wr.heap.size, 1, none⟩ = some v1 := by simp [World.cell?, hn3]
        have g2 : W3.cell? ⟨wr.heap.size, 2, none⟩ = some v2 := by simp [World.cell?, hn3]
        have hby3 := hK03.same _ _ _ hby hxy
        have g3 := hK03.same _ _ _ hbw hxw
        have hxy3 : ¬ exb bx W3 by' := fun h => (hK03.ex _ h).elim hxy (fun h => by have := cell_lt hby; omega)
        have hxw3 : ¬ exb bx W3 bw := fun h => (hK03.ex _ h).elim hxw (fun h => by have := cell_lt hbw; omega)
        have hJ3 : J (pre ++ q) W3 := hJ _ wr W3 hJq (by rw [← hW3]; exact World.grownBy_alloc wr _ none)
        have hql : q.length = 1 + (allK (ks.take j)).length := by
          have := congrArg List.length hq
          simp only [List.length_map, List.length_cons] at this
          omega
        have htk : ks.take (j + 1) = ks.take j ++ [ks[j]] := List.take_succ_eq_append_getElem hlt
        have hal := allK_take ks (j + 1)
        rw [htk, allK_app, List.length_append] at hal
        have ihj := ih ks[j] (List.getElem_mem hlt) (m - 1) (.agg #[v0, v1, v2]) (pre ++ q) W3 (hS.kept hwm hK03) hvj hJ3 hK3.ok hby3 hxy3 g3 hxw3 (by
          simp only [allT, List.length_cons] at hN
          rw [List.length_append]; omega)
        gi_wp2_with (first
          | (rw [hst])
          | ((try refine ⟨hdd _, ?_⟩); gi_at_call 71; refine ihj.mono ?_; clear ihj; rintro e W4 (⟨rfl, q4, hq4, hJ4, hK4⟩ | ⟨rfl, q4, hx4⟩)))
        · have hkl := allK_len ks
          simp only [allT, List.length_cons] at hN
          have hw : wrap64 ((j : Int) + 1) = ((j + 1 : Nat) : Int) := by rw [IntWalk.wrap64_in _ ⟨by omega, by omega⟩]; omega
          rw [hw]
          refine ⟨⟨j + 1, q ++ q4, rfl, hlt, ?_, by rw [← List.append_assoc]; exact hJ4, (hKq.trans hK3).trans hK4⟩, ?_⟩
          · rw [List.map_append, hq, hq4, htk, allK_app]; rfl
          · show ks.length - Int.toNat ((j + 1 : Nat) : Int) < ks.length - Int.toNat ((j : Nat) : Int)
            exact meas_lt hlt
        · go_ret
          exact .inr ⟨rfl, q ++ q4, by rw [← List.append_assoc]; exact hx4⟩
      · gi_wp2
        go_ret
        have e2 : ks.take j = ks := List.take_of_length_le (by omega)
        rw [e2] at hq
        exact .inl ⟨rfl, q, by rw [hq]; simp only [allT], hJq, hK1.trans hKq⟩
  · go_ret
    exact .inr ⟨rfl, hx2⟩
theorem walk_all (F : Fence) (hd : F.depth = none) (hF : ∀ f, F.fn f) (hro : F.round = none) (l n0 bx N by' bw : Nat) (wm : Nat → Nat) (w0 : World) (hwm : ∀ b, n0 ≤ b → wm b = 0) (hNb : N ≤ 1000000) (J Jx : List (El ⟨wm, fun _ => none, Fr.no⟩ w0) → World → Prop)
    (hJ : ∀ pre W W', J pre W → W.grownBy W' none → J pre W')
    (hY : ∀ m pre (x : El ⟨wm, fun _ => none, Fr.no⟩ w0) W, J pre W → pre.length < N → YieldAt F m Tryz.prog l #[x.1.2] W fun e W' => (e = .returned (.bool true) ∧ J (pre ++ [x]) W' ∧ KeptIf n0 bx W W') ∨ (e = .returned (.bool false) ∧ Jx (pre ++ [x]) W')) :
    ∀ t : Nd, WalkAt F l n0 bx N by' bw wm w0 J Jx t
  | .mk k a ks => walk36 F hd hF hro l n0 bx N by' bw wm w0 hwm hNb J Jx hJ hY k a ks fun t ht =>
    have : SizeOf.sizeOf t < 1 + SizeOf.sizeOf k + SizeOf.sizeOf a + SizeOf.sizeOf ks := by have := List.sizeOf_lt_of_mem ht; omega
    walk_all F hd hF hro l n0 bx N by' bw wm w0 hwm hNb J Jx hJ hY t
set_option maxRecDepth 100000 in
set_option maxHeartbeats 1000000 in
theorem all1_in (F : Fence) (hd : F.depth = none) (hF : ∀ f, F.fn f) (hro : F.round = none) (l n0 bx N Bt : Nat) (wm : Nat → Nat) (w0 : World) (hwm : ∀ b, n0 ≤ b → wm b = 0) (hNb : N ≤ 1000000) (J Jx : List (El ⟨wm, fun _ => none, Fr.no⟩ w0) → World → Prop)
    (hJ : ∀ pre W W', J pre W → W.grownBy W' none → J pre W')
    (hY : ∀ m pre (x : El ⟨wm, fun _ => none, Fr.no⟩ w0) W, J pre W → pre.length < N → YieldAt F m Tryz.prog l #[x.1.2] W fun e W' => (e = .returned (.bool true) ∧ J (pre ++ [x]) W' ∧ KeptIf n0 bx W W') ∨ (e = .returned (.bool false) ∧ Jx (pre ++ [x]) W'))
    (t : Nd) (m : Nat) (v0 v1 v2 : Value) (W : World) (hS : Same ⟨wm, fun _ => none, Fr.no⟩ w0 W) (hv : RV ⟨wm, fun _ => none, Fr.no⟩ w0 (encNd t) (.agg #[v0, v1, v2])) (hJ0 : J [] W) (hB : BoxOk n0 bx W)
    (hbt : W.heap[Bt]? = some (.cells #[v0, v1, v2] 29 (0, 0))) (hN : (allT t).length ≤ N) :
    CallsIn F m Tryz.prog 70 #[.func (.yield l) #[] #[], .pointer (some ⟨Bt, 0, none⟩)] W fun e W' => (∃ v, e = .returned v) ∧ ((∃ q : List (El ⟨wm, fun _ => none, Fr.no⟩ w0), q.map (·.1.1) = allT t ∧ J q W') ∨ (∃ q, True ∧ Jx q W')) := by
  have hdd : ∀ k : Nat, (F.depth.isSome = true → 1 ≤ k) := fun k h => by rw [hd] at h; cases h
  refine callsIn_of_wp Tryz.func70 rfl (hF _) ?_ hro
  simp only [Tryz.ntmps70, List.size_toArray, List.length_cons, List.length_nil, Nat.reduceAdd, Nat.reduceSub, Array.replicate_succ, Array.replicate_zero, List.push_toArray, List.append_toArray, List.nil_append, List.cons_append]
  obtain ⟨Wy, hWy⟩ : ∃ Wy, W.alloc (.cells #[.func (.yield l) #[] #[]] 117) = Wy := ⟨_, rfl⟩
  have hsy : Wy.heap.size = W.heap.size + 1 := by rw [← hWy]; simp
  obtain ⟨W3, hW3⟩ : ∃ W3, Wy.alloc (.cells #[.func (.func 71) #[] #[.pointer (some ⟨W.heap.size, 0, none⟩), .pointer (some ⟨W.heap.size + 1, 0, none⟩)]] 117) = W3 := ⟨_, rfl⟩
  have hst : (store ⟨W.heap.size + 1, 0, none⟩ (.func (.func 71) #[] #[.pointer (some ⟨W.heap.size, 0, none⟩), .pointer (some ⟨W.heap.size + 1, 0, none⟩)])).run Tryz.prog (Wy.alloc (.cells #[.nilFunc] 117)) = .ok () W3 := by
    have := store_last (P := Tryz.prog) Wy 117 #[.nilFunc] 0 (by simp) (.func (.func 71) #[] #[.pointer (some ⟨W.heap.size, 0, none⟩), .pointer (some ⟨W.heap.size + 1, 0, none⟩)]) rfl
    rw [hsy] at this
    rw [this, ← hW3]
    rfl
  have hKy : Kept n0 bx W Wy := by rw [← hWy]; exact Kept.grown hB (World.grownBy_alloc W _ none)
  have hK3 : Kept n0 bx W W3 := hKy.trans (by rw [← hW3]; exact Kept.grown hKy.ok (World.grownBy_alloc Wy _ none))
  have hn1 : W3.heap[W.heap.size]? = some (.cells #[.func (.yield l) #[] #[]] 117 (0, 0)) := by
    rw [← hW3, Below.heap_alloc _ _ _ (by omega), ← hWy]; exact World.alloc_heap_new W _
  have hn2 : W3.heap[W.heap.size + 1]? = some (.cells #[.func (.func 71) #[] #[.pointer (some ⟨W.heap.size, 0, none⟩), .pointer (some ⟨W.heap.size + 1, 0, none⟩)]] 117 (0, 0)) := by
    have := World.alloc_heap_new Wy (.cells #[.func (.func 71) #[] #[.pointer (some ⟨W.heap.size, 0, none⟩), .pointer (some ⟨W.heap.size + 1, 0, none⟩)]] 117 (0, 0))
    rw [hW3, hsy] at this
    exact this
  have hlb : Bt < W.heap.size := (Array.getElem?_eq_some_iff.1 hbt).1
  have hn3 : W3.heap[Bt]? = some (.cells #[v0, v1, v2] 29 (0, 0)) := by
    rw [← hW3, Below.heap_alloc _ _ _ (by omega), ← hWy, Below.heap_alloc _ _ _ hlb]; exact hbt
  have g4 : W3.cell? ⟨W.heap.size, 0, none⟩ = some (.func (.yield l) #[] #[]) := by simp [World.cell?, hn1]
  have g0 : W3.cell? ⟨Bt, 0, none⟩ = some v0 := by simp [World.cell?, hn3]
  have g1 : W3.cell? ⟨Bt, 1, none⟩ = some v1 := by simp [World.cell?, hn3]
  have g2 : W3.cell? ⟨Bt, 2, none⟩ = some v2 := by simp [World.cell?, hn3]
  have g3 : W3.cell? ⟨W.heap.size + 1, 0, none⟩ = some (.func (.func 71) #[] #[.pointer (some ⟨W.heap.size, 0, none⟩), .pointer (some ⟨W.heap.size + 1, 0, none⟩)]) := by simp [World.cell?, hn2]
  have hxn : ∀ b, W.heap.size ≤ b → ¬ exb bx W3 b := fun b hb hx => by
    have hbx : W3.heap[bx]? = W.heap[bx]? := by
      rw [← hW3, Below.heap_alloc _ _ _ (by have := hB.lt; omega), ← hWy, Below.heap_alloc _ _ _ hB.lt]
    have := (hB.2.2 _ ((exb_congr hbx b).1 hx)).2
    omega
  have hJ3 : J [] W3 := hJ _ Wy W3 (hJ _ W Wy hJ0 (by rw [← hWy]; exact World.grownBy_alloc W _ none)) (by rw [← hW3]; exact World.grownBy_alloc Wy _ none)
  have hwk := walk_all F hd hF hro l n0 bx N W.heap.size (W.heap.size + 1) wm w0 hwm hNb J Jx hJ hY t (m - 1) (.agg #[v0, v1, v2]) [] W3 (hS.kept hwm hK3) hv hJ3 hK3.ok g4 (hxn _ (Nat.le_refl _)) g3 (hxn _ (by omega)) (by simpa using hN)
  gi_wp2_with (first
    | (rw [hst])
    | ((try refine ⟨hdd _, ?_⟩); gi_at_call 71; refine hwk.mono ?_; clear hwk; rintro e W4 (⟨rfl, q4, hq4, hJ4, hK4⟩ | ⟨rfl, q4, hx4⟩)))
  · go_end0
    exact ⟨⟨_, rfl⟩, .inl ⟨q4, hq4, by simpa using hJ4⟩⟩
  · go_end0
    exact ⟨⟨_, rfl⟩, .inr ⟨q4, trivial, by simpa using hx4⟩⟩
theorem all_stops (F : Fence) (hd : F.depth = none) (hF : ∀ f, F.fn f) (hro : F.round = none) (m n0 bx Bt : Nat) (wm : Nat → Nat) (w0 w : World) (hwm : ∀ b, n0 ≤ b → wm b = 0) (t : Nd) (hNb : (allT t).length ≤ 1000000)
    (v0 v1 v2 : Value) (hS : Same ⟨wm, fun _ => none, Fr.no⟩ w0 w) (hv : RV ⟨wm, fun _ => none, Fr.no⟩ w0 (encNd t) (.agg #[v0, v1, v2])) (hB : BoxOk n0 bx w) (hn0 : n0 ≤ w.heap.size) (hbt : w.heap[Bt]? = some (.cells #[v0, v1, v2] 29 (0, 0))) :
    SeqStopsK F m Tryz.prog 70 #[.pointer (some ⟨Bt, 0, none⟩)] (fun x : El ⟨wm, fun _ => none, Fr.no⟩ w0 => #[x.1.2]) (KeptIf n0 bx) (fun q => q.map (·.1.1) = allT t) (fun _ => True) (allT t).length w := fun l J Jx W hW hJa _ hY h0 => by
  have hS2 : Same ⟨wm, fun _ => none, Fr.no⟩ w0 W := fun b o ho => by
    have hb : b < n0 := by
      rcases Nat.lt_or_ge b n0 with h1 | h1
      · exact h1
      · replace ho : o < wm b := ho
        rw [hwm b h1] at ho; omega
    exact (cell_of_heap (hW.block b (by omega)) o).trans (hS b o ho)
  exact all1_in F hd hF hro l n0 bx (allT t).length Bt wm w0 hwm hNb J Jx (fun pre A B hj hg => hJa pre A B none hj hg (fun r e => by cases e)) (fun m' pre x W' hj hl => by
      obtain ⟨fn, tmps, assign, body, hy, hR⟩ := hY pre x W' hj hl
      exact ⟨fn, tmps, assign, body, hy, hR.1, fun c cs _ => hR.2 c cs (fun d h => by rw [hd] at h; cases h)⟩)
    t m v0 v1 v2 W hS2 hv h0 (hB.grown hW.size (hW.block _ hB.lt)) ((hW.block _ (Array.getElem?_eq_some_iff.1 hbt).1).trans hbt) (Nat.le_refl _)
end Go.Proofs.YtnamdpbcpnnhaaaGreatDoor
end
section
set_option linter.unusedVariables false
set_option linter.unusedSimpArgs false
namespace Go.Proofs.YtnamdpbcpnnhaaaGreatDoor
open Go.Al Go.Den Go.RowKit Go.Shelf
attribute [local go_sem] Oper.semAt_some
theorem wpListIn_append_at {F : Fence} {n : Nat} {P : Program} (w : World) {ops : Array Oper} {rest : List Oper} {o : Oper} {a : Act} {Q : Exit → Act → World → Prop}
    (hg : o.guard = none) (s x : Operand) (t : TypeId) (hop : o.op = Op.call { callee := Callee.builtin Builtin.append, args := #[s, x], argTypes := #[t, t] })
    (base : Nat) (e : TypeId) (i : TypeInfo) (z : Value) (size bytes : Nat) (h1 : P.underlying t = some (.slice e)) (h2 : P.info? e = some i) (h3 : i.zero = some z) (h4 : i.size = size) (h5 : i.bytes = bytes) (h6 : z.cells.size = size) (h7 : 0 < size)
    (v : Value) (k : Nat) (xs : List Value) (hs : a.eval s = v) (hown : w.ownsRow base e size v k xs) (ad : Addr) (m c : Nat) (news : List Value) (hx : a.eval x = .slice (some ad) m c) (hn : news.length = m * size)
    (hc : ∀ j u, news[j]? = some u → w.cell? (ad.add j) = some u) (h1c : ∀ u ∈ news, u.oneCell' = true) (b1 : k + m ≤ maxLen) (b2 : (k + m) * bytes ≤ 140737488355328) (b3 : base ≤ w.heap.size)
    (hK : ∀ v' w', w'.ownsRow base e size v' (k + m) (xs ++ news) → w.grownBy w' v.ownBlock → (v' = .slice none 0 0 ↔ v = .slice none 0 0 ∧ m = 0) → (v'.ownBlock = v.ownBlock ∨ v'.ownBlock = some w.heap.size) → wpListIn F n P ops Q rest (a.put o.dst v') w') :
    wpListIn F n P ops Q (o :: rest) a w := by
  refine wpListIn_plain hg fun K hK' => ?_
  obtain ⟨v', w', hrun, r1, r2, r3, r4⟩ := run_append_own_at (P := P) w base t o.type e i z size bytes h1 h2 h3 h4 h5 h6 h7 v k xs hown ad m c news hn hc h1c b1 b2 b3
  unfold Oper.wpIn
  refine ⟨?_, ?_⟩
  · simp [Oper.about, hop, resolve, Target.leads, Sem.run_pure]
  · rw [Oper.semAt_plain F _ _ (by rw [hop]; intro c hc'; cases hc')]
    simp [execOp, hop, resolve, invoke, builtin, hs, hx, hrun, Result.andThen]
    exact hK' _ _ (hK v' w' r1 r2 r3 r4)
theorem own_ne {W : World} {base : Nat} {e : TypeId} {size : Nat} {v : Value} {k : Nat} {xs : List Value} (h : W.ownsRow base e size v k xs) {j : Nat} {o : Obj} (hj : W.heap[j]? = some o) (hno : ∀ cur, o ≠ .cells cur e (0, 0)) :
    v.ownBlock = none ∨ v.ownBlock ≠ some j := by
  rcases h.2 with ⟨rfl, _⟩ | ⟨g, cap, cur, rfl, _, hgb, _⟩
  · exact .inl rfl
  · refine .inr fun e' => ?_
    have : g = j := by simpa [Value.ownBlock] using e'
    subst this; rw [hgb] at hj; cases hj; exact hno cur rfl
def Grow (n0 bx : Nat) (t e : TypeId) (size : Nat) (w : World) (xs : List Value) (n : Nat) (W : World) : Prop :=
  ∃ v, W.heap[bx]? = some (.cells #[v] t (0, 0)) ∧ W.ownsRow n0 e size v n xs ∧ (n = 0 → v = .slice none 0 0) ∧ Below n0 w W
theorem Grow.exb {n0 bx : Nat} {t e : TypeId} {size : Nat} {w : World} {xs : List Value} {n : Nat} {W : World} {v : Value} (hv : W.heap[bx]? = some (.cells #[v] t (0, 0))) (hr : W.ownsRow n0 e size v n xs) (b : Nat) :
    exb bx W b ↔ b = bx ∨ v.ownBlock = some b := by
  have hc : W.cell? ⟨bx, 0, none⟩ = some v := by simp [World.cell?, hv]
  unfold Go.Proofs.YtnamdpbcpnnhaaaGreatDoor.exb
  rw [hc]
  refine or_congr Iff.rfl ⟨fun ⟨o, l, c, h⟩ => ?_, fun h => ?_⟩
  · injection h with h; subst h; rfl
  · rcases hr.2 with ⟨rfl, _⟩ | ⟨g, cap, cur, rfl, _, hgb, _⟩
    · cases h
    · have : g = b := by simpa [Value.ownBlock] using h
      subst this; exact ⟨_, _, _, rfl⟩
theorem Grow.box {n0 bx : Nat} {t e : TypeId} {size : Nat} {w : World} {xs : List Value} {n : Nat} {W : World} (h0 : n0 ≤ bx) (h : Grow n0 bx t e size w xs n W) : BoxOk n0 bx W := by
  obtain ⟨v, hv, hr, _, hb⟩ := h
  refine ⟨h0, ⟨_, _, _, hv⟩, fun b hx => ?_⟩
  rcases (Grow.exb (w := w) hv hr b).1 hx with rfl | h
  · exact ⟨h0, (Array.getElem?_eq_some_iff.1 hv).1⟩
  · rcases hr.2 with ⟨rfl, _⟩ | ⟨g, cap, cur, rfl, hg, hgb, _⟩
    · cases h
    · have : g = b := by simpa [Value.ownBlock] using h
      subst this; exact ⟨hg, (Array.getElem?_eq_some_iff.1 hgb).1⟩
theorem Grow.own {n0 bx : Nat} {t e : TypeId} {size : Nat} {w : World} {xs : List Value} {n : Nat} {A B : World} {row : Option Nat} (h0 : n0 ≤ w.heap.size) (h : Grow n0 bx t e size w xs n A) (hg : A.grownBy B row) (hr : ∀ r, row = some r → n0 ≤ r ∧ ∃ o : Obj, A.heap[r]? = some o ∧ o.isCells = false) : Grow n0 bx t e size w xs n B := by
  obtain ⟨v, hv, hr', hz, hb⟩ := h
  have hne : ∀ {b : Nat} {o : Obj}, A.heap[b]? = some o → o.isCells = true → some b ≠ row := fun hb hc e => by
    obtain ⟨_, o', ho, hc'⟩ := hr _ e.symm
    rw [hb] at ho; injection ho with ho; subst ho; rw [hc] at hc'; cases hc'
  refine ⟨v, (hg.block bx (Array.getElem?_eq_some_iff.1 hv).1 (hne hv rfl)).trans hv, hr'.kept hg ?_, hz, hb.grown hg (Nat.le_trans h0 hb.size) (fun k e => (hr k e).1)⟩
  rcases hr'.2 with ⟨rfl, _⟩ | ⟨g, cap, cur, rfl, _, hgb, _⟩
  · exact .inl rfl
  · exact .inr (hne hgb rfl)
theorem Grow.kept {n0 bx : Nat} {t e : TypeId} {size : Nat} {w : World} {xs xs' : List Value} {n n' : Nat} {A B : World} (h0 : n0 ≤ bx) {v v' : Value} (hv : A.heap[bx]? = some (.cells #[v] t (0, 0))) (hr : A.ownsRow n0 e size v n xs)
    (hv' : B.heap[bx]? = some (.cells #[v'] t (0, 0))) (hr' : B.ownsRow n0 e size v' n' xs') (hz : n' = 0 → v' = .slice none 0 0) (hB : Below n0 w B) (hs : A.heap.size ≤ B.heap.size)
    (hne : v'.ownBlock = v.ownBlock ∨ ∃ b, v'.ownBlock = some b ∧ A.heap.size ≤ b) (h : ∀ b, b < A.heap.size → b ≠ bx → v.ownBlock ≠ some b → B.heap[b]? = A.heap[b]?) : Kept n0 bx A B := by
  have hlow : ∀ b, b < n0 → v.ownBlock ≠ some b := fun b hb e1 => by
    rcases hr.2 with ⟨rfl, _⟩ | ⟨g, cap, cur, rfl, hg, hgb, _⟩
    · cases e1
    · have : g = b := by simpa [Value.ownBlock] using e1
      omega
  have hbx := (Array.getElem?_eq_some_iff.1 hv).1
  refine ⟨Grow.box h0 ⟨v', hv', hr', hz, hB⟩, hs, fun b o u hb hx => ?_, fun b hx => ?_, fun b hb => h b (by omega) (by omega) (hlow b hb)⟩
  · have h1 : b ≠ bx := fun e1 => hx ((Grow.exb (w := w) hv hr b).2 (.inl e1))
    have h2 : v.ownBlock ≠ some b := fun e1 => hx ((Grow.exb (w := w) hv hr b).2 (.inr e1))
    exact (cell_of_heap (h b (cell_lt hb) h1 h2) o).trans hb
  · rcases (Grow.exb (w := w) hv' hr' b).1 hx with rfl | h1
    · exact .inl (.inl rfl)
    · rcases hne with e1 | ⟨b', e1, e2⟩
      · exact .inl ((Grow.exb (w := w) hv hr b).2 (.inr (e1 ▸ h1)))
      · rw [e1] at h1; injection h1 with h1; subst h1; exact .inr e2
theorem Grow.round {n0 bx K0 : Nat} {t e : TypeId} {size : Nat} {w : World} {xs xs' : List Value} {n n' : Nat} {A B : World} (h0 : n0 ≤ bx) {v v' : Value} (hv : A.heap[bx]? = some (.cells #[v] t (0, 0))) (hr : A.ownsRow n0 e size v n xs)
    (hv' : B.heap[bx]? = some (.cells #[v'] t (0, 0))) (hr' : B.ownsRow n0 e size v' n' xs') (hz : n' = 0 → v' = .slice none 0 0) (hB : Below n0 w B) (hs : A.heap.size ≤ B.heap.size)
    (hne : v'.ownBlock = v.ownBlock ∨ ∃ b, v'.ownBlock = some b ∧ A.heap.size ≤ b) (h : ∀ b, b < A.heap.size → b ≠ bx → v.ownBlock ≠ some b → B.heap[b]? = A.heap[b]?) :
    KeepsFrom K0 A B ∧ KeptIf n0 bx A B ∧ Grow n0 bx t e size w xs' n' B := by
  refine ⟨⟨hs, fun k o _ hk hc => (h k (Array.getElem?_eq_some_iff.1 hk).1 (fun e1 => ?_) (fun e1 => ?_)).trans hk⟩, fun _ => Grow.kept h0 hv hr hv' hr' hz hB hs hne h, v', hv', hr', hz, hB⟩
  · subst e1; rw [hv] at hk; injection hk with hk; subst hk; cases hc
  · rcases hr.2 with ⟨rfl, _⟩ | ⟨g, cap, cur, rfl, _, hgb, _⟩
    · cases e1
    · have : g = k := by simpa [Value.ownBlock] using e1
      subst this; rw [hgb] at hk; injection hk with hk; subst hk; cases hc
theorem heap_set_box {W : World} {B : Nat} {v : Value} {t : TypeId} (v' : Value) (h : W.heap[B]? = some (.cells #[v] t (0, 0))) : (W.setCell ⟨B, 0, none⟩ v').heap[B]? = some (.cells #[v'] t (0, 0)) := by
  obtain ⟨hlt, hk⟩ := Array.getElem?_eq_some_iff.1 h
  show (W.heap.modify B _)[B]? = _
  rw [Array.getElem?_eq_getElem (by rw [Array.size_modify]; exact hlt), Array.getElem_modify_self, hk]
  rfl
theorem own_low {W : World} {base : Nat} {e : TypeId} {size : Nat} {v : Value} {k : Nat} {xs : List Value} (h : W.ownsRow base e size v k xs) {b : Nat} (hb : v.ownBlock = some b) : base ≤ b := by
  rcases h.2 with ⟨rfl, _⟩ | ⟨g, cap, cur, rfl, hg, _⟩
  · cases hb
  · have : g = b := by simpa [Value.ownBlock] using hb
    omega
set_option maxRecDepth 100000 in
set_option maxHeartbeats 1000000 in
theorem all_in (F : Fence) (hF : ∀ f, F.fn f) (hro : F.round = none) (m : Nat) (v0 v1 v2 : Value) (w : World) :
    CallsIn F m Tryz.prog 51 #[.agg #[v0, v1, v2]] w fun e w' => e = .returned (.func (.func 70) #[] #[.pointer (some ⟨w.heap.size, 0, none⟩)]) ∧ w' = w.alloc (.cells #[v0, v1, v2] 29) := by
  refine callsIn_of_wp Tryz.func51 rfl (hF _) ?_ hro
  simp only [Tryz.ntmps51, List.size_toArray, List.length_cons, List.length_nil, Nat.reduceAdd, Nat.reduceSub, Array.replicate_succ, Array.replicate_zero, List.push_toArray, List.append_toArray, List.nil_append, List.cons_append]
  gi_wp2
  go_ret
  exact ⟨rfl, rfl⟩
end Go.Proofs.YtnamdpbcpnnhaaaGreatDoor
end
section
set_option linter.unusedVariables false
set_option linter.unusedSimpArgs false
namespace Go.Proofs
open Go.Shelf
def Tryz.lays137_ren : Go.Shelf.Ren := ⟨fun | 137 => 90 | 217 => 120 | 266 => 133 | n => n, fun | 9 => 9 | 5 => 5 | 3 => 3 | n => n, fun | n => n⟩
theorem Tryz.lays137 : Go.Proofs.Lays.n137 Tryz.prog Tryz.lays137_ren := {
  mixed := by kernel_rfl
  f137 := Tryz.func90.trans (congrArg some (by kernel_rfl))
  f217 := Tryz.func120.trans (congrArg some (by kernel_rfl))
  f266 := Tryz.func133.trans (congrArg some (by kernel_rfl))
  t3 := Tryz.underlying3
  a3 := Tryz.isAgg3
  z3 := Tryz.sizeOf3
  v3 := Tryz.zeroValue3
  t5 := Tryz.underlying5
  a5 := Tryz.isAgg5
  z5 := Tryz.sizeOf5
  v5 := Tryz.zeroValue5
  t9 := Tryz.underlying9
  a9 := Tryz.isAgg9
  z9 := Tryz.sizeOf9
  v9 := Tryz.zeroValue9 }
open Go.RowKit in
theorem Tryz.strings_IndexByte (s : ByteArray) (c : Int) (w : World) :
    Calls Tryz.prog 90 #[.string s, .int .u8 c] w fun e w' => e = .returned (.int .i64 (Lib.indexByte s.data.toList c.toNat.toUInt8)) ∧ w' = w := Any.strings_IndexByte Tryz.lays137 s c w
def Tryz.laysM171_ren : Go.Shelf.Ren := ⟨fun | 171 => 69 | 243 => 106 | 246 => 128 | 283 => 138 | 284 => 139 | 285 => 140 | 286 => 141 | 129 => 146 | 317 => 145 | 318 => 147 | 319 => 148 | 320 => 149 | 337 => 152 | 338 => 153 | n => n, fun | 3 => 3 | 9 => 9 | 2 => 2 | 4 => 4 | 171 => 157 | 0 => 0 | 53 => 134 | 37 => 125 | 5 => 5 | 173 => 160 | 212 => 165 | 51 => 131 | 20 => 20 | 213 => 166 | 46 => 109 | 232 => 170 | 233 => 171 | n => n, fun | 17 => 5 | 18 => 6 | 19 => 7 | n => n⟩
theorem Tryz.laysM171 : Go.Proofs.LaysM.n171 Tryz.prog Tryz.laysM171_ren := {
  mixed := by kernel_rfl
  f129 := Tryz.func146.trans (congrArg some (by kernel_rfl))
  f171 := Tryz.func69.trans (congrArg some (by kernel_rfl))
  f243 := Tryz.func106.trans (congrArg some (by kernel_rfl))
  f246 := Tryz.func128.trans (congrArg some (by kernel_rfl))
  f283 := Tryz.func138.trans (congrArg some (by kernel_rfl))
  f284 := Tryz.func139.trans (congrArg some (by kernel_rfl))
  f285 := Tryz.func140.trans (congrArg some (by kernel_rfl))
  f286 := Tryz.func141.trans (congrArg some (by kernel_rfl))
  f317 := Tryz.func145.trans (congrArg some (by kernel_rfl))
  f318 := Tryz.func147.trans (congrArg some (by kernel_rfl))
  f319 := Tryz.func148.trans (congrArg some (by kernel_rfl))
  f320 := Tryz.func149.trans (congrArg some (by kernel_rfl))
  f337 := Tryz.func152.trans (congrArg some (by kernel_rfl))
  f338 := Tryz.func153.trans (congrArg some (by kernel_rfl))
  t0 := Tryz.underlying0
  a0 := Tryz.isAgg0
  z0 := Tryz.sizeOf0
  v0 := Tryz.zeroValue0
  t2 := Tryz.underlying2
  a2 := Tryz.isAgg2
  z2 := Tryz.sizeOf2
  v2 := Tryz.zeroValue2
  t3 := Tryz.underlying3
  a3 := Tryz.isAgg3
  z3 := Tryz.sizeOf3
  v3 := Tryz.zeroValue3
  t4 := Tryz.underlying4
  a4 := Tryz.isAgg4
  z4 := Tryz.sizeOf4
  v4 := Tryz.zeroValue4
  t5 := Tryz.underlying5
  a5 := Tryz.isAgg5
  z5 := Tryz.sizeOf5
  v5 := Tryz.zeroValue5
  t9 := Tryz.underlying9
  a9 := Tryz.isAgg9
  z9 := Tryz.sizeOf9
  v9 := Tryz.zeroValue9
  t20 := Tryz.underlying20
  a20 := Tryz.isAgg20
  z20 := Tryz.sizeOf20
  v20 := Tryz.zeroValue20
  t37 := Tryz.underlying125
  a37 := Tryz.isAgg125
  z37 := Tryz.sizeOf125
  v37 := Tryz.zeroValue125
  t46 := Tryz.underlying109
  a46 := Tryz.isAgg109
  z46 := Tryz.sizeOf109
  v46 := Tryz.zeroValue109
  t51 := Tryz.underlying131
  a51 := Tryz.isAgg131
  z51 := Tryz.sizeOf131
  v51 := Tryz.zeroValue131
  t53 := Tryz.underlying134
  a53 := Tryz.isAgg134
  z53 := Tryz.sizeOf134
  v53 := Tryz.zeroValue134
  t171 := Tryz.underlying157
  a171 := Tryz.isAgg157
  z171 := Tryz.sizeOf157
  v171 := Tryz.zeroValue157
  t173 := Tryz.underlying160
  a173 := Tryz.isAgg160
  z173 := Tryz.sizeOf160
  v173 := Tryz.zeroValue160
  t212 := Tryz.underlying165
  a212 := Tryz.isAgg165
  z212 := Tryz.sizeOf165
  v212 := Tryz.zeroValue165
  t213 := Tryz.underlying166
  a213 := Tryz.isAgg166
  z213 := Tryz.sizeOf166
  t232 := Tryz.underlying170
  a232 := Tryz.isAgg170
  z232 := Tryz.sizeOf170
  v232 := Tryz.zeroValue170
  t233 := Tryz.underlying171
  a233 := Tryz.isAgg171
  z233 := Tryz.sizeOf171
  v233 := Tryz.zeroValue171
  g17 := by kernel_rfl
  g18 := by kernel_rfl
  g19 := by kernel_rfl
  i0 := by kernel_rfl
  i2 := by kernel_rfl
  i3 := by kernel_rfl
  i4 := by kernel_rfl
  i5 := by kernel_rfl
  i9 := by kernel_rfl
  i20 := by kernel_rfl
  i37 := by kernel_rfl
  i46 := by kernel_rfl
  i51 := by kernel_rfl
  i53 := by kernel_rfl
  i171 := by kernel_rfl
  i173 := by kernel_rfl
  i212 := by kernel_rfl
  i232 := by kernel_rfl
  i233 := by kernel_rfl
  m17 := by kernel_rfl
  m18 := by kernel_rfl
  m19 := by kernel_rfl }
open Go.RowKit Go.Sort Go.Lib in
theorem Tryz.strconv_Itoa (n : Int) (h0 : -9223372036854775808 ≤ n) (h1 : n ≤ 9223372036854775807) (w : World) (htab : Lib.TabIs Tryz.prog w "internal/strconv.uint64pow10" .u64 Lib.pow10Tab) :
    Calls Tryz.prog 69 #[.int .i64 n] w fun e w' => e = .returned (.string ⟨(Lib.itoa n).toArray⟩) ∧ ∃ k os, w' = grow (w.drewN k) os := Any.strconv_Itoa Tryz.laysM171 n h0 h1 w htab
def Tryz.lays143_ren : Go.Shelf.Ren := ⟨fun | 143 => 91 | 219 => 121 | 217 => 120 | 225 => 134 | 224 => 135 | 267 => 136 | 266 => 133 | 314 => 144 | n => n, fun | 9 => 9 | 3 => 3 | 4 => 4 | 5 => 5 | 46 => 109 | 146 => 132 | 51 => 131 | n => n, fun | 1 => 4 | n => n⟩
theorem Tryz.lays143 : Go.Proofs.Lays.n143 Tryz.prog Tryz.lays143_ren := {
  mixed := by kernel_rfl
  f143 := Tryz.func91.trans (congrArg some (by kernel_rfl))
  f217 := Tryz.func120.trans (congrArg some (by kernel_rfl))
  f219 := Tryz.func121.trans (congrArg some (by kernel_rfl))
  f224 := Tryz.func135.trans (congrArg some (by kernel_rfl))
  f225 := Tryz.func134.trans (congrArg some (by kernel_rfl))
  f266 := Tryz.func133.trans (congrArg some (by kernel_rfl))
  f267 := Tryz.func136.trans (congrArg some (by kernel_rfl))
  f314 := Tryz.func144.trans (congrArg some (by kernel_rfl))
  t3 := Tryz.underlying3
  a3 := Tryz.isAgg3
  z3 := Tryz.sizeOf3
  v3 := Tryz.zeroValue3
  t4 := Tryz.underlying4
  a4 := Tryz.isAgg4
  z4 := Tryz.sizeOf4
  v4 := Tryz.zeroValue4
  t5 := Tryz.underlying5
  a5 := Tryz.isAgg5
  z5 := Tryz.sizeOf5
  v5 := Tryz.zeroValue5
  t9 := Tryz.underlying9
  a9 := Tryz.isAgg9
  z9 := Tryz.sizeOf9
  v9 := Tryz.zeroValue9
  t46 := Tryz.underlying109
  a46 := Tryz.isAgg109
  z46 := Tryz.sizeOf109
  v46 := Tryz.zeroValue109
  t51 := Tryz.underlying131
  a51 := Tryz.isAgg131
  z51 := Tryz.sizeOf131
  v51 := Tryz.zeroValue131
  t146 := Tryz.underlying132
  a146 := Tryz.isAgg132
  z146 := Tryz.sizeOf132
  v146 := Tryz.zeroValue132
  g1 := by kernel_rfl }
open Go.RowKit Go.Lib in
theorem Tryz.strings_Index (s sub : ByteArray) (m : Int) (w : World) (hs : s.size < 4294967281) (hm : w.cell? ⟨4, 0, none⟩ = some (.int .i64 m)) :
    Calls Tryz.prog 91 #[.string s, .string sub] w fun e w' => e = .returned (.int .i64 (Lib.index s.data.toList sub.data.toList)) ∧ w' = w := Any.strings_Index Tryz.lays143 s sub m w hs hm
def Tryz.lays99_ren : Go.Shelf.Ren := ⟨fun | 99 => 119 | 206 => 132 | n => n, fun | 9 => 9 | 4 => 4 | 3 => 3 | n => n, fun | n => n⟩
theorem Tryz.lays99 : Go.Proofs.Lays.n99 Tryz.prog Tryz.lays99_ren := {
  mixed := by kernel_rfl
  f99 := Tryz.func119.trans (congrArg some (by kernel_rfl))
  f206 := Tryz.func132.trans (congrArg some (by kernel_rfl))
  t3 := Tryz.underlying3
  a3 := Tryz.isAgg3
  z3 := Tryz.sizeOf3
  v3 := Tryz.zeroValue3
  t4 := Tryz.underlying4
  a4 := Tryz.isAgg4
  z4 := Tryz.sizeOf4
  v4 := Tryz.zeroValue4
  t9 := Tryz.underlying9
  a9 := Tryz.isAgg9
  z9 := Tryz.sizeOf9
  v9 := Tryz.zeroValue9 }
open Go.RowKit Go.Lib in
theorem Tryz.strings_HasPrefix (s p : ByteArray) (w : World) :
    Calls Tryz.prog 119 #[.string s, .string p] w fun e w' => e = .returned (.bool (Lib.hasPrefix s.data.toList p.data.toList)) ∧ w' = w := Any.strings_HasPrefix Tryz.lays99 s p w
end Go.Proofs
namespace Go.Proofs.YtnamdpbcpnnhaaaGreatDoor
open Go.Al Go.Den Go.RowKit Go.Sort
theorem glob_tab {B : Nat} {wm : Nat → Nat} {w : World} (h : GlobOk B wm w) : Lib.TabIs Tryz.prog w "internal/strconv.uint64pow10" .u64 Lib.pow10Tab := by
  obtain ⟨h0, arr, el, m, h1, h2⟩ := h.one (5, fun us => us = pow10V) (by simp [globL])
  unfold Lib.TabIs World.var?
  have e : Tryz.prog.globalNamed "internal/strconv.uint64pow10" = some 5 := by kernel_rfl
  rw [e]
  simp only [Option.bind_some]
  replace h1 : w.heap[5]? = some (.cells arr el m) := h1
  rw [h1]
  replace h2 : arr.toList = pow10V := h2
  have : arr = pow10V.toArray := by rw [← h2]
  rw [this]
  rfl
theorem glob_maxlen {B : Nat} {wm : Nat → Nat} {w : World} (h : GlobOk B wm w) : ∃ m, w.cell? ⟨4, 0, none⟩ = some (.int .i64 m) := by
  obtain ⟨h0, arr, el, m, h1, z, h2⟩ := h.one (4, fun us => ∃ m, us = [.int .i64 m]) (by simp [globL])
  refine ⟨z, ?_⟩
  unfold World.cell?
  replace h1 : w.heap[4]? = some (.cells arr el m) := h1
  simp only [h1]
  have : arr = [Value.int .i64 z].toArray := by rw [← h2]
  rw [this]
  rfl
theorem step_of_below {wm : Nat → Nat} {w w' : World} (hwm : ∀ b, w.heap.size ≤ b → wm b = 0) (hb : Below w.heap.size w w') :
    (∀ b, w'.heap.size ≤ b → wm b = 0) ∧ Step w.heap.size ⟨wm, fun _ => none, Fr.no⟩ w ⟨wm, fun _ => none, Fr.no⟩ w' := by
  have hL : Later ⟨wm, fun _ => none, Fr.no⟩ w ⟨wm, fun _ => none, Fr.no⟩ w' := ⟨fun _ => Nat.le_refl _, fun _ _ h => h, fun b o ho => by
    have hb2 : b < w.heap.size := by
      rcases Nat.lt_or_ge b w.heap.size with h | h
      · exact h
      · replace ho : o < wm b := ho
        rw [hwm b h] at ho; omega
    exact World.cell?_of_block (hb.block b hb2)⟩
  exact ⟨fun b hb2 => hwm b (Nat.le_trans hb.size hb2), ⟨hL, hb, fun b h => (by simp [Fr.no] at h), fun _ _ => rfl, rfl⟩⟩
theorem pure69 (n : Int) (h0 : -9223372036854775808 ≤ n) (h1 : n ≤ 9223372036854775807) : PureF Tryz.prog 69 [.at (.int .i64 n)] (.at (.string ⟨(Lib.itoa n).toArray⟩)) := by
  intro wm w us hwm hgl hu
  cases hu with
  | cons hu1 hu2 =>
    cases hu2
    have e := RV_at hu1
    subst e
    refine (Any.strconv_Itoa Tryz.laysM171 n h0 h1 w (glob_tab hgl)).mono ?_
    rintro e w' ⟨rfl, k, os, rfl⟩
    obtain ⟨q1, q2⟩ := step_of_below hwm (below_regrown w (w.drawn + k) os)
    exact ⟨_, wm, rfl, q1, q2, RV_at_mk rfl⟩
theorem pure90 (s : Str) (c : Int) : PureF Tryz.prog 90 [.at (.string ⟨s.toArray⟩), .at (.int .u8 c)] (.at (.int .i64 (Lib.indexByte s c.toNat.toUInt8))) := by
  intro wm w us hwm hgl hu
  cases hu with
  | cons hu1 hu2 =>
    cases hu2 with
    | cons hu2 hu3 =>
      cases hu3
      have e := RV_at hu1
      subst e
      have e := RV_at hu2
      subst e
      refine (Tryz.strings_IndexByte ⟨s.toArray⟩ c w).mono ?_
      rintro e w' ⟨rfl, rfl⟩
      obtain ⟨q1, q2⟩ := step_of_below hwm (Below.refl _ _)
      exact ⟨_, wm, rfl, q1, q2, RV_at_mk rfl⟩
theorem pure91 (s t : Str) (h : s.length < 4294967281) : PureF Tryz.prog 91 [.at (.string ⟨s.toArray⟩), .at (.string ⟨t.toArray⟩)] (.at (.int .i64 (Lib.index s t))) := by
  intro wm w us hwm hgl hu
  cases hu with
  | cons hu1 hu2 =>
    cases hu2 with
    | cons hu2 hu3 =>
      cases hu3
      have e := RV_at hu1
      subst e
      have e := RV_at hu2
      subst e
      obtain ⟨m, hm⟩ := glob_maxlen hgl
      refine (Tryz.strings_Index ⟨s.toArray⟩ ⟨t.toArray⟩ m w (by simpa [ByteArray.size] using h) hm).mono ?_
      rintro e w' ⟨rfl, rfl⟩
      obtain ⟨q1, q2⟩ := step_of_below hwm (Below.refl _ _)
      exact ⟨_, wm, rfl, q1, q2, RV_at_mk rfl⟩
def c90 (x : Str × Int × Unit) : Option (Int × Unit) := some (Lib.indexByte x.1 x.2.1.toNat.toUInt8, ())
theorem ok90' (s : Str) (c : Int) (u : Unit) (vs : List V) (hvs : ArgVs CC as90 ((s, c, u) : denAs as90) vs) : PureF Tryz.prog 90 vs (.at (.int .i64 (Lib.indexByte s c.toNat.toUInt8))) := by
  obtain ⟨v, vs', rfl, hv, v2, vs2, rfl, hv2, hvs⟩ := hvs
  replace hvs : vs2 = [] := hvs
  subst hvs
  replace hv : v = .at (.string ⟨List.toArray s⟩) := hv
  replace hv2 : v2 = .at (.int .u8 c) := hv2
  subst hv hv2
  exact pure90 s c
theorem ok90 : ConOk CC Tryz.prog 90 ⟨as90, rs90, c90⟩ := fun x y hx vs hvs => by
  have := ok90' x.1 x.2.1 x.2.2 vs hvs
  injection hx with hx
  subst hx
  exact this
def c91 (x : Str × Str × Unit) : Option (Int × Unit) := if x.1.length < 4294967281 then some (Lib.index x.1 x.2.1, ()) else none
theorem ok91' (s t : Str) (h : s.length < 4294967281) (u : Unit) (vs : List V) (hvs : ArgVs CC as91 ((s, t, u) : denAs as91) vs) : PureF Tryz.prog 91 vs (.at (.int .i64 (Lib.index s t))) := by
  obtain ⟨v, vs', rfl, hv, v2, vs2, rfl, hv2, hvs⟩ := hvs
  replace hvs : vs2 = [] := hvs
  subst hvs
  replace hv : v = .at (.string ⟨List.toArray s⟩) := hv
  replace hv2 : v2 = .at (.string ⟨List.toArray t⟩) := hv2
  subst hv hv2
  exact pure91 s t h
theorem ok91 : ConOk CC Tryz.prog 91 ⟨as91, rs91, c91⟩ := fun x y hx vs hvs => by
  obtain ⟨s, t, u⟩ := x
  by_cases h : List.length (show Str from s) < 4294967281
  · have h2 : c91 (s, t, u) = some (Lib.index s t, ()) := if_pos h
    replace hx : c91 (s, t, u) = some y := hx
    rw [h2] at hx
    injection hx with hx
    subst hx
    exact ok91' s t h u vs hvs
  · have h2 : c91 (s, t, u) = none := if_neg h
    replace hx : c91 (s, t, u) = some y := hx
    rw [h2] at hx
    cases hx
end Go.Proofs.YtnamdpbcpnnhaaaGreatDoor
end
section
set_option linter.unusedVariables false
set_option linter.unusedSimpArgs false
namespace Go.Proofs.YtnamdpbcpnnhaaaGreatDoor
open Go.Al Go.Den Go.RowKit Go.Shelf
attribute [local go_sem] Oper.semAt_some
def chG : List UInt8 → Nat → List CharT
  | [], _ => []
  | [c], i => [⟨(c.toNat : Int), (i : Int)⟩]
  | c :: d :: r, i => cond (c == 92 && d == 10) (chG r (i + 2)) (⟨(c.toNat : Int), (i : Int)⟩ :: chG (d :: r) (i + 1))
theorem chG_len : ∀ (s : List UInt8) (i : Nat), (chG s i).length ≤ s.length
  | [], _ => Nat.le_refl _
  | [c], i => Nat.le_refl _
  | c :: d :: r, i => by
    have h1 := chG_len r (i + 2)
    have h2 := chG_len (d :: r) (i + 1)
    simp only [chG]
    cases (c == 92 && d == 10)
    · simp only [cond_false, List.length_cons] at *; omega
    · simp only [cond_true, List.length_cons] at *; omega
theorem chG_step (s : List UInt8) (k : Nat) (h : k < s.length) :
    (Lib.hasPrefix (List.take (s.length - k) (s.drop k)) [92, 10] = true → k + 2 ≤ s.length ∧ chG (s.drop k) k = chG (s.drop (k + 2)) (k + 2)) ∧
    (Lib.hasPrefix (List.take (s.length - k) (s.drop k)) [92, 10] = false → chG (s.drop k) k = ⟨(s[k].toNat : Int), (k : Int)⟩ :: chG (s.drop (k + 1)) (k + 1)) := by
  have ht : List.take (s.length - k) (s.drop k) = s.drop k := List.take_of_length_le (by simp)
  rw [ht, List.drop_eq_getElem_cons h]
  unfold Lib.hasPrefix
  by_cases h2 : k + 1 < s.length
  · rw [List.drop_eq_getElem_cons h2]
    have e : [92, 10].isPrefixOf (s[k] :: s[k + 1] :: s.drop (k + 1 + 1)) = (s[k] == 92 && s[k + 1] == 10) := by
      simp only [List.isPrefixOf, Bool.and_true, Bool.beq_comm]
    rw [e]
    refine ⟨fun hh => ⟨by omega, ?_⟩, fun hh => ?_⟩
    · simp only [chG, hh, cond_true]
    · simp only [chG, hh, cond_false]
  · have e0 : s.drop (k + 1) = [] := List.drop_eq_nil_of_le (by omega)
    rw [e0]
    refine ⟨fun hh => by simp [List.isPrefixOf] at hh, fun _ => by simp [chG]⟩
def chV (x : CharT) : Value := .agg #[.int .u8 x.b, .int .i64 x.fat]
def chC (x : CharT) : List Value := [.int .u8 x.b, .int .i64 x.fat]
set_option maxRecDepth 100000 in
set_option maxHeartbeats 2000000 in
theorem chars1_in (n n0 bx : Nat) (l Bs : Nat) (s : Str) (hreach : s.length < 1000000) (J Jx : List CharT → World → Prop)
    (hY : ∀ pre x W, J pre W → pre.length < s.length → YieldAt Fence.wide (n - 1) Tryz.prog l #[chV x] W fun e W' =>
      (e = .returned (.bool true) ∧ J (pre ++ [x]) W' ∧ KeptIf n0 bx W W') ∨ (e = .returned (.bool false) ∧ Jx (pre ++ [x]) W'))
    (W : World) (hB : BoxOk n0 bx W) (hxs : ¬ exb bx W Bs) (hBs : W.cell? ⟨Bs, 0, none⟩ = some (.string ⟨s.toArray⟩)) (h0 : J [] W) :
    CallsIn Fence.wide n Tryz.prog 118 #[.func (.yield l) #[] #[], .pointer (some ⟨Bs, 0, none⟩)] W fun e W' => (∃ v, e = .returned v) ∧
      ((∃ ys, ys = chG s 0 ∧ J ys W') ∨ (∃ pre, True ∧ Jx pre W')) := by
  refine callsIn_of_wp Tryz.func118 rfl trivial ?_ rfl
  simp only [Tryz.ntmps118, List.size_toArray, List.length_cons, List.length_nil, Nat.reduceAdd, Nat.reduceSub, Array.replicate_succ, Array.replicate_zero, List.push_toArray, List.append_toArray, List.nil_append, List.cons_append]
  have hsz : (⟨s.toArray⟩ : ByteArray).size = s.length := by simp [ByteArray.size]
  gi_wp2
  gi_loopw [3] (fun i wr => ∃ (k : Nat) (pre : List CharT), k ≤ s.length ∧ i = .int .i64 (k : Int) ∧ pre ++ chG (s.drop k) k = chG s 0 ∧ J pre wr ∧ Kept n0 bx W wr)
    (fun i _ => match i with | .int _ z => s.length - z.toNat | _ => 0)
  case atStart => exact ⟨0, [], Nat.zero_le _, rfl, by simp, h0, Kept.refl hB⟩
  case round =>
    obtain ⟨k, pre, hk, rfl, hpre, hJs, hnx⟩ := hrel
    have hBs' := hnx.same _ _ _ hBs hxs
    by_cases hlt : k < s.length
    · have hF : ∀ f, Fence.wide.fn f := fun _ => trivial
      have hdd : ∀ k : Nat, (Fence.wide.depth.isSome = true → 1 ≤ k) := fun k h => by cases h
      have hlt2 : (k : Int) < (s.length : Int) := by omega
      have hge2 : ¬ ((k : Int) < 0) := by omega
      obtain ⟨hs1, hs2⟩ := chG_step s k hlt
      have hbk : ∀ h : k < (⟨s.toArray⟩ : ByteArray).size, (⟨s.toArray⟩ : ByteArray)[k]'h = s[k] := fun _ => rfl
      cases hp : Lib.hasPrefix (List.take (s.length - k) (s.drop k)) [92, 10] with
      | true =>
        obtain ⟨hk2, hc2⟩ := hs1 hp
        gi_wp2_with ((try refine ⟨hdd _, ?_⟩); gi_at_call 119; refine (callsIn_wide.2 (Tryz.strings_HasPrefix _ _ _)).mono ?_; rintro e w' ⟨rfl, rfl⟩)
        refine ⟨⟨k + 2, pre, hk2, rfl, by rw [← hc2]; exact hpre, hJs, hnx⟩, ?_⟩
        show s.length - Int.toNat ((k : Int) + 1 + 1) < s.length - Int.toNat (k : Int)
        omega
      | false =>
        have hc2 := hs2 hp
        have hpl : pre.length < s.length := by
          have e1 := congrArg List.length hpre
          have e2 := chG_len s 0
          rw [hc2] at e1
          simp only [List.length_append, List.length_cons] at e1
          omega
        obtain ⟨fn, tmps, assign, body, hy, hR⟩ := hY pre ⟨(s[k].toNat : Int), (k : Int)⟩ wr hJs hpl
        dsimp only [chV] at hy
        gi_wp2_with (first
          | ((try refine ⟨hdd _, ?_⟩); gi_at_call 119; refine (callsIn_wide.2 (Tryz.strings_HasPrefix _ _ _)).mono ?_; rintro e w' ⟨rfl, rfl⟩)
          | ((try refine ⟨hdd _, ?_⟩); refine hR.mono ?_; clear hR; rintro e W3 (⟨rfl, hJ3, hk3⟩ | ⟨rfl, hJx3⟩)))
        · refine ⟨⟨k + 1, pre ++ [⟨(s[k].toNat : Int), (k : Int)⟩], hlt, rfl, by rw [List.append_assoc, List.singleton_append, ← hc2]; exact hpre, hJ3, hnx.trans (hk3 hnx.ok)⟩, ?_⟩
          show s.length - Int.toNat ((k : Int) + 1) < s.length - Int.toNat (k : Int)
          omega
        · refine bodyPost_ret (results_none rfl _ _ _) rfl ?_
          exact ⟨⟨_, rfl⟩, .inr ⟨_, trivial, hJx3⟩⟩
    · obtain rfl : k = s.length := by omega
      gi_wp2
      go_end0
      have e : s.drop s.length = [] := List.drop_eq_nil_of_le (Nat.le_refl _)
      rw [e] at hpre
      exact ⟨⟨_, rfl⟩, .inl ⟨pre, by simpa [chG] using hpre, hJs⟩⟩
theorem chars_stops (n n0 bx Bs : Nat) (s : Str) (hreach : s.length < 1000000) (w : World) (hB : BoxOk n0 bx w) (hxs : ¬ exb bx w Bs) (hbs : w.heap[Bs]? = some (.cells #[.string ⟨s.toArray⟩] 9 (0, 0))) :
    SeqStopsK Fence.wide n Tryz.prog 118 #[.pointer (some ⟨Bs, 0, none⟩)] (fun x : CharT => #[chV x]) (KeptIf n0 bx) (fun ys => ys = chG s 0) (fun _ => True) s.length w := fun l J Jx W hW _ _ hY h0 => by
  have hbx : W.heap[bx]? = w.heap[bx]? := hW.block _ hB.lt
  have h1 : W.heap[Bs]? = some (.cells #[.string ⟨s.toArray⟩] 9 (0, 0)) := (hW.block _ (Array.getElem?_eq_some_iff.1 hbs).1).trans hbs
  exact chars1_in n n0 bx l Bs s hreach J Jx hY W (hB.grown hW.size hbx) (fun h => hxs ((exb_congr hbx Bs).1 h)) (by simp [World.cell?, h1]) h0
set_option maxRecDepth 100000 in
set_option maxHeartbeats 1000000 in
theorem chars_in (m : Nat) (s : ByteArray) (w : World) :
    CallsIn Fence.wide m Tryz.prog 87 #[.string s] w fun e w' => e = .returned (.func (.func 118) #[] #[.pointer (some ⟨w.heap.size, 0, none⟩)]) ∧ w' = w.alloc (.cells #[.string s] 9) := by
  refine callsIn_of_wp Tryz.func87 rfl trivial ?_ rfl
  simp only [Tryz.ntmps87, List.size_toArray, List.length_cons, List.length_nil, Nat.reduceAdd, Nat.reduceSub, Array.replicate_succ, Array.replicate_zero, List.push_toArray, List.append_toArray, List.nil_append, List.cons_append]
  gi_wp2
  go_ret
  exact ⟨rfl, rfl⟩
end Go.Proofs.YtnamdpbcpnnhaaaGreatDoor
end
section
set_option linter.unusedVariables false
set_option linter.unusedSimpArgs false
namespace Go.Proofs.YtnamdpbcpnnhaaaGreatDoor
open Go.Al Go.Den Go.RowKit Go.Shelf
theorem own_pure {wm : Nat → Nat} {w W' : World} (hwm : ∀ b, w.heap.size ≤ b → wm b = 0) (hbel : Below w.heap.size w W') {size n : Nat} {e : TypeId} {v : Value} {ds : List Value} (hrow : W'.ownsRow w.heap.size e size v n ds) (hz : n = 0 → v = .slice none 0 0)
    (es : List V) (hl : n = es.length) (hu : ∀ x ∈ es, x.size = size) (hrc : RCs ⟨wm, fun _ => none, Fr.no⟩ w es ds) :
    ∃ wm', (∀ b, W'.heap.size ≤ b → wm' b = 0) ∧ Step w.heap.size ⟨wm, fun _ => none, Fr.no⟩ w ⟨wm', fun _ => none, Fr.no⟩ W' ∧ RV ⟨wm', fun _ => none, Fr.no⟩ W' (.lst (tagOf es) es) v := by
  subst hl
  obtain ⟨q1, q2⟩ := step_of_below hwm hbel
  cases es with
  | nil =>
    refine ⟨wm, q1, q2, ?_⟩
    rw [hz rfl]
    exact RV_lst_mk (by unfold RC; exact .inl ⟨rfl, rfl, trivial⟩)
  | cons x r =>
    obtain ⟨hlen, ⟨_, h0⟩ | ⟨g, cap, cur, rfl, hg, hgb, hn, hm, hcs, htk⟩⟩ := hrow
    · simp at h0
    · have hgl := (Array.getElem?_eq_some_iff.1 hgb).1
      have hL : Later ⟨wm, fun _ => none, Fr.no⟩ w ⟨fun b => if b = g then ds.length else wm b, fun _ => none, Fr.no⟩ W' := by
        refine ⟨fun b => ?_, fun _ _ h => h, q2.later.cell⟩
        show wm b ≤ if b = g then ds.length else wm b
        split
        · rename_i h; rw [h, hwm g hg]; exact Nat.zero_le _
        · exact Nat.le_refl _
      refine ⟨fun b => if b = g then ds.length else wm b, fun b hb => ?_, ⟨hL, q2.below, fun b h => (by simp [Fr.no] at h), fun b hb => ?_, rfl⟩, RV_lst_mk ?_⟩
      · show (if b = g then ds.length else wm b) = 0
        rw [if_neg (by omega)]
        exact q1 b hb
      · show (if b = g then ds.length else wm b) = wm b
        rw [if_neg (by omega)]
      · simp only [RC]
        refine .inr ⟨g, 0, cap, ds, rfl, hn, by simp [tagOf, TagOk], RCs_later hL _ _ hrc, ⟨size, hu, by intro t nb s h; simp [tagOf] at h⟩, fun k u hk => ⟨?_, ?_⟩⟩
        · have hk1 : k < ds.length := (List.getElem?_eq_some_iff.1 hk).1
          rw [← htk, List.getElem?_take] at hk
          split at hk
          · simp only [World.cell?, hgb, Nat.zero_add]
            rw [Array.getElem?_toList] at hk
            simpa using hk
          · cases hk
        · have hk1 : k < ds.length := (List.getElem?_eq_some_iff.1 hk).1
          show 0 + k < if g = g then ds.length else wm g
          rw [if_pos rfl]; omega
theorem encNd_tr (t : Nd) : trT CC ⟨id, id, id, id⟩ (argT CC (.st TI.node) false t) = encNd t := by
  cases t with
  | mk k a ks => rw [encNd_mk]; rfl
end Go.Proofs.YtnamdpbcpnnhaaaGreatDoor
end
section
set_option linter.unusedVariables false
set_option linter.unusedSimpArgs false
namespace Go.Proofs.YtnamdpbcpnnhaaaGreatDoor
open Go.Al Go.Den Go.RowKit Go.Shelf
attribute [local go_sem] Oper.semAt_some
attribute [local congr] aGuard_congr aPick_congr aBin_congr aUn_congr aExtract_congr aField_congr aFieldAddr_congr aIndexAddr_congr aIndex_congr aLoad_congr aStore_congr aNew_congr aAlloc_congr aBuild_congr aBuildSlice_congr aNilCheck_congr aSlice_congr aLen_congr aMax_congr aAppend_congr sLoad_congr sStore_congr sFieldR_congr sFieldP_congr sField_congr sIndex_congr sIndexM_congr sAlloc_congr sBuild_congr sBuild2_congr sBS_congr sBSk_congr sApp_congr sAppN_congr sAppW_congr sAppS_congr sAppS2_congr sSliceB_congr aGuardD_congr
abbrev polF : Pol := ⟨fun _ => true, fun d => d == 18, fun _ => false, fun _ => false, [], fun _ => []⟩
theorem cV_zero : cV (.agg #[.int .i64 0, .int .i64 0, .slice none 0 0]) = .agg [.at (.int .i64 0), .at (.int .i64 0), .lst .nil []] := rfl
def ks32F : Nat → List Nat := fun _ => [3, 5, 6, 13]
def Row (W : World) (n0 bx : Nat) (v : Value) (n : Nat) (ds : List Value) : Prop :=
  (n = 0 ∧ v = .slice none 0 0 ∧ ds = []) ∨
  (∃ r cap arr el, v = .slice (some ⟨r, 0, none⟩) n cap ∧ n0 ≤ r ∧ r ≠ bx ∧ W.heap[r]? = some (.cells arr el (0, 0)) ∧ n ≤ cap ∧ arr.size = cap * 3 ∧ arr.toList.take (n * 3) = ds ∧ ds.length = n * 3 ∧ 0 < n ∧ ∀ d ∈ ds, one d = true)
theorem Row.own {W : World} {n0 bx n : Nat} {v : Value} {ds : List Value} (h : Row W n0 bx v n ds) {b : Nat} (hb : v.ownBlock = some b) : n0 ≤ b ∧ b ≠ bx ∧ ∃ cap arr el, v = .slice (some ⟨b, 0, none⟩) n cap ∧ W.heap[b]? = some (.cells arr el (0, 0)) := by
  rcases h with ⟨_, rfl, _⟩ | ⟨r, cap, arr, el, rfl, h1, h2, h3, _⟩
  · cases hb
  · have : r = b := by simpa [Value.ownBlock] using hb
    subst this
    exact ⟨h1, h2, cap, arr, el, rfl, h3⟩
theorem Row.kept {A B : World} {n0 bx n : Nat} {v : Value} {ds : List Value} (h : Row A n0 bx v n ds) (hk : ∀ b, v.ownBlock = some b → B.heap[b]? = A.heap[b]?) : Row B n0 bx v n ds := by
  rcases h with h | ⟨r, cap, arr, el, rfl, h1, h2, h3, h4⟩
  · exact .inl h
  · exact .inr ⟨r, cap, arr, el, rfl, h1, h2, (hk r rfl).trans h3, h4⟩
def GrowF (n0 bx : Nat) (w : World) (ds : List Value) (n : Nat) (W : World) : Prop :=
  ∃ v, (∃ t, W.heap[bx]? = some (.cells #[v] t (0, 0))) ∧ Row W n0 bx v n ds ∧ Below n0 w W
theorem exb_iff {bx : Nat} {W : World} {v : Value} {t : TypeId} (hv : W.heap[bx]? = some (.cells #[v] t (0, 0))) (hs : ∀ b o l c, v = .slice (some ⟨b, o, none⟩) l c → v.ownBlock = some b) (b : Nat) :
    exb bx W b ↔ b = bx ∨ ∃ o l c, v = .slice (some ⟨b, o, none⟩) l c := by
  have hc : W.cell? ⟨bx, 0, none⟩ = some v := by simp [World.cell?, hv]
  unfold Go.Proofs.YtnamdpbcpnnhaaaGreatDoor.exb
  rw [hc]
  exact or_congr Iff.rfl ⟨fun ⟨o, l, c, h⟩ => ⟨o, l, c, by injection h⟩, fun ⟨o, l, c, h⟩ => ⟨o, l, c, by rw [h]⟩⟩
theorem Row.exb {bx n0 n : Nat} {W : World} {v : Value} {t : TypeId} {ds : List Value} (h : Row W n0 bx v n ds) (hv : W.heap[bx]? = some (.cells #[v] t (0, 0))) (b : Nat) :
    exb bx W b ↔ b = bx ∨ v.ownBlock = some b := by
  rw [exb_iff hv (fun b o l c e => by subst e; rfl) b]
  refine or_congr Iff.rfl ⟨fun ⟨o, l, c, e⟩ => by subst e; rfl, fun e => ?_⟩
  obtain ⟨_, _, cap, arr, el, e1, _⟩ := h.own e
  exact ⟨_, _, _, e1⟩
theorem GrowF.box {n0 bx : Nat} {w : World} {ds : List Value} {n : Nat} {W : World} (h0 : n0 ≤ bx) (h : GrowF n0 bx w ds n W) : BoxOk n0 bx W := by
  obtain ⟨v, ⟨t, hv⟩, hr, hb⟩ := h
  refine ⟨h0, ⟨_, _, _, hv⟩, fun b hx => ?_⟩
  rcases (hr.exb hv b).1 hx with rfl | h
  · exact ⟨h0, (Array.getElem?_eq_some_iff.1 hv).1⟩
  · obtain ⟨h1, _, _, arr, el, _, h2⟩ := hr.own h
    exact ⟨h1, (Array.getElem?_eq_some_iff.1 h2).1⟩
theorem grown_cells {A B : World} {row : Option Nat} (hg : A.grownBy B row) (hr : ∀ r, row = some r → ∃ o : Obj, A.heap[r]? = some o ∧ o.isCells = false) {b : Nat} {arr : Array Value} {el : TypeId} {m : Nat × Nat} (h : A.heap[b]? = some (.cells arr el m)) : B.heap[b]? = some (.cells arr el m) :=
  (hg.block b (Array.getElem?_eq_some_iff.1 h).1 (fun e => by
    obtain ⟨o, ho, hc⟩ := hr b e.symm
    rw [h] at ho; injection ho with ho; subst ho; cases hc)).trans h
theorem GrowF.grown {n0 bx : Nat} {w : World} {ds : List Value} {n : Nat} {A B : World} {row : Option Nat} (h0 : n0 ≤ w.heap.size) (h : GrowF n0 bx w ds n A) (hg : A.grownBy B row) (hr : ∀ r, row = some r → n0 ≤ r ∧ ∃ o : Obj, A.heap[r]? = some o ∧ o.isCells = false) : GrowF n0 bx w ds n B := by
  obtain ⟨v, ⟨t, hv⟩, hr', hb⟩ := h
  refine ⟨v, ⟨t, grown_cells hg (fun r e => (hr r e).2) hv⟩, hr'.kept fun b e => ?_, hb.grown hg (Nat.le_trans h0 hb.size) (fun k e => (hr k e).1)⟩
  obtain ⟨_, _, _, arr, el, _, h2⟩ := hr'.own e
  exact (grown_cells hg (fun r e => (hr r e).2) h2).trans h2.symm
theorem RCs_at {g : Gh} {w : World} : ∀ {l us : List Value}, RCs g w (l.map .at) us → us = l
  | [], us, h => by simpa [RCs] using h
  | x :: l, us, h => by
    simp only [List.map_cons, RCs] at h
    obtain ⟨u1, u2, rfl, h1, h2⟩ := h
    simp only [RC] at h1
    rw [h1.1, RCs_at h2]; rfl
theorem RCs_at_mk {g : Gh} {w : World} : ∀ {l : List Value}, (∀ x ∈ l, one x = true) → RCs g w (l.map .at) l
  | [], _ => by simp [RCs]
  | x :: l, h => by
    simp only [List.map_cons, RCs]
    exact ⟨[x], l, rfl, by simp [RC, h x (by simp)], RCs_at_mk (fun y hy => h y (by simp [hy]))⟩
theorem awp_some {P : Program} {X : Cx} {c : Code} {Q : Exit → Env → S → Prop} {Post : Exit → Act → World → Prop} {e : Env} {g : Gh} {a : Act} {w : World} (hs : a.tmps.size = X.N.n ∧ ∀ p ∈ X.N.fx, a.tmps.getD p.1 undef = p.2) (hd : a.defers = X.df) (hgl : GlobOk X.B g.wm w) (hp : ∀ ex a' w' g' e' st', Step X.B g w g' w' → Al.Inv X.B g' st' w' → Q ex e' st' → Post ex a' w')
    (he : ∀ k, RV g w (e.get k) (a.tmps.getD k undef)) (h : ∃ st, awp P X c Q e st ∧ Al.Inv X.B g st w) : c.wpIn (fen X.ro) 0 P Post a w := by
  obtain ⟨st, h1, h2⟩ := h
  refine wpIn_mono (h1 g a w ⟨h2, he, hs, hd, hgl⟩) ?_
  rintro ex a' w' ⟨g', e', st', k1, k2, k3⟩
  exact hp _ _ _ _ _ _ k1 k2.inv k3
def wmF (bv : Value) (bx T3 B4 : Nat) (W : World) (b : Nat) : Nat :=
  if b = bx ∨ b = T3 ∨ b = B4 ∨ bv.ownBlock = some b then 0 else match W.heap[b]? with | some (.cells arr _ _) => arr.size + 1 | _ => 0
theorem wmF_out {bv : Value} {bx T3 B4 : Nat} {W : World} {b : Nat} (h : b = bx ∨ b = T3 ∨ b = B4 ∨ bv.ownBlock = some b) : wmF bv bx T3 B4 W b = 0 := if_pos h
theorem wmF_in {bv : Value} {bx T3 B4 : Nat} {W : World} {b : Nat} (h : ¬ (b = bx ∨ b = T3 ∨ b = B4 ∨ bv.ownBlock = some b)) {arr : Array Value} {el : TypeId} {m : Nat × Nat} (hb : W.heap[b]? = some (.cells arr el m)) : wmF bv bx T3 B4 W b = arr.size + 1 := by
  unfold wmF; rw [if_neg h, hb]
theorem wmF_new {bv : Value} {bx T3 B4 : Nat} {W : World} {b : Nat} (h : W.heap.size ≤ b) : wmF bv bx T3 B4 W b = 0 := by
  unfold wmF
  split
  · rfl
  · rw [Array.getElem?_eq_none h]
def frW (W : World) : Fr := ⟨fun b => match W.heap[b]? with | some o => !o.isCells | none => false, fun _ => false⟩
theorem frW_in {W : World} {b : Nat} {o : Obj} (h : W.heap[b]? = some o) (hc : o.isCells = false) : (frW W).b b = true := by simp [frW, h, hc]
theorem frW_out {W : World} {b : Nat} (h : (frW W).b b = true) : ∃ o, W.heap[b]? = some o ∧ o.isCells = false := by
  unfold frW at h
  simp only at h
  split at h
  · rename_i o ho; exact ⟨o, ho, by simpa using h⟩
  · cases h
theorem globF {n0 bx T3 B4 : Nat} {bv : Value} {wm : Nat → Nat} {w W : World} (h : GlobOk n0 wm w) (hb : Below n0 w W) (h1 : n0 ≤ bx) (h2 : n0 ≤ T3) (h3 : n0 ≤ B4) (h4 : ∀ b, bv.ownBlock = some b → n0 ≤ b) : GlobOk n0 (wmF bv bx T3 B4 W) W :=
  ⟨fun p hp => let ⟨h0, arr, el, m, k1, k2⟩ := h.one p hp; ⟨h0, arr, el, m, (hb.block _ h0).trans k1, k2⟩, fun p hp => by
    obtain ⟨k0, ⟨arr, el, m, k1, k2⟩, _⟩ := h.all p hp
    have k3 := (hb.block _ k0).trans k1
    refine ⟨k0, ⟨arr, el, m, k3, k2⟩, ?_⟩
    rw [wmF_in (fun e => ?_) k3, ← k2]
    · simp
    · rcases e with e | e | e | e
      · omega
      · omega
      · omega
      · have := h4 _ e; omega⟩
theorem row_cells (ds : List Value) (n : Nat) (h : ds.length = n * 3) (zs : List V) (us : List Value) (hz : zs.length = 3) :
    List.take (n * 3) (List.take (n * 3) (List.map V.at ds) ++ zs) ++ us.map V.at ++ List.drop (n * 3 + 3) (List.take (n * 3) (List.map V.at ds) ++ zs) = (ds ++ us).map V.at := by
  have e1 : List.take (n * 3) (List.map V.at ds) = List.map V.at ds := List.take_of_length_le (by simp [h])
  rw [e1, List.take_append_of_le_length (by simp [h]), e1, List.drop_eq_nil_of_le (by simp [h, hz]), List.append_nil, List.map_append]
theorem inv_of {B : Nat} {g : Gh} {W : World} {bs : List (Nat × List V × Nat)} (hB : B ≤ W.heap.size) (hf : ∀ b, W.heap.size ≤ b → g.wm b = 0) (ht : ∀ t, g.tb t = none) (hfr : ∀ b, g.fr.b b = true → ∃ o, W.heap[b]? = some o ∧ o.isCells = false) (hft : ∀ t, g.fr.t t = false)
    (h : ∀ b cs k, Go.Al.look bs b = some (cs, k) → B ≤ b ∧ g.wm b = 0 ∧ cs.length ≤ k ∧ (∀ c ∈ cs, c.isOne = true) ∧ ∃ arr el us, W.heap[b]? = some (.cells arr el (0, 0)) ∧ arr.size = k ∧ RCs g W cs us ∧ arr.toList.take cs.length = us) : Al.Inv B g ⟨bs, [], 0, []⟩ W :=
  have hz : ∀ b, g.fr.b b = true → b < W.heap.size ∧ Go.Al.look bs b = none ∧ ∀ t ∈ ([] : List Nat), ∀ d, g.tb t = some (some (b, d)) → False := fun b hb => by
    obtain ⟨o, ho, hc⟩ := hfr b hb
    refine ⟨(Array.getElem?_eq_some_iff.1 ho).1, ?_, fun t h => by simp at h⟩
    cases hl : Go.Al.look bs b with
    | none => rfl
    | some x =>
      obtain ⟨_, _, _, _, arr, el, us, h1, _⟩ := h b x.1 x.2 hl
      rw [ho] at h1; injection h1 with h1; subst h1; cases hc
  have hx : InvX B g ⟨bs, [], 0, []⟩ W := by
    refine ⟨hz, fun b o fp h => ?_, fun b o fp b' o' fp' j h => ?_, fun t h => ?_⟩
    · cases h
    · cases h
    · rw [hft] at h; cases h
  ⟨hB, h, fun t h => by simp at h, fun t h => by simp at h, fun t h => by simp at h, by simp, hf, fun t _ => ht t, hx⟩
theorem look_nilP {φ : Nat → List V → Nat → Prop} : ∀ b cs k, Go.Al.look ([] : List (Nat × List V × Nat)) b = some (cs, k) → φ b cs k := fun b cs k h => by cases h
theorem look_consP {φ : Nat → List V → Nat → Prop} {b0 k0 : Nat} {cs0 : List V} {r : List (Nat × List V × Nat)} (h0 : φ b0 cs0 k0) (hr : ∀ b cs k, Go.Al.look r b = some (cs, k) → φ b cs k) : ∀ b cs k, Go.Al.look ((b0, cs0, k0) :: r) b = some (cs, k) → φ b cs k := fun b cs k h => by
  by_cases e : b0 = b
  · subst e
    have : Go.Al.look ((b0, cs0, k0) :: r) b0 = some (cs0, k0) := by simp [Go.Al.look]
    rw [this] at h; injection h with h; injection h with h1 h2; subst h1; subst h2; exact h0
  · have : Go.Al.look ((b0, cs0, k0) :: r) b = Go.Al.look r b := by simp [Go.Al.look, e]
    rw [this] at h; exact hr b cs k h
theorem box_at {B : Nat} {g : Gh} {W : World} {b k : Nat} {l : List Value} {arr : Array Value} {el : TypeId} (h1 : B ≤ b) (h2 : g.wm b = 0) (h3 : W.heap[b]? = some (.cells arr el (0, 0))) (h4 : arr.size = k) (h5 : arr.toList.take l.length = l) (h6 : ∀ x ∈ l, one x = true) :
    B ≤ b ∧ g.wm b = 0 ∧ (l.map V.at).length ≤ k ∧ (∀ c ∈ l.map V.at, c.isOne = true) ∧ ∃ arr el us, W.heap[b]? = some (.cells arr el (0, 0)) ∧ arr.size = k ∧ RCs g W (l.map V.at) us ∧ arr.toList.take (l.map V.at).length = us := by
  refine ⟨h1, h2, ?_, fun c hc => ?_, arr, el, l, h3, h4, RCs_at_mk h6, by rw [List.length_map]; exact h5⟩
  · have := congrArg List.length h5
    rw [List.length_take] at this
    have e := Array.length_toList (xs := arr)
    rw [List.length_map]; omega
  · obtain ⟨x, _, rfl⟩ := List.mem_map.1 hc; rfl
theorem box_nil {B : Nat} {g : Gh} {W : World} {b : Nat} {el : TypeId} (h1 : B ≤ b) (h2 : g.wm b = 0) (h3 : W.heap[b]? = some (.cells #[.slice none 0 0] el (0, 0))) :
    B ≤ b ∧ g.wm b = 0 ∧ ([.lst .nil []] : List V).length ≤ 1 ∧ (∀ c ∈ ([.lst .nil []] : List V), c.isOne = true) ∧ ∃ arr el us, W.heap[b]? = some (.cells arr el (0, 0)) ∧ arr.size = 1 ∧ RCs g W [.lst .nil []] us ∧ arr.toList.take ([.lst .nil []] : List V).length = us :=
  ⟨h1, h2, Nat.le_refl _, by simp [V.isOne], _, el, [.slice none 0 0], h3, rfl, by simp only [RCs]; exact ⟨_, [], rfl, by unfold RC; exact .inl ⟨rfl, rfl, trivial⟩, rfl⟩, rfl⟩
structure BoxQ (bx T3 B4 : Nat) (kd k' a' : Int) (sv' : Value) (n : Nat) (ds : List Value) (s : S) : Prop where
  t3 : Go.Al.look s.box T3 = some ([Value.int .i64 kd].map V.at, 1)
  b4 : Go.Al.look s.box B4 = some ([Value.int .i64 k', .int .i64 a', sv'].map V.at, 3)
  row : (n = 0 ∧ ds = [] ∧ Go.Al.look s.box bx = some ([.lst .nil []], 1)) ∨ ∃ b cap, 0 < n ∧ Go.Al.look s.box bx = some ([Value.slice (some ⟨b, 0, none⟩) n cap].map V.at, 1) ∧ Go.Al.look s.box b = some (ds.map V.at, cap * 3) ∧ n ≤ cap ∧ b ≠ bx ∧ b ≠ T3 ∧ b ≠ B4 ∧ ds.length = n * 3 ∧ ∀ d ∈ ds, one d = true
theorem inv_box {B : Nat} {g : Gh} {s : S} {w : World} (h : Al.Inv B g s w) {b k : Nat} {l : List Value} (hl : Go.Al.look s.box b = some (l.map V.at, k)) : B ≤ b ∧ g.wm b = 0 ∧ ∃ arr el, w.heap[b]? = some (.cells arr el (0, 0)) ∧ arr.size = k ∧ arr.toList.take l.length = l := by
  obtain ⟨h1, h2, _, _, arr, el, us, h3, h4, h5, h6⟩ := h.box b _ k hl
  rw [RCs_at h5, List.length_map] at h6
  exact ⟨h1, h2, arr, el, h3, h4, h6⟩
theorem inv_box_all {B : Nat} {g : Gh} {s : S} {w : World} (h : Al.Inv B g s w) {b : Nat} {l : List Value} (hl : Go.Al.look s.box b = some (l.map V.at, l.length)) : ∃ el, w.heap[b]? = some (.cells l.toArray el (0, 0)) := by
  obtain ⟨_, _, arr, el, h3, h4, h6⟩ := inv_box h hl
  refine ⟨el, ?_⟩
  have h9 : arr.toList.length = l.length := by simpa using h4
  have : arr.toList = l := by rw [List.take_of_length_le (Nat.le_of_eq h9)] at h6; exact h6
  rw [h3, ← this]
theorem inv_nil {B : Nat} {g : Gh} {s : S} {w : World} (h : Al.Inv B g s w) {b : Nat} (hl : Go.Al.look s.box b = some ([.lst .nil []], 1)) : ∃ el, w.heap[b]? = some (.cells #[.slice none 0 0] el (0, 0)) := by
  obtain ⟨_, _, _, _, arr, el, us, h3, h4, h5, h6⟩ := h.box b _ 1 hl
  simp only [RCs] at h5
  obtain ⟨u1, u2, rfl, h7, rfl⟩ := h5
  simp only [RC] at h7
  rcases h7 with ⟨_, rfl, _⟩ | ⟨b', o, cap, ds, _, _, h8, _⟩
  · refine ⟨el, ?_⟩
    have : arr.toList = [.slice none 0 0] := by
      have h9 : arr.toList.length = 1 := by simpa using h4
      simpa [List.take_of_length_le, h9] using h6
    rw [h3, show arr = [Value.slice none 0 0].toArray from by rw [← this]]
  · simp [TagOk] at h8
theorem round_of {n0 bx T3 B4 K0 n n' : Nat} {kd k' a' : Int} {sv' bv : Value} {ds ds' : List Value} {w W w' : World} {g' : Gh} {s' : S} {tb tk tn : TypeId} (h0 : n0 ≤ bx) (hv : W.heap[bx]? = some (.cells #[bv] tb (0, 0))) (hr : Row W n0 bx bv n ds)
    (hT : W.heap[T3]? = some (.cells #[.int .i64 kd] tk (0, 0))) (hB4 : W.heap[B4]? = some (.cells #[.int .i64 k', .int .i64 a', sv'] tn (0, 0))) (hbel : Below n0 w W)
    (hS : Step n0 ⟨wmF bv bx T3 B4 W, fun _ => none, frW W⟩ W g' w') (hI : Al.Inv n0 g' s' w') (hq : BoxQ bx T3 B4 kd k' a' sv' n' ds' s') :
    KeepsFrom K0 W w' ∧ KeptIf n0 bx W w' ∧ (GrowF n0 bx w ds' n' w' ∧ ∃ t, w'.heap[T3]? = some (.cells #[.int .i64 kd] t (0, 0))) := by
  obtain ⟨tk', hT'⟩ := inv_box_all hI hq.t3
  obtain ⟨tn', hB4'⟩ := inv_box_all hI hq.b4
  obtain ⟨v', t', hv', hr', hown⟩ : ∃ v' t', w'.heap[bx]? = some (.cells #[v'] t' (0, 0)) ∧ Row w' n0 bx v' n' ds' ∧ ∀ b, v'.ownBlock = some b → b ≠ bx ∧ b ≠ T3 ∧ b ≠ B4 ∧ g'.wm b = 0 := by
    rcases hq.row with ⟨rfl, rfl, h1⟩ | ⟨b, cap, h1, h2, h3, h4, h5, h6, h7, h8, h9⟩
    · obtain ⟨el, h2⟩ := inv_nil hI h1
      exact ⟨_, el, h2, .inl ⟨rfl, rfl, rfl⟩, fun b e => by cases e⟩
    · obtain ⟨el, k1⟩ := inv_box_all hI h2
      obtain ⟨k2, k3, arr, el2, k4, k5, k6⟩ := inv_box hI h3
      refine ⟨_, el, k1, .inr ⟨b, cap, arr, el2, rfl, k2, h5, k4, h4, k5, by rw [← h8]; exact k6, h8, h1, h9⟩, fun b' e => ?_⟩
      have : b = b' := by simpa [Value.ownBlock] using e
      subst this
      exact ⟨h5, h6, h7, k3⟩
  have hG : GrowF n0 bx w ds' n' w' := ⟨v', ⟨t', hv'⟩, hr', hbel.trans hS.below⟩
  refine ⟨⟨hS.below.size, fun k o _ hk hc => ((hS.fz k (frW_in hk (by cases o <;> first | rfl | (cases hc)))).1).trans hk⟩, fun _ => ⟨hG.box h0, hS.below.size, fun b o u hb hx => ?_, fun b hx => ?_, fun b hb => hS.below.block b hb⟩, hG, tk', hT'⟩
  · have h1 : b ≠ bx := fun e => hx ((hr.exb hv b).2 (.inl e))
    have h2 : bv.ownBlock ≠ some b := fun e => hx ((hr.exb hv b).2 (.inr e))
    by_cases h3 : b = T3
    · subst h3
      simpa [World.cell?, hT, hT'] using hb
    · by_cases h4 : b = B4
      · subst h4
        simpa [World.cell?, hB4, hB4'] using hb
      · have hn : ¬ (b = bx ∨ b = T3 ∨ b = B4 ∨ bv.ownBlock = some b) := fun e => by
          rcases e with e | e | e | e
          · exact h1 e
          · exact h3 e
          · exact h4 e
          · exact h2 e
        refine (hS.later.cell b o ?_).trans hb
        show o < wmF bv bx T3 B4 W b
        cases hk : W.heap[b]? with
        | none => simp [World.cell?, hk] at hb
        | some ob =>
          cases ob with
          | cells arr el m =>
            rw [wmF_in hn hk]
            simp only [World.cell?, hk] at hb
            have := (Array.getElem?_eq_some_iff.1 (by simpa using hb)).1
            omega
          | _ => simp [World.cell?, hk] at hb
  · rcases (hr'.exb hv' b).1 hx with rfl | h1
    · exact .inl (.inl rfl)
    · obtain ⟨q1, q2, q3, q4⟩ := hown b h1
      obtain ⟨_, _, cap, arr, el, _, q5⟩ := hr'.own h1
      by_cases hlt : W.heap.size ≤ b
      · exact .inr hlt
      · left
        refine (hr.exb hv b).2 (.inr ?_)
        by_cases hown' : bv.ownBlock = some b
        · exact hown'
        · exfalso
          have hn : ¬ (b = bx ∨ b = T3 ∨ b = B4 ∨ bv.ownBlock = some b) := fun e => by
            rcases e with e | e | e | e
            · exact q1 e
            · exact q2 e
            · exact q3 e
            · exact hown' e
          cases hk : W.heap[b]? with
          | none => rw [Array.getElem?_eq_none_iff] at hk; omega
          | some ob =>
            cases ob with
            | cells arr el m =>
              have h1 := hS.later.wm b
              replace h1 : wmF bv bx T3 B4 W b ≤ g'.wm b := h1
              rw [wmF_in hn hk] at h1
              omega
            | _ =>
              have h1 := ((hS.fz b (frW_in hk rfl)).1).trans hk
              rw [q5] at h1
              cases h1
def lvF {g : Gh} {w0 : World} (kd : Int) : List (El g w0) → List Nd
  | [] => []
  | x :: r => if x.1.1.kind = kd then x.1.1 :: lvF kd r else lvF kd r
def dsF {g : Gh} {w0 : World} (kd : Int) : List (El g w0) → List Value
  | [] => []
  | x :: r => if x.1.1.kind = kd then x.1.2.cells.toList ++ dsF kd r else dsF kd r
theorem lvF_app {g : Gh} {w0 : World} (kd : Int) : ∀ a b : List (El g w0), lvF kd (a ++ b) = lvF kd a ++ lvF kd b
  | [], b => rfl
  | x :: a, b => by simp only [List.cons_append, lvF, lvF_app kd a b]; split <;> rfl
theorem dsF_app {g : Gh} {w0 : World} (kd : Int) : ∀ a b : List (El g w0), dsF kd (a ++ b) = dsF kd a ++ dsF kd b
  | [], b => rfl
  | x :: a, b => by simp only [List.cons_append, dsF, dsF_app kd a b]; split <;> simp
theorem lvF_len {g : Gh} {w0 : World} (kd : Int) : ∀ a : List (El g w0), (lvF kd a).length ≤ a.length
  | [] => Nat.le_refl _
  | x :: a => by have := lvF_len kd a; simp only [lvF]; split <;> simp <;> omega
theorem lvF_eq {g : Gh} {w0 : World} (kd : Int) : ∀ a : List (El g w0), lvF kd a = (a.map (·.1.1)).filter (fun t => t.kind == kd)
  | [] => rfl
  | x :: a => by
    simp only [lvF, List.map_cons, List.filter_cons, lvF_eq kd a, beq_iff_eq]
theorem dsF_rc {g : Gh} {w0 : World} (kd : Int) : ∀ a : List (El g w0), RCs g w0 ((lvF kd a).map encNd) (dsF kd a)
  | [] => by simp [lvF, dsF, RCs]
  | x :: a => by
    have ih := dsF_rc kd a
    simp only [lvF, dsF]
    split
    · obtain ⟨⟨⟨k, a', ks⟩, v⟩, hx⟩ := x
      obtain ⟨sv, rfl, hs⟩ := RV_node hx
      simp only [List.map_cons, RCs]
      refine ⟨[.int .i64 k, .int .i64 a', sv], _, rfl, ?_, ih⟩
      obtain ⟨us, h1, h2⟩ := RV_agg (show RV g w0 (.agg [vi k, vi a', sl (encNds ks)]) _ from hx)
      have : us = [.int .i64 k, .int .i64 a', sv] := by
        have := congrArg (fun v => match v with | Value.agg a => a.toList | _ => []) h2
        simpa using this.symm
      subst this
      show RC g w0 (.agg [vi k, vi a', sl (encNds ks)]) _
      simp only [RC]; exact h1
    · exact ih
set_option maxRecDepth 100000 in
set_option maxHeartbeats 1000000 in
theorem find_in (m : Nat) (hm : 3 ≤ m) (wm : Nat → Nat) (w : World) (hwm : ∀ b, w.heap.size ≤ b → wm b = 0) (hgl : GlobOk w.heap.size wm w) (t : Nd) (v : Value) (kd : Int) (hv : RV ⟨wm, fun _ => none, Fr.no⟩ w (encNd t) v) (hN : (allT t).length ≤ 1000000) :
    CallsIn Fence.wide m Tryz.prog 32 #[v, .int .i64 kd] w fun e W' => ∃ v' ds, e = .returned v' ∧
      Row W' w.heap.size (w.heap.size + 1 + 1) v' ((allT t).filter (fun t => t.kind == kd)).length ds ∧ RCs ⟨wm, fun _ => none, Fr.no⟩ w (((allT t).filter (fun t => t.kind == kd)).map encNd) ds ∧ Below w.heap.size w W' := by
  obtain ⟨k, a, ks⟩ := t
  obtain ⟨sv, rfl, hsv⟩ := RV_node hv
  have hF : ∀ f, Fence.wide.fn f := fun _ => trivial
  refine callsIn_of_wp_marks Tryz.func32 rfl (hF _) ?_ rfl
  simp only [Tryz.ntmps32, List.size_toArray, List.length_cons, List.length_nil, Nat.reduceAdd, Nat.reduceSub, Array.replicate_succ, Array.replicate_zero, List.push_toArray, List.append_toArray, List.nil_append, List.cons_append]
  have hdd : ∀ k : Nat, (Fence.wide.depth.isSome = true → 1 ≤ k) := fun k h => by cases h
  gi_wp2_with ((try refine ⟨hdd _, ?_⟩); gi_at_call 51; refine (all_in Fence.wide hF rfl _ _ _ _ _).mono ?_; rintro e w' ⟨rfl, rfl⟩)
  obtain ⟨W2, hW2⟩ : ∃ W2, (((w.alloc (.cells #[.int .i64 k, .int .i64 a, sv] 29)).alloc (.cells #[.int .i64 kd] 3)).alloc (.cells #[.slice none 0 0] 27)).alloc (.cells #[.int .i64 k, .int .i64 a, sv] 29) = W2 := ⟨_, rfl⟩
  have hsz2 : W2.heap.size = w.heap.size + 4 := by rw [← hW2]; simp
  have hb2 : Below w.heap.size w W2 := by rw [← hW2]; exact ((((Below.refl _ w).alloc (Nat.le_refl _) _).alloc (by simp) _).alloc (by simp; omega) _).alloc (by simp; omega) _
  have hk2 : W2.heap[w.heap.size + 1]? = some (.cells #[.int .i64 kd] 3 (0, 0)) := by
    rw [← hW2, Below.heap_alloc _ _ _ (by simp), Below.heap_alloc _ _ _ (by simp)]
    have := World.alloc_heap_new (w.alloc (.cells #[.int .i64 k, .int .i64 a, sv] 29)) (.cells #[.int .i64 kd] 3 (0, 0))
    simpa using this
  have hbx2 : W2.heap[w.heap.size + 1 + 1]? = some (.cells #[.slice none 0 0] 27 (0, 0)) := by
    rw [← hW2, Below.heap_alloc _ _ _ (by simp)]
    have := World.alloc_heap_new ((w.alloc (.cells #[.int .i64 k, .int .i64 a, sv] 29)).alloc (.cells #[.int .i64 kd] 3)) (.cells #[.slice none 0 0] 27 (0, 0))
    simpa using this
  have hbt2 : W2.heap[w.heap.size + 1 + 1 + 1]? = some (.cells #[.int .i64 k, .int .i64 a, sv] 29 (0, 0)) := by
    rw [← hW2]
    have := World.alloc_heap_new (((w.alloc (.cells #[.int .i64 k, .int .i64 a, sv] 29)).alloc (.cells #[.int .i64 kd] 3)).alloc (.cells #[.slice none 0 0] 27)) (.cells #[.int .i64 k, .int .i64 a, sv] 29 (0, 0))
    simpa using this
  have hS2 : Same ⟨wm, fun _ => none, Fr.no⟩ w W2 := fun b o ho => by
    have hb : b < w.heap.size := by
      rcases Nat.lt_or_ge b w.heap.size with h1 | h1
      · exact h1
      · replace ho : o < wm b := ho
        rw [hwm b h1] at ho; omega
    exact cell_of_heap (hb2.block b hb) o
  have hG0 : GrowF w.heap.size (w.heap.size + 1 + 1) w [] 0 W2 := ⟨_, ⟨_, hbx2⟩, .inl ⟨rfl, rfl, rfl⟩, hb2⟩
  have hB2 := hG0.box (by omega)
  rw [hW2]
  refine wpIn_rangeFunc_ownH rfl (by omega) (gf := 70) (lb := #[.pointer (some ⟨w.heap.size + 1 + 1 + 1, 0, none⟩)]) (by simp [Act.eval]) (hF 70) (enters_of Tryz.func70 (by kernel_rfl) rfl)
    (all_stops Fence.wide rfl hF rfl (m - 1) w.heap.size (w.heap.size + 1 + 1) (w.heap.size + 1 + 1 + 1) wm w W2 hwm (.mk k a ks) hN _ _ _ hS2 hv hB2 (by omega) hbt2) keptIf_t (fun W l o o' hl h1 h2 _ => keptIf_b W l o o' (by omega) h1 h2) (Below.refl _ _) (fun _ => rfl)
    (fun pre W => GrowF w.heap.size (w.heap.size + 1 + 1) w (dsF kd pre) (lvF kd pre).length W ∧ ∃ t, W.heap[w.heap.size + 1]? = some (.cells #[.int .i64 kd] t (0, 0)))
    (fun _ _ _ => False) ?hI (fun _ _ _ _ _ hs _ _ => hs) ⟨hG0, _, hk2⟩
    (fun x a' W => ∃ B4 v0 v1 v2, x.1.2 = .agg #[v0, v1, v2] ∧ a' = { tmps := #[.agg #[.int .i64 k, .int .i64 a, sv], .int .i64 kd, .pointer (some ⟨w.heap.size, 0, none⟩), .pointer (some ⟨w.heap.size + 1, 0, none⟩), .slice none 0 0, .pointer (some ⟨w.heap.size + 1 + 1, 0, none⟩), .pointer (some ⟨B4, 0, none⟩), .agg #[.int .i64 k, .int .i64 a, sv], .func (.func 70) #[] #[.pointer (some ⟨w.heap.size + 1 + 1 + 1, 0, none⟩)], x.1.2, undef, undef, undef, undef, undef, undef, undef, undef, undef, undef, undef], defers := [] } ∧ W.heap[B4]? = some (.cells #[v0, v1, v2] 29 (0, 0)) ∧
      w.heap.size + 3 ≤ B4 ∧ ∃ bv t, W.heap[w.heap.size + 1 + 1]? = some (.cells #[bv] t (0, 0)) ∧ bv.ownBlock ≠ some B4)
    ?hAx ?assign ?body ?done ?stop
  case hI => exact fun pre A B row h hg hr => ⟨h.1.grown (Nat.le_refl _) hg (fun r e => by obtain ⟨h1, h2⟩ := hr r e; exact ⟨by omega, h2⟩), h.2.imp fun t h2 => grown_cells hg (fun r e => (hr r e).2) h2⟩
  case hAx =>
    rintro x a' _ A B row ⟨B4, v0, v1, v2, e1, e3, e4, e5, bv, t, e6, e7⟩ hg hr
    exact ⟨B4, v0, v1, v2, e1, e3, grown_cells hg (fun r e => (hr r e).2) e4, e5, bv, t, grown_cells hg (fun r e => (hr r e).2) e6, e7⟩
  case assign =>
    rintro l pre ⟨⟨⟨k', a', ks'⟩, vx⟩, hx⟩ W K hI hK
    obtain ⟨sv', rfl, hsv'⟩ := RV_node hx
    have h1c := RV_ones3 hx
    have hst := store_last (P := Tryz.prog) W 29 #[.int .i64 k', .int .i64 a', .slice none 0 0] 2 (by simp) sv' h1c.2.2
    have hfin : ∀ a2, a2 = ({ tmps := #[.agg #[.int .i64 k, .int .i64 a, sv], .int .i64 kd, .pointer (some ⟨w.heap.size, 0, none⟩), .pointer (some ⟨w.heap.size + 1, 0, none⟩), .slice none 0 0, .pointer (some ⟨w.heap.size + 1 + 1, 0, none⟩), .pointer (some ⟨W.heap.size, 0, none⟩), .agg #[.int .i64 k, .int .i64 a, sv], .func (.func 70) #[] #[.pointer (some ⟨w.heap.size + 1 + 1 + 1, 0, none⟩)], .agg #[.int .i64 k', .int .i64 a', sv'], undef, undef, undef, undef, undef, undef, undef, undef, undef, undef, undef], defers := [] } : Act) → K a2 (W.alloc (.cells #[.int .i64 k', .int .i64 a', sv'] 29)) := fun a2 e => by
      have hg := World.grownBy_alloc W (.cells #[.int .i64 k', .int .i64 a', sv'] 29) none
      have hI2 := hI
      obtain ⟨⟨bv, ⟨t, hbv⟩, hrow, hbel⟩, tk, hkd⟩ := hI2
      have hszW := hbel.size
      have hltk := (Array.getElem?_eq_some_iff.1 hkd).1
      refine hK a2 _ ((KeepsOthers.alloc W _).from _) (fun hB => Kept.grown hB hg) ⟨hI.1.grown (Nat.le_refl _) hg (fun r e => by cases e), hI.2.imp fun t h2 => grown_cells hg (fun r e => by cases e) h2⟩
        ⟨W.heap.size, _, _, _, rfl, e, World.alloc_heap_new W _, ?_, bv, t, grown_cells hg (fun r e => by cases e) hbv, fun e => ?_⟩
      · have := (Array.getElem?_eq_some_iff.1 hbv).1
        omega
      · obtain ⟨_, _, _, arr, el, _, h2⟩ := hrow.own e
        have := (Array.getElem?_eq_some_iff.1 h2).1
        omega
    gi_wp2_with (rw [hst])
    rfl
  case body =>
    rintro l pre x a' W hl hL ⟨⟨bv, ⟨tb, hbv⟩, hrow, hbel⟩, tk, hkd⟩ ⟨B4, v0, v1, v2, e1, rfl, hB4, hB4n, bv', tb', hbv', hB4r⟩ hlen
    obtain ⟨⟨⟨k', a', ks'⟩, vx⟩, hx⟩ := x
    obtain ⟨sv', rfl, hsv'⟩ := RV_node hx
    injection e1 with e1
    have e0 := congrArg Array.toList e1
    simp only [List.cons.injEq, and_true] at e0
    obtain ⟨rfl, rfl, rfl⟩ := e0
    have hne1 : ¬ w.heap.size + 1 + 1 = w.heap.size + 1 := by omega
    have hne1' : ¬ w.heap.size + 1 = w.heap.size + 1 + 1 := by omega
    have hne2 : ¬ w.heap.size + 1 + 1 = B4 := by omega
    have hne2' : ¬ B4 = w.heap.size + 1 + 1 := by omega
    have hne3 : ¬ w.heap.size + 1 = B4 := by omega
    have hne3' : ¬ B4 = w.heap.size + 1 := by omega
    have h1c : one (.int .i64 k') = true ∧ one (.int .i64 a') = true ∧ one sv' = true := by
      obtain ⟨ks2, hks⟩ : ∃ ks2, RC ⟨wm, fun _ => none, Fr.no⟩ w (.lst (tagOf (encNds ks')) ks2) [sv'] := ⟨_, hsv'⟩
      refine ⟨rfl, rfl, ?_⟩
      simp only [RC] at hks
      rcases hks with ⟨_, h, _⟩ | ⟨b, o, cap, ds, h, _⟩
      · injection h with h; subst h; rfl
      · injection h with h; subst h; rfl
    have hll := lvF_len kd pre
    have hb1 : (lvF kd pre).length + 1 ≤ 1000000 := by omega
    obtain ⟨n, hn⟩ : ∃ n, n = (lvF kd pre).length := ⟨_, rfl⟩
    obtain ⟨ds, hds⟩ : ∃ ds, ds = dsF kd pre := ⟨_, rfl⟩
    rw [← hn] at hb1
    rw [← hn, ← hds] at hrow
    obtain ⟨n', ds', hnd, hnn, hdd'⟩ : ∃ n' ds', (k' = kd → n' = n + 1 ∧ ds' = ds ++ [.int .i64 k', .int .i64 a', sv']) ∧ (k' ≠ kd → n' = n) ∧ (k' ≠ kd → ds' = ds) := by
      by_cases h : k' = kd
      · exact ⟨_, _, fun _ => ⟨rfl, rfl⟩, fun e => absurd h e, fun e => absurd h e⟩
      · exact ⟨_, _, fun e => absurd e h, fun _ => rfl, fun _ => rfl⟩
    refine wpIn_fen (awp_some (X := ⟨w.heap.size, ⟨21, []⟩, some l, []⟩) (g := ⟨wmF bv (w.heap.size + 1 + 1) (w.heap.size + 1) B4 W, fun _ => none, frW W⟩) (Q := fun ex e' s' => ex = .normal ∧ BoxQ (w.heap.size + 1 + 1) (w.heap.size + 1) B4 kd k' a' sv' n' ds' s') (e := [(3, .at (.pointer (some ⟨w.heap.size + 1, 0, none⟩))), (5, .at (.pointer (some ⟨w.heap.size + 1 + 1, 0, none⟩))), (6, .at (.pointer (some ⟨B4, 0, none⟩)))]) ⟨rfl, fun p hp => by simp at hp⟩ rfl (globF hgl hbel (by show w.heap.size ≤ _; omega) (by show w.heap.size ≤ _; omega) (by show w.heap.size ≤ _; omega) (fun b e => (hrow.own e).1)) ?hP ?hE ?hA)
    case hE =>
      intro k1
      by_cases e3 : k1 = 3
      · subst e3; exact RV_at_mk rfl
      · by_cases e5 : k1 = 5
        · subst e5; exact RV_at_mk rfl
        · by_cases e6 : k1 = 6
          · subst e6; exact RV_at_mk rfl
          · have : Env.get [(3, .at (.pointer (some ⟨w.heap.size + 1, 0, none⟩))), (5, .at (.pointer (some ⟨w.heap.size + 1 + 1, 0, none⟩))), (6, .at (.pointer (some ⟨B4, 0, none⟩)))] k1 = V.any := by
              simp only [Env.get, Ne.symm e3, Ne.symm e5, Ne.symm e6, if_false]
            rw [this]
            trivial
    case hP =>
      rintro ex a2 w2 g' e' s' h1 h2 ⟨rfl, h3⟩
      have hR := round_of (K0 := w.heap.size + 4) (by omega) hbv hrow hkd hB4 hbel h1 h2 h3
      have e1 : dsF kd (pre ++ [⟨(.mk k' a' ks', .agg #[.int .i64 k', .int .i64 a', sv']), hx⟩]) = ds' := by
        rw [dsF_app, ← hds]
        by_cases h : k' = kd
        · rw [(hnd h).2]; simp only [dsF, Nd.kind, h, if_true]; rfl
        · rw [hdd' h]; simp only [dsF, Nd.kind, h, if_false, List.append_nil]
      have e2 : (lvF kd (pre ++ [⟨(.mk k' a' ks', .agg #[.int .i64 k', .int .i64 a', sv']), hx⟩])).length = n' := by
        rw [lvF_app, List.length_append, ← hn]
        by_cases h : k' = kd
        · rw [(hnd h).1]; simp only [lvF, Nd.kind, h, if_true]; rfl
        · rw [hnn h]; simp only [lvF, Nd.kind, h, if_false]; rfl
      rw [← e1, ← e2] at hR
      refine ⟨?_, hR.2.1, hR.2.2⟩
      rw [hsz2]; exact hR.1
    case hA =>
      rcases hrow with ⟨rfl, rfl, rfl⟩ | hrow
      · refine ⟨⟨[(w.heap.size + 1 + 1, [.lst .nil []], 1), (w.heap.size + 1, [.at (.int .i64 kd)], 1), (B4, [.at (.int .i64 k'), .at (.int .i64 a'), .at sv'], 3)], [], 0, []⟩, ?_, ?_⟩
        · generalize hst : (⟨[(w.heap.size + 1 + 1, [.lst .nil []], 1), (w.heap.size + 1, [.at (.int .i64 kd)], 1), (B4, [.at (.int .i64 k'), .at (.int .i64 a'), .at sv'], 3)], [], 0, []⟩ : S) = st
          have l1 : Go.Al.look st.box (w.heap.size + 1 + 1) = some ([.lst .nil []], 1) := by rw [← hst]; simp [Go.Al.look]
          have l2 : Go.Al.look st.box (w.heap.size + 1) = some ([.at (.int .i64 kd)], 1) := by rw [← hst]; simp [Go.Al.look]
          have l3 : Go.Al.look st.box B4 = some ([.at (.int .i64 k'), .at (.int .i64 a'), .at sv'], 3) := by rw [← hst]; simp [Go.Al.look, hne2, hne3]
          clear hst
          (repeat (first | (refine awp_seq ?_) | (refine awp_skip ?_; simp -failIfUnchanged only [thenE_normal, blockE_normal]) | (refine awp_ret ?_; simp -failIfUnchanged only [thenE_ret, blockE_ret, retE_ret, retER_ret]) | (refine awp_exit ?_; simp -failIfUnchanged only [thenE_exit, blockE_exit, thenE_normal, blockE_normal, reduceIte]) | (refine awp_block ?_) | ((first | (refine awp_reg polF ks32F _ rfl rfl ?_) | (refine awp_draw polF mixed ks32F _ rfl rfl (by kernel_rfl) (by kernel_rfl) ?_)); simp only [↓AL_nil, ↓AL_bin, ↓AL_fieldAddr, ↓AL_load, thenE_normal, putO_some, get_cons, get_nil, ev_tmp, keepE_cons, keepE_nil, aBin_int, aInt_eql, aLoad_ptr, sLoad_some, aFieldAddr_ptr, sFieldP_some, implies_true, and_self, partOk, partV, List.length_cons, List.length_nil, List.drop_zero, List.take_succ_cons, List.take_zero, List.take_nil, List.getD_cons_zero, Bool.true_and, Bool.and_self, if_true, if_false, true_and, Nat.reduceAdd, Nat.reduceEqDiff, Nat.reduceLeDiff, Bool.false_eq_true, Nat.zero_add, Nat.add_zero, Nat.le_refl, Nat.lt_add_one, hasT3, aggT3, cells3, fld29_0, ks32F, aBinI_int, l2, l3])))
          refine awp_cond rfl (fun hk => ?_) (fun hk => ?_)
          · obtain rfl : k' = kd := eq_of_beq hk
            obtain ⟨rfl, rfl⟩ := hnd rfl
            refine awp_draw2 polF mixed ks32F (.tmp 19) (.tmp 5) _ rfl rfl (by kernel_rfl) (by kernel_rfl) (by decide) ⟨_, _, _, _, _, _, _, _, _, _, rfl, rfl⟩ ?_
            simp only [↓AL_nil, ↓AL_indexAddr, ↓AL_load, ↓AL_store, ↓AL_buildSlice, ↓AL_len, ↓AL_append, blockE_normal, putO_some, putO_none, get_cons, get_nil, ev_tmp, ev_const, keepE_cons, keepE_nil, aLen_lst, aLoad_ptr, sLoad_some, aStore_ptr, sStore_some, aIndexAddr_slice, sIndexM_some, aAppend_eq, sApp_nil, sAppN_t, appOk, spl, aBuildSlice_eq, sBS_some, sBSk_ff, inOrder, elsOk_nil, elsOk_cons, pow24, one_le_maxLen, Option.map_some, implies_true, false_implies, Nat.reduceLT, Nat.one_mul, untag_agg, untag1_at, untag1_nil, List.map_cons, List.map_nil, List.nil_append, List.append_nil, and_self, beq_self_eq_true, partOk, partV, allOne, V.isOne, V.size, V.flat, sizes, List.all_cons, List.all_nil, List.length_cons, List.length_nil, List.drop_zero, List.drop_succ_cons, List.take_succ_cons, List.take_nil, List.getD_cons_zero, Bool.true_and, Bool.and_self, Option.isSome_some, if_true, if_false, true_and, Nat.reduceAdd, Nat.reduceEqDiff, Nat.reduceLeDiff, reduceCtorEq, Bool.false_eq_true, Nat.zero_add, Nat.add_zero, Nat.le_refl, look_lay, flats, Nat.reduceBEq, hasT27, aggT27, cells27, elT27, hasT29, aggT29, cells29, bytes29, zero29, ks32F, cV_zero, l1, l3]
            refine ⟨by simp, fun b cap hb hcap => ⟨⟨by omega, by omega⟩, by simp, ?_⟩⟩
            have m1 : ¬ b = w.heap.size + 1 + 1 := fun e => by rw [e, l1] at hb; cases hb
            have m1' : ¬ w.heap.size + 1 + 1 = b := fun e => m1 e.symm
            have m2 : ¬ b = w.heap.size + 1 := fun e => by rw [e, l2] at hb; cases hb
            have m3 : ¬ b = B4 := fun e => by rw [e, l3] at hb; cases hb
            have z0 : ((0 : Nat) : Int).toNat = 0 := rfl
            simp only [sStore_some, spl, List.nil_append, List.append_nil, and_self, allOne, V.isOne, V.flat, List.all_cons, List.all_nil, List.length_cons, List.length_nil, List.drop_succ_cons, List.take_zero, Bool.true_and, Bool.and_self, if_false, true_and, Nat.zero_add, Nat.le_refl, Nat.zero_mul, hasT27, cells27, m1, z0, Nat.zero_mul, List.drop_nil]
            refine ⟨⟨_, _, _, _, rfl, rfl, m1⟩, ?_⟩
            refine ⟨by simp [look_lay, m2, hne1, l2], by simp [look_lay, m3, hne2, l3], .inr ⟨b, cap, Nat.zero_lt_one, by simp [look_lay], by simp [look_lay, m1'], hcap, m1, m2, m3, rfl, by simpa using h1c⟩⟩
          · have hk' : k' ≠ kd := beq_eq_false_iff_ne.1 hk
            refine awp_skip ?_
            refine ⟨rfl, ?_⟩
            rw [hnn hk', hdd' hk']
            exact ⟨l2, l3, .inl ⟨rfl, rfl, l1⟩⟩
        · exact inv_of hbel.size (fun b h => wmF_new h) (fun _ => rfl) (fun b h => frW_out h) (fun _ => rfl) (look_consP (box_nil (by show w.heap.size ≤ _; omega) (wmF_out (.inl rfl)) hbv) (look_consP (box_at (l := [.int .i64 kd]) (by show w.heap.size ≤ _; omega) (wmF_out (.inr (.inl rfl))) hkd rfl rfl (by simp [one])) (look_consP (box_at (l := [.int .i64 k', .int .i64 a', sv']) (by show w.heap.size ≤ _; omega) (wmF_out (.inr (.inr (.inl rfl)))) hB4 rfl rfl (by simpa using h1c)) look_nilP)))
      · obtain ⟨r, cap, arr, el, rfl, hr0, hrbx, hrh, hncap, hrs, htk, hdl, hnp, hone⟩ := hrow
        have hrT : r ≠ w.heap.size + 1 := fun e => by
          subst e; rw [hkd] at hrh; injection hrh with hrh; injection hrh with e1; subst e1
          simp at hrs; omega
        have hrB : r ≠ B4 := fun e => by
          rw [hbv] at hbv'; injection hbv' with hbv'; injection hbv' with e1
          have e2 : bv' = .slice (some ⟨r, 0, none⟩) n cap := by simpa using e1.symm
          exact hB4r (by rw [e2, e]; rfl)
        have hrbx' : ¬ w.heap.size + 1 + 1 = r := fun e => hrbx e.symm
        have hrT' : ¬ w.heap.size + 1 = r := fun e => hrT e.symm
        have hrB' : ¬ B4 = r := fun e => hrB e.symm
        refine ⟨⟨[(w.heap.size + 1 + 1, [.at (.slice (some ⟨r, 0, none⟩) n cap)], 1), (w.heap.size + 1, [.at (.int .i64 kd)], 1), (B4, [.at (.int .i64 k'), .at (.int .i64 a'), .at sv'], 3), (r, ds.map V.at, cap * 3)], [], 0, []⟩, ?_, ?_⟩
        · generalize hst : (⟨[(w.heap.size + 1 + 1, [.at (.slice (some ⟨r, 0, none⟩) n cap)], 1), (w.heap.size + 1, [.at (.int .i64 kd)], 1), (B4, [.at (.int .i64 k'), .at (.int .i64 a'), .at sv'], 3), (r, ds.map V.at, cap * 3)], [], 0, []⟩ : S) = st
          have l1 : Go.Al.look st.box (w.heap.size + 1 + 1) = some ([.at (.slice (some ⟨r, 0, none⟩) n cap)], 1) := by rw [← hst]; simp [Go.Al.look]
          have l2 : Go.Al.look st.box (w.heap.size + 1) = some ([.at (.int .i64 kd)], 1) := by rw [← hst]; simp [Go.Al.look]
          have l3 : Go.Al.look st.box B4 = some ([.at (.int .i64 k'), .at (.int .i64 a'), .at sv'], 3) := by rw [← hst]; simp [Go.Al.look, hne2, hne3]
          have l4 : Go.Al.look st.box r = some (ds.map V.at, cap * 3) := by rw [← hst]; simp [Go.Al.look, hrbx', hrT', hrB']
          clear hst
          (repeat (first | (refine awp_seq ?_) | (refine awp_skip ?_; simp -failIfUnchanged only [thenE_normal, blockE_normal]) | (refine awp_ret ?_; simp -failIfUnchanged only [thenE_ret, blockE_ret, retE_ret, retER_ret]) | (refine awp_exit ?_; simp -failIfUnchanged only [thenE_exit, blockE_exit, thenE_normal, blockE_normal, reduceIte]) | (refine awp_block ?_) | ((first | (refine awp_reg polF ks32F _ rfl rfl ?_) | (refine awp_draw polF mixed ks32F _ rfl rfl (by kernel_rfl) (by kernel_rfl) ?_)); simp only [↓AL_nil, ↓AL_bin, ↓AL_fieldAddr, ↓AL_load, thenE_normal, putO_some, get_cons, get_nil, ev_tmp, keepE_cons, keepE_nil, aBin_int, aInt_eql, aLoad_ptr, sLoad_some, aFieldAddr_ptr, sFieldP_some, implies_true, and_self, partOk, partV, List.length_cons, List.length_nil, List.drop_zero, List.take_succ_cons, List.take_zero, List.take_nil, List.getD_cons_zero, Bool.true_and, Bool.and_self, if_true, if_false, true_and, Nat.reduceAdd, Nat.reduceEqDiff, Nat.reduceLeDiff, Bool.false_eq_true, Nat.zero_add, Nat.add_zero, Nat.le_refl, Nat.lt_add_one, hasT3, aggT3, cells3, fld29_0, ks32F, aBinI_int, l2, l3])))
          refine awp_cond rfl (fun hk => ?_) (fun hk => ?_)
          · obtain rfl : k' = kd := eq_of_beq hk
            obtain ⟨rfl, rfl⟩ := hnd rfl
            refine awp_draw2 polF mixed ks32F (.tmp 19) (.tmp 5) _ rfl rfl (by kernel_rfl) (by kernel_rfl) (by decide) ⟨_, _, _, _, _, _, _, _, _, _, rfl, rfl⟩ ?_
            simp only [↓AL_nil, ↓AL_indexAddr, ↓AL_load, ↓AL_store, ↓AL_buildSlice, ↓AL_len, ↓AL_append, blockE_normal, putO_some, putO_none, get_cons, get_nil, ev_tmp, ev_const, keepE_cons, keepE_nil, aLen_slice, aLoad_ptr, sLoad_some, aStore_ptr, sStore_some, aIndexAddr_slice, sIndexM_some, aAppend_eq, appOk, spl, aBuildSlice_eq, sBS_some, sBSk_ff, inOrder, elsOk_nil, elsOk_cons, pow24, one_le_maxLen, Option.map_some, implies_true, false_implies, Nat.reduceLT, Nat.one_mul, untag_agg, untag1_at, untag1_nil, List.map_cons, List.map_nil, List.append_nil, and_self, beq_self_eq_true, partOk, partV, allOne, V.isOne, V.size, V.flat, sizes, List.all_cons, List.all_nil, List.length_cons, List.length_nil, List.drop_zero, List.take_succ_cons, List.take_nil, List.getD_cons_zero, List.length_map, Bool.true_and, Bool.and_self, Option.isSome_some, if_true, if_false, true_and, Nat.reduceAdd, Nat.reduceEqDiff, Nat.reduceLeDiff, reduceCtorEq, Bool.false_eq_true, Nat.zero_add, Nat.add_zero, Nat.le_refl, look_lay, look_wipe, sApp_box, sAppW_some, flats, Nat.reduceBEq, hasT27, aggT27, cells27, elT27, hasT29, aggT29, cells29, bytes29, zero29, ks32F, cV_zero, l1, l3, l4, hrbx]
            refine ⟨⟨by omega, by simp only [maxLen]; omega⟩, hncap, by omega, fun b cap2 hb hcap => ⟨⟨by omega, by omega⟩, by simp [hdl], ?_⟩⟩
            have m1 : ¬ b = w.heap.size + 1 + 1 := fun e => by rw [e, if_neg hrbx, l1] at hb; cases hb
            have m1' : ¬ w.heap.size + 1 + 1 = b := fun e => m1 e.symm
            have m2 : ¬ b = w.heap.size + 1 := fun e => by rw [e, if_neg hrT, l2] at hb; cases hb
            have m3 : ¬ b = B4 := fun e => by rw [e, if_neg hrB, l3] at hb; cases hb
            have hcell := row_cells ds n hdl [V.at (.int .i64 0), V.at (.int .i64 0), V.lst Tag.nil []] [.int .i64 k', .int .i64 a', sv'] rfl
            simp only [sStore_some, spl, List.nil_append, List.append_nil, and_self, allOne, V.isOne, V.flat, List.all_cons, List.all_nil, List.length_cons, List.length_nil, List.drop_zero, List.drop_succ_cons, List.take_zero, Bool.true_and, Bool.and_self, if_false, true_and, Nat.zero_add, Nat.le_refl, hasT27, cells27, m1, Int.toNat_natCast]
            simp only [List.map_cons, List.map_nil] at hcell
            rw [hcell]
            refine ⟨⟨_, _, _, _, rfl, rfl, m1⟩, ?_⟩
            refine ⟨by simp [look_lay, look_wipe, m2, hne1, hrT, l2], by simp [look_lay, look_wipe, m3, hne2, hrB, l3], .inr ⟨b, cap2, Nat.succ_pos _, by simp [look_lay], by simp [look_lay, m1'], hcap, m1, m2, m3, by simp [hdl]; omega, fun d hd => ?_⟩⟩
            rcases List.mem_append.1 hd with hd | hd
            · exact hone d hd
            · simp only [List.mem_cons, List.not_mem_nil, or_false] at hd
              rcases hd with e | e | e
              · rw [e]; rfl
              · rw [e]; rfl
              · rw [e]; exact h1c.2.2
          · have hk' : k' ≠ kd := beq_eq_false_iff_ne.1 hk
            refine awp_skip ?_
            refine ⟨rfl, ?_⟩
            rw [hnn hk', hdd' hk']
            exact ⟨l2, l3, .inr ⟨r, cap, hnp, l1, l4, hncap, hrbx, hrT, hrB, hdl, hone⟩⟩
        · exact inv_of hbel.size (fun b h => wmF_new h) (fun _ => rfl) (fun b h => frW_out h) (fun _ => rfl) (look_consP (box_at (l := [.slice (some ⟨r, 0, none⟩) n cap]) (by show w.heap.size ≤ _; omega) (wmF_out (.inl rfl)) hbv rfl rfl (by simp [one])) (look_consP (box_at (l := [.int .i64 kd]) (by show w.heap.size ≤ _; omega) (wmF_out (.inr (.inl rfl))) hkd rfl rfl (by simp [one])) (look_consP (box_at (l := [.int .i64 k', .int .i64 a', sv']) (by show w.heap.size ≤ _; omega) (wmF_out (.inr (.inr (.inl rfl)))) hB4 rfl rfl (by simpa using h1c)) (look_consP (box_at (l := ds) hr0 (wmF_out (.inr (.inr (.inr rfl)))) hrh hrs (by rw [hdl]; exact htk) hone) look_nilP))))
  case stop =>
    rintro D c pre W _ _ h _
    exact h.elim
  case done =>
    rintro D ys W hD hys ⟨⟨bv, ⟨tb, hbv⟩, hrow, hbel⟩, tk, hkd⟩ hK
    have cb : W.cell? ⟨w.heap.size + 1 + 1, 0, none⟩ = some bv := by simp [World.cell?, hbv]
    gi_wp2
    refine ⟨by simp, .inl ⟨_, _, rfl, run_takeDeferred hK, ?_⟩⟩
    have hgD := grownBy_putObj' W D (.deferred none)
    have hlv : lvF kd ys = (allT (.mk k a ks)).filter (fun t => t.kind == kd) := by rw [lvF_eq]; exact congrArg _ hys
    have hrc := dsF_rc kd ys
    have hrow' : Row (W.putObj D (.deferred none)) w.heap.size (w.heap.size + 1 + 1) bv (lvF kd ys).length (dsF kd ys) := hrow.kept fun b e => by
      obtain ⟨_, _, cap, arr, el, _, h2⟩ := hrow.own e
      exact (grown_cells hgD (fun r e => by injection e with e; subst e; exact ⟨_, hK, rfl⟩) h2).trans h2.symm
    refine ⟨_, results_tmp rfl _ _ _, bv, dsF kd ys, rfl, ?_⟩
    rw [← hlv]
    exact ⟨hrow', hrc, hbel.grown hgD hbel.size (fun k e => by injection e with e; omega)⟩
end Go.Proofs.YtnamdpbcpnnhaaaGreatDoor
end
section
set_option linter.unusedVariables false
set_option linter.unusedSimpArgs false
namespace Go.Proofs.YtnamdpbcpnnhaaaGreatDoor
open Go.Al Go.Den Go.RowKit Go.Shelf
theorem row_pure {wm : Nat → Nat} {w W' : World} (hwm : ∀ b, w.heap.size ≤ b → wm b = 0) (hbel : Below w.heap.size w W') {n bx : Nat} {v : Value} {ds : List Value} (hrow : Row W' w.heap.size bx v n ds)
    (es : List V) (hl : n = es.length) (hu : ∀ x ∈ es, x.size = 3) (hrc : RCs ⟨wm, fun _ => none, Fr.no⟩ w es ds) :
    ∃ wm', (∀ b, W'.heap.size ≤ b → wm' b = 0) ∧ Step w.heap.size ⟨wm, fun _ => none, Fr.no⟩ w ⟨wm', fun _ => none, Fr.no⟩ W' ∧ RV ⟨wm', fun _ => none, Fr.no⟩ W' (.lst (tagOf es) es) v := by
  subst hl
  obtain ⟨q1, q2⟩ := step_of_below hwm hbel
  rcases hrow with ⟨h0, rfl, rfl⟩ | ⟨g, cap, cur, el, rfl, hg, _, hgb, hn, hcs, htk, hdl, hnp, _⟩
  · have := List.length_eq_zero_iff.1 h0
    subst this
    refine ⟨wm, q1, q2, ?_⟩
    exact RV_lst_mk (by unfold RC; exact .inl ⟨rfl, rfl, trivial⟩)
  · cases es with
    | nil => simp at hnp
    | cons x r =>
      have hgl := (Array.getElem?_eq_some_iff.1 hgb).1
      have hL : Later ⟨wm, fun _ => none, Fr.no⟩ w ⟨fun b => if b = g then ds.length else wm b, fun _ => none, Fr.no⟩ W' := by
        refine ⟨fun b => ?_, fun _ _ h => h, q2.later.cell⟩
        show wm b ≤ if b = g then ds.length else wm b
        split
        · rename_i h; rw [h, hwm g hg]; exact Nat.zero_le _
        · exact Nat.le_refl _
      refine ⟨fun b => if b = g then ds.length else wm b, fun b hb => ?_, ⟨hL, q2.below, fun b h => (by simp [Fr.no] at h), fun b hb => ?_, rfl⟩, RV_lst_mk ?_⟩
      · show (if b = g then ds.length else wm b) = 0
        rw [if_neg (by omega)]
        exact q1 b hb
      · show (if b = g then ds.length else wm b) = wm b
        rw [if_neg (by omega)]
      · simp only [RC]
        refine .inr ⟨g, 0, cap, ds, rfl, hn, by simp [tagOf, TagOk], RCs_later hL _ _ hrc, ⟨3, hu, by intro t nb s h; simp [tagOf] at h⟩, fun k u hk => ⟨?_, ?_⟩⟩
        · have hk1 : k < ds.length := (List.getElem?_eq_some_iff.1 hk).1
          rw [← htk, List.getElem?_take] at hk
          split at hk
          · simp only [World.cell?, hgb, Nat.zero_add]
            rw [Array.getElem?_toList] at hk
            simpa using hk
          · cases hk
        · have hk1 : k < ds.length := (List.getElem?_eq_some_iff.1 hk).1
          show 0 + k < if g = g then ds.length else wm g
          rw [if_pos rfl]; omega
theorem encNd_size (t : Nd) : (encNd t).size = 3 := by
  obtain ⟨k, a, ks⟩ := t
  rw [encNd_mk]; rfl
def fdT (t : Nd) (kd : Int) : List Nd := (allT t).filter fun t => t.kind == kd
theorem pure32 (t : Nd) (kd : Int) (hN : (allT t).length ≤ 1000000) : PureF Tryz.prog 32 [encNd t, .at (.int .i64 kd)] (.lst (tagOf ((fdT t kd).map encNd)) ((fdT t kd).map encNd)) := by
  intro wm w us hwm hgl hu
  cases hu with
  | cons hu1 hu2 =>
    cases hu2 with
    | cons hu3 hu4 =>
      cases hu4
      have e := RV_at (RV.of_RV1 hu3)
      subst e
      refine callsIn_wide.1 ((find_in 3 (Nat.le_refl _) wm w hwm hgl t _ kd (RV.of_RV1 hu1) hN).mono ?_)
      rintro e w' ⟨v', ds, rfl, hrow, hrc, hbel⟩
      obtain ⟨wm', h1, h2, h3⟩ := row_pure hwm hbel hrow ((fdT t kd).map encNd) (by simp [fdT]) (fun x hx => by obtain ⟨y, _, rfl⟩ := List.mem_map.1 hx; exact encNd_size y) hrc
      exact ⟨_, wm', rfl, h1, h2, h3⟩
def c32 (x : Nd × Int × Unit) : Option (List Nd × Unit) := if (allT x.1).length ≤ 1000000 then some (fdT x.1 x.2.1, ()) else none
theorem ok32' (t : Nd) (kd : Int) (u : Unit) (y : List Nd × Unit) (hx : c32 (t, kd, u) = some y) (vs : List V) (hvs : ArgVs CC as32 ((t, kd, u) : denAs as32) vs) : PureF Tryz.prog 32 vs (finV ((argTs CC rs32 (fun _ => false) 0 (y : denAs rs32)).map (trT CC ⟨id, id, id, id⟩))) := by
  obtain ⟨v, vs', rfl, hv, v2, vs2, rfl, hv2, hvs⟩ := hvs
  replace hvs : vs2 = [] := hvs
  subst hvs
  replace hv : v = trT CC ⟨id, id, id, id⟩ (argT CC (.st TI.node) false t) := hv
  rw [encNd_tr] at hv
  subst hv
  replace hv2 : v2 = .at (.int .i64 kd) := hv2
  subst hv2
  unfold c32 at hx
  split at hx
  · rename_i h
    injection hx with hx
    subst hx
    exact pure32 t kd h
  · cases hx
theorem ok32 : ConOk CC Tryz.prog 32 ⟨as32, rs32, c32⟩ := fun x y hx vs hvs => ok32' x.1 x.2.1 x.2.2 y hx vs hvs
end Go.Proofs.YtnamdpbcpnnhaaaGreatDoor
end
section
set_option linter.unusedVariables false
set_option linter.unusedSimpArgs false
namespace Go.Proofs.YtnamdpbcpnnhaaaGreatDoor
open Go.Al Go.Den Go.RowKit Go.Shelf
attribute [local go_sem] Oper.semAt_some
theorem info108 : (Tryz.prog.info? 108).map (fun i => (i.zero, i.size, i.bytes)) = some (some (.agg #[.int .u8 0, .int .i64 0]), 2, 16) := by kernel_rfl
def chCs (l : List CharT) : List Value := l.flatMap chC
theorem chCs_add (l : List CharT) (x : CharT) : chCs (l ++ [x]) = chCs l ++ chC x := by simp [chCs]
theorem cell_two_new (w : World) (u v : Value) (t : TypeId) (m : Nat × Nat) : ∀ j x, [u, v][j]? = some x → (w.alloc (.cells #[u, v] t m)).cell? ((⟨w.heap.size, 0, none⟩ : Addr).add j) = some x := by
  intro j x hx
  have hn := World.alloc_heap_new w (.cells #[u, v] t m)
  match j, hx with
  | 0, hx =>
    have : u = x := by simpa using hx
    subst this
    show (w.alloc (.cells #[u, v] t m)).cell? ⟨w.heap.size, 0, none⟩ = some u
    unfold World.cell?
    simp only [hn]; rfl
  | 1, hx =>
    have : v = x := by simpa using hx
    subst this
    show (w.alloc (.cells #[u, v] t m)).cell? ⟨w.heap.size, 1, none⟩ = some v
    unfold World.cell?
    simp only [hn]; rfl
  | j + 2, hx => simp at hx
set_option maxRecDepth 100000 in
set_option maxHeartbeats 1000000 in
theorem join_in (m : Nat) (hm : 3 ≤ m) (s : Str) (hlen : s.length < 1000000) (w : World) :
    CallsIn Fence.wide m Tryz.prog 62 #[.string ⟨s.toArray⟩] w fun e W' => ∃ v', e = .returned v' ∧ W'.ownsRow w.heap.size 108 2 v' (chG s 0).length (chCs (chG s 0)) ∧ ((chG s 0).length = 0 → v' = .slice none 0 0) ∧ Below w.heap.size w W' := by
  have hF : ∀ f, Fence.wide.fn f := fun _ => trivial
  have hdd : ∀ k : Nat, (Fence.wide.depth.isSome = true → 1 ≤ k) := fun k h => by cases h
  refine callsIn_of_wp_marks Tryz.func62 rfl (hF _) ?_ rfl
  simp only [Tryz.ntmps62, List.size_toArray, List.length_cons, List.length_nil, Nat.reduceAdd, Nat.reduceSub, Array.replicate_succ, Array.replicate_zero, List.push_toArray, List.append_toArray, List.nil_append, List.cons_append]
  gi_wp2_with ((try refine ⟨hdd _, ?_⟩); gi_at_call 87; refine (chars_in _ _ _).mono ?_; rintro e w' ⟨rfl, rfl⟩)
  obtain ⟨W2, hW2⟩ : ∃ W2, (w.alloc (.cells #[.slice none 0 0] 99)).alloc (.cells #[.string ⟨s.toArray⟩] 9) = W2 := ⟨_, rfl⟩
  have hsz2 : W2.heap.size = w.heap.size + 2 := by rw [← hW2]; simp
  have hb2 : Below w.heap.size w W2 := by rw [← hW2]; exact ((Below.refl _ w).alloc (Nat.le_refl _) _).alloc (by simp) _
  have hbx2 : W2.heap[w.heap.size]? = some (.cells #[.slice none 0 0] 99 (0, 0)) := by
    rw [← hW2, Below.heap_alloc _ _ _ (by simp)]
    exact World.alloc_heap_new w _
  have hbt2 : W2.heap[w.heap.size + 1]? = some (.cells #[.string ⟨s.toArray⟩] 9 (0, 0)) := by
    rw [← hW2]
    have := World.alloc_heap_new (w.alloc (.cells #[.slice none 0 0] 99)) (.cells #[.string ⟨s.toArray⟩] 9 (0, 0))
    simpa using this
  have hG0 : Grow w.heap.size w.heap.size 99 108 2 w [] 0 W2 := ⟨_, hbx2, World.ownsRow_nil W2 _ _ _, fun _ => rfl, hb2⟩
  have hB2 := hG0.box (Nat.le_refl _)
  have hx2 : ¬ exb w.heap.size W2 (w.heap.size + 1) := fun h => by
    rcases h with h | ⟨o, l, c, h⟩
    · omega
    · simp [World.cell?, hbx2] at h
  rw [hW2]
  refine wpIn_rangeFunc_ownH rfl (by omega) (gf := 118) (lb := #[.pointer (some ⟨w.heap.size + 1, 0, none⟩)]) (by simp [Act.eval]) (hF 118) (enters_of Tryz.func118 (by kernel_rfl) rfl)
    (chars_stops (m - 1) w.heap.size w.heap.size (w.heap.size + 1) s hlen W2 hB2 hx2 hbt2) keptIf_t (fun W l o o' hl h1 h2 _ => keptIf_b W l o o' (by omega) h1 h2) (Below.refl _ _) (fun _ => rfl)
    (fun pre W => Grow w.heap.size w.heap.size 99 108 2 w (chCs pre) pre.length W)
    (fun _ _ _ => False) ?hI (fun _ _ _ _ _ hs _ _ => hs) hG0
    (fun x a' W => ∃ B4, a' = { tmps := #[.string ⟨s.toArray⟩, undef, .slice none 0 0, .pointer (some ⟨w.heap.size, 0, none⟩), .pointer (some ⟨B4, 0, none⟩), .string ⟨s.toArray⟩, .func (.func 118) #[] #[.pointer (some ⟨w.heap.size + 1, 0, none⟩)], chV x, undef, undef, undef, undef, undef], defers := [] } ∧ W.heap[B4]? = some (.cells #[.int .u8 x.b, .int .i64 x.fat] 108 (0, 0)))
    ?hAx ?assign ?body ?done ?stop
  case hI => exact fun pre A B row h hg hr => h.own (Nat.le_refl _) hg (fun r e => by obtain ⟨h1, h2⟩ := hr r e; exact ⟨by omega, h2⟩)
  case hAx =>
    rintro x a' _ A B row ⟨B4, e3, e4⟩ hg hr
    refine ⟨B4, e3, (hg.block B4 (Array.getElem?_eq_some_iff.1 e4).1 fun e => ?_).trans e4⟩
    obtain ⟨_, o, ho, hc⟩ := hr B4 e.symm
    rw [e4] at ho; injection ho with ho; subst ho; cases hc
  case assign =>
    rintro l pre ⟨xb, xa⟩ W K hI hK
    have hfin : ∀ a2, a2 = ({ tmps := #[.string ⟨s.toArray⟩, undef, .slice none 0 0, .pointer (some ⟨w.heap.size, 0, none⟩), .pointer (some ⟨W.heap.size, 0, none⟩), .string ⟨s.toArray⟩, .func (.func 118) #[] #[.pointer (some ⟨w.heap.size + 1, 0, none⟩)], chV ⟨xb, xa⟩, undef, undef, undef, undef, undef], defers := [] } : Act) → K a2 (W.alloc (.cells #[.int .u8 xb, .int .i64 xa] 108)) := fun a2 e => hK a2 _ ((KeepsOthers.alloc W _).from _) (fun hB => Kept.grown hB (World.grownBy_alloc W _ none))
      (hI.own (Nat.le_refl _) (World.grownBy_alloc W _ none) (fun r e => by cases e)) ⟨W.heap.size, e, World.alloc_heap_new W _⟩
    unfold chV at *
    gi_wp2
    rfl
  case body =>
    rintro l pre ⟨xb, xa⟩ a' W hl hL ⟨bv, hbv, hrow, hz, hbel⟩ ⟨B4, rfl, hB4⟩ hlen2
    replace hB4 : W.heap[B4]? = some (.cells #[.int .u8 xb, .int .i64 xa] 108 (0, 0)) := hB4
    have c0 : W.cell? ⟨B4, 0, none⟩ = some (.int .u8 xb) := by simp [World.cell?, hB4]
    have c1 : W.cell? ⟨B4, 1, none⟩ = some (.int .i64 xa) := by simp [World.cell?, hB4]
    have cb : W.cell? ⟨w.heap.size, 0, none⟩ = some bv := by simp [World.cell?, hbv]
    obtain ⟨i0, hi, hz0, hz1, hz2⟩ := info_parts info108
    have hb1 : pre.length + 1 ≤ 1000000 := by omega
    have hsz : w.heap.size ≤ W.heap.size := hbel.size
    have hlt : w.heap.size < W.heap.size := (Array.getElem?_eq_some_iff.1 hbv).1
    have hnb : some w.heap.size ≠ bv.ownBlock := by
      rcases own_ne hrow hbv (fun cur e => by cases e) with e | e
      · rw [e]; simp
      · exact fun e' => e e'.symm
    gi_wp2_with (
      gi_at_builtin
      refine wpListIn_append_at _ rfl _ _ 99 rfl w.heap.size 108 i0 (.agg #[.int .u8 0, .int .i64 0]) 2 16 Tryz.underlying99 hi hz0 hz1 hz2 rfl (by decide) _ _ _ rfl (hrow.alloc _) ⟨W.heap.size, 0, none⟩ 1 1 [.int .u8 xb, .int .i64 xa] rfl rfl (cell_two_new _ _ _ _ _) (by simp [Value.oneCell']) (Nat.le_trans hb1 (by decide)) (Nat.le_trans (Nat.mul_le_mul_right 16 hb1) (by decide)) (by simp; omega) ?_
      intro v' w3 hown' hg3 hnil3 hat
      have hv3 : w3.heap[w.heap.size]? = some (.cells #[bv] 99 (0, 0)) := (hg3.block _ (by simp; omega) hnb).trans ((Below.heap_alloc _ _ _ hlt).trans hbv)
      obtain ⟨hc3, hf3⟩ : w3.cell? ⟨w.heap.size, 0, none⟩ = some bv ∧ w3.frozen? ⟨w.heap.size, 0, none⟩ = false := by constructor <;> simp [World.cell?, World.frozen?, hv3]
      obtain ⟨g', cap', cur', rfl, hbase', hgb', hr1, hr2, hr3, hr4⟩ : ∃ g' cap' cur', v' = .slice (some ⟨g', 0, none⟩) (pre.length + 1) cap' ∧ w.heap.size ≤ g' ∧ w3.heap[g']? = some (.cells cur' 108 (0, 0)) ∧ pre.length + 1 ≤ cap' ∧ cap' ≤ maxLen ∧ cur'.size = cap' * 2 ∧ cur'.toList.take ((pre.length + 1) * 2) = chCs pre ++ [.int .u8 xb, .int .i64 xa] := by
        rcases hown'.2 with ⟨_, h0⟩ | h'
        · exact absurd h0 (by omega)
        · exact h')
    have hg4 := grownBy_setCell' w3 w.heap.size (.slice (some ⟨g', 0, none⟩) (pre.length + 1) cap')
    have hg3' : (W.alloc (.cells #[.int .u8 xb, .int .i64 xa] 108)).grownBy w3 bv.ownBlock := hg3
    have hs3 : W.heap.size + 1 ≤ w3.heap.size := by have := hg3'.size; simpa using this
    refine (?_ : KeepsFrom _ _ _ ∧ KeptIf _ _ _ _ ∧ Grow _ _ _ _ _ _ (chCs (pre ++ [_])) (pre ++ [_]).length _)
    rw [chCs_add, List.length_append, List.length_cons, List.length_nil]
    have hbel3 : Below w.heap.size w w3 := (hbel.alloc hsz _).grown hg3' (by simp; omega) (fun k e => own_low hrow e)
    refine Grow.round (Nat.le_refl _) hbv hrow (heap_set_box _ hv3) (hown'.kept hg4 (own_ne hown' hv3 (fun cur e => by cases e))) (fun e => absurd e (by omega)) (hbel3.grown hg4 hbel3.size (fun k e => by injection e with e; omega)) (by simp; omega) ?_ (fun b hb h1 h2 => ?_)
    · rcases hat with e | e
      · exact .inl e
      · exact .inr ⟨_, e, by simp⟩
    · exact ((hg4.block b (by omega) (fun e => h1 (by injection e))).trans (hg3'.block b (by simp; omega) (fun e => h2 e.symm))).trans (Below.heap_alloc _ _ _ hb)
  case stop =>
    rintro D c pre W _ _ h _
    exact h.elim
  case done =>
    rintro D ys W hD hys ⟨bv, hbv, hrow, hz, hbel⟩ hK
    have cb : W.cell? ⟨w.heap.size, 0, none⟩ = some bv := by simp [World.cell?, hbv]
    gi_wp2
    refine ⟨by simp, .inl ⟨_, _, rfl, run_takeDeferred hK, ?_⟩⟩
    have hgD := grownBy_putObj' W D (.deferred none)
    subst hys
    refine ⟨_, results_tmp rfl _ _ _, _, rfl, ?_⟩
    refine ⟨hrow.kept hgD (own_ne hrow hK (fun cur e => by cases e)), hz, hbel.grown hgD hbel.size (fun k e => by injection e with e; omega)⟩
theorem RCs_chars {g : Gh} {w : World} : ∀ l : List CharT, RCs g w (l.map eV_char) (chCs l)
  | [] => by simp [RCs, chCs]
  | x :: r => by
    have ih := RCs_chars (g := g) (w := w) r
    simp only [List.map_cons, RCs]
    refine ⟨chC x, chCs r, by simp [chCs], ?_, ih⟩
    show RC g w (.agg [.at (.int .u8 (CharT.b x)), .at (.int .i64 (CharT.fat x))]) _
    simp only [RC, RCs, chC]
    exact ⟨[.int .u8 x.b], [.int .i64 x.fat], rfl, ⟨rfl, rfl⟩, [.int .i64 x.fat], [], rfl, ⟨rfl, rfl⟩, rfl⟩
theorem pure62 (s : Str) (hlen : s.length < 1000000) : PureF Tryz.prog 62 [.at (.string ⟨s.toArray⟩)] (.lst (tagOf ((chG s 0).map eV_char)) ((chG s 0).map eV_char)) := by
  intro wm w us hwm hgl hu
  cases hu with
  | cons hu1 hu2 =>
    cases hu2
    have e := RV_at hu1
    subst e
    refine callsIn_wide.1 ((join_in 3 (Nat.le_refl _) s hlen w).mono ?_)
    rintro e w' ⟨v', rfl, hrow, hz, hbel⟩
    obtain ⟨wm', h1, h2, h3⟩ := own_pure hwm hbel hrow hz ((chG s 0).map eV_char) (by simp) (fun x hx => by obtain ⟨y, _, rfl⟩ := List.mem_map.1 hx; exact sz_char y) (RCs_chars _)
    exact ⟨_, wm', rfl, h1, h2, h3⟩
def c62 (x : Str × Unit) : Option (List CharT × Unit) := if x.1.length < 1000000 then some (chG x.1 0, ()) else none
theorem ok62 : ConOk CC Tryz.prog 62 ⟨as62, rs62, c62⟩ := fun x y hx vs hvs => by
  obtain ⟨s, u⟩ := x
  obtain ⟨v, vs', rfl, hv, hvs⟩ := hvs
  replace hvs : vs' = [] := hvs
  subst hvs
  replace hv : v = .at (.string ⟨List.toArray s⟩) := hv
  subst hv
  by_cases h : List.length (show Str from s) < 1000000
  · have h2 : c62 (s, u) = some (chG s 0, ()) := if_pos h
    replace hx : c62 (s, u) = some y := hx
    rw [h2] at hx
    injection hx with hx
    subst hx
    exact pure62 s h
  · have h2 : c62 (s, u) = none := if_neg h
    replace hx : c62 (s, u) = some y := hx
    rw [h2] at hx
    cases hx
end Go.Proofs.YtnamdpbcpnnhaaaGreatDoor
end
section
set_option linter.unusedVariables false
set_option linter.unusedSimpArgs false
namespace Go.Proofs.YtnamdpbcpnnhaaaGreatDoor
open Go.Al Go.Den Go.RowKit Go.Shelf
attribute [local go_sem] Oper.semAt_some
theorem RCs_chars_at {g : Gh} {w : World} : ∀ {l : List CharT} {us : List Value} (i : Nat) (h : i < l.length), RCs g w (l.map eV_char) us → us[2 * i]? = some (.int .u8 l[i].b) ∧ us[2 * i + 1]? = some (.int .i64 l[i].fat)
  | x :: r, us, 0, _, h => by
    simp only [List.map_cons, RCs] at h
    obtain ⟨u1, u2, rfl, h1, h2⟩ := h
    have h1' : RC g w (.agg [.at (.int .u8 (CharT.b x)), .at (.int .i64 (CharT.fat x))]) u1 := h1
    simp only [RC, RCs] at h1'
    obtain ⟨v1, v2, rfl, ⟨rfl, _⟩, v3, v4, rfl, ⟨rfl, _⟩, rfl⟩ := h1'
    exact ⟨rfl, rfl⟩
  | x :: r, us, i + 1, hi, h => by
    simp only [List.map_cons, RCs] at h
    obtain ⟨u1, u2, rfl, h1, h2⟩ := h
    have h3 := RC_length g w _ _ h1
    have h4 : u1.length = 2 := by rw [h3]; exact sz_char x
    obtain ⟨k0, k1⟩ := RCs_chars_at i (by simpa using hi) h2
    have ap : ∀ j, (u1 ++ u2)[2 * (i + 1) + j]? = u2[2 * i + j]? := fun j => by
      rw [List.getElem?_append_right (by omega), h4]; congr 1; omega
    exact ⟨(ap 0).trans k0, (ap 1).trans k1⟩
theorem RC_chars {wm : Nat → Nat} {w : World} {l : List CharT} {sv : Value} (h : RC ⟨wm, fun _ => none, Fr.no⟩ w (.lst (tagOf (l.map eV_char)) (l.map eV_char)) [sv]) :
    ∃ ad cap, sv = .slice ad l.length cap ∧ ∀ i (hi : i < l.length), ∃ b o, ad = some ⟨b, o, none⟩ ∧ (w.cell? ⟨b, o + 2 * i, none⟩ = some (.int .u8 l[i].b) ∧ o + 2 * i < wm b) ∧ (w.cell? ⟨b, o + (2 * i + 1), none⟩ = some (.int .i64 l[i].fat) ∧ o + (2 * i + 1) < wm b) := by
  have hl : (l.map eV_char).length = l.length := by simp
  simp only [RC] at h
  rcases h with ⟨he, hu, _⟩ | ⟨b, o, cap, ds, hu, hc, _, hr, _, ha⟩
  · have h0 : l = [] := by simpa using he
    subst h0
    injection hu with hu
    exact ⟨none, 0, hu, fun i hi => absurd hi (by simp)⟩
  · injection hu with hu
    refine ⟨_, cap, by rw [hu, hl], fun i hi => ?_⟩
    obtain ⟨k1, k2⟩ := RCs_chars_at i hi hr
    exact ⟨b, o, rfl, ha _ _ k1, ha _ _ k2⟩
theorem info5 : (Tryz.prog.info? 5).map (fun i => (i.zero, i.size, i.bytes)) = some (some (.int .u8 0), 1, 1) := by kernel_rfl
theorem grownBy_setCellAt (W : World) (b i : Nat) (v : Value) : W.grownBy (W.setCell ⟨b, i, none⟩ v) (some b) :=
  ⟨rfl, rfl, rfl, (KeepsWalks.setCell W _ v).size, fun k _ hk => Below.heap_setCell _ _ _ k (fun e => hk (by rw [e]))⟩
theorem heap_set_at {W : World} {B i : Nat} {c : Array Value} {t : TypeId} (v' : Value) (h : W.heap[B]? = some (.cells c t (0, 0))) : (W.setCell ⟨B, i, none⟩ v').heap[B]? = some (.cells (c.setIfInBounds i v') t (0, 0)) := by
  obtain ⟨hlt, hk⟩ := Array.getElem?_eq_some_iff.1 h
  show (W.heap.modify B _)[B]? = _
  rw [Array.getElem?_eq_getElem (by rw [Array.size_modify]; exact hlt), Array.getElem_modify_self, hk]
  rfl
def TRow (n0 g : Nat) (w : World) (xs : List Int) (n k : Nat) (W : World) : Prop :=
  Below n0 w W ∧ ∃ cur, W.heap[g]? = some (.cells cur 5 (0, 0)) ∧ cur.size = n ∧ (∀ i, i < k → cur[i]? = some (.int .u8 (xs.getD i 0))) ∧ ∀ i, i < n → ∃ z, cur[i]? = some (.int .u8 z)
set_option maxRecDepth 100000 in
set_option maxHeartbeats 1000000 in
theorem text_in (m : Nat) (l : List CharT) (hlen : l.length < 1000000) (wm : Nat → Nat) (w : World) (hwm : ∀ b, w.heap.size ≤ b → wm b = 0) (ad : Option Addr) (cap : Nat)
    (hch : ∀ i (hi : i < l.length), ∃ b o, ad = some ⟨b, o, none⟩ ∧ (w.cell? ⟨b, o + 2 * i, none⟩ = some (.int .u8 l[i].b) ∧ o + 2 * i < wm b) ∧ (w.cell? ⟨b, o + (2 * i + 1), none⟩ = some (.int .i64 l[i].fat) ∧ o + (2 * i + 1) < wm b)) :
    CallsIn Fence.wide m Tryz.prog 63 #[.slice ad l.length cap] w fun e W' => e = .returned (.string (strOfNums (l.map CharT.b))) ∧ Below w.heap.size w W' := by
  have hF : ∀ f, Fence.wide.fn f := fun _ => trivial
  refine callsIn_of_wp Tryz.func63 rfl trivial ?_ rfl
  simp only [Tryz.ntmps63, List.size_toArray, List.length_cons, List.length_nil, Nat.reduceAdd, Nat.reduceSub, Array.replicate_succ, Array.replicate_zero, List.push_toArray, List.append_toArray, List.nil_append, List.cons_append]
  obtain ⟨i0, hi, hz0, hz1, hz2⟩ := info_parts info5
  obtain ⟨W1, hmk, hown, hg1⟩ := run_make_full (P := Tryz.prog) w w.heap.size 125 5 i0 (.int .u8 0) 1 Tryz.underlying125 hi hz0 hz1 .i64 .i64 l.length (by rw [hz2]; omega) (by simp only [maxLen]; omega) (Nat.le_refl _)
  have h0 : TRow w.heap.size w.heap.size w (l.map CharT.b) l.length 0 W1 := by
    refine ⟨(Below.refl _ w).grown hg1 (Nat.le_refl _) (fun k e => by cases e), ?_⟩
    rcases hown.2 with ⟨h, _⟩ | ⟨g, cap', cur, h, _, hgb, _, _, hcs, htk⟩
    · cases h
    · injection h with e1 _ e3
      injection e1 with e1
      injection e1 with e1
      subst e1 e3
      refine ⟨cur, hgb, by omega, fun i h => by omega, fun i hi => ⟨0, ?_⟩⟩
      have hh : (List.take (l.length * 1) cur.toList)[i]? = (madeCells (Value.int .u8 0).cells (l.length * 1)).toList[i]? := by rw [htk]
      rw [List.getElem?_take, if_pos (by omega), Array.getElem?_toList, Array.getElem?_toList] at hh
      rw [hh]
      have hz : (Value.int IntKind.u8 0).cells = #[.int .u8 0] := rfl
      rw [hz]
      simp [madeCells, hi, Nat.mod_one]
  have hgl : w.heap.size ≠ W1.heap.size := by
    obtain ⟨_, cur, h, _⟩ := h0
    have := (Array.getElem?_eq_some_iff.1 h).1
    omega
  gi_wp2_with (rw [hmk])
  gi_loopw [11] (fun u wr => ∃ k : Nat, k ≤ l.length ∧ u = .int .i64 (k : Int) ∧ TRow w.heap.size w.heap.size w (l.map CharT.b) l.length k wr)
    (fun u _ => match u with | .int _ z => l.length - z.toNat | _ => 0)
  case atStart => exact ⟨0, Nat.zero_le _, rfl, h0⟩
  case round =>
    obtain ⟨k, hk, rfl, hbel, cur, hgb, hcs, hc1, hc2⟩ := hrel
    by_cases hlt : k < l.length
    · obtain ⟨b, o, rfl, ⟨a0, b0⟩, ⟨a1, b1⟩⟩ := hch k hlt
      have hbl : b < w.heap.size := by
        rcases Nat.lt_or_ge b w.heap.size with h | h
        · exact h
        · rw [hwm b h] at b0; omega
      have f0 : wr.cell? ⟨b, o + k * 2, none⟩ = some (.int .u8 l[k].b) := by rw [Nat.mul_comm k 2]; exact (cell_of_heap (hbel.block b hbl) _).trans a0
      have f1 : wr.cell? ⟨b, o + k * 2 + 1, none⟩ = some (.int .i64 l[k].fat) := by rw [Nat.mul_comm k 2]; exact (cell_of_heap (hbel.block b hbl) _).trans a1
      have hgs := (Array.getElem?_eq_some_iff.1 hgb).1
      obtain ⟨W3, hW3⟩ : ∃ W3, wr.alloc (.cells #[.int .u8 l[k].b, .int .i64 l[k].fat] 108) = W3 := ⟨_, rfl⟩
      have hg3 : W3.heap[w.heap.size]? = some (.cells cur 5 (0, 0)) := by rw [← hW3, Below.heap_alloc _ _ _ hgs]; exact hgb
      have hn3 : W3.heap[wr.heap.size]? = some (.cells #[.int .u8 l[k].b, .int .i64 l[k].fat] 108 (0, 0)) := by rw [← hW3]; exact World.alloc_heap_new wr _
      have g0 : W3.cell? ⟨wr.heap.size, 0, none⟩ = some (.int .u8 l[k].b) := by simp [World.cell?, hn3]
      obtain ⟨z, hz⟩ := hc2 k hlt
      have hck : W3.cell? ⟨w.heap.size, k, none⟩ = some (.int .u8 z) := by simp [World.cell?, hg3, hz]
      have hfk : W3.frozen? ⟨w.heap.size, k, none⟩ = false := by simp [World.frozen?, hg3]
      gi_wp2_with (rw [hW3])
      refine ⟨⟨k + 1, hlt, rfl, ?_⟩, ?_⟩
      · have hbel3 : Below w.heap.size w W3 := by rw [← hW3]; exact hbel.alloc hbel.size _
        refine ⟨hbel3.grown (grownBy_setCellAt W3 w.heap.size k (.int .u8 l[k].b)) hbel3.size (fun j e => by injection e with e; omega), cur.setIfInBounds k (.int .u8 l[k].b), heap_set_at _ hg3, by simpa using hcs, fun i hi => ?_, fun i hi => ?_⟩
        · rw [Array.getElem?_setIfInBounds]
          by_cases e : k = i
          · subst e
            rw [if_pos rfl, if_pos (by omega)]
            simp [hlt]
          · rw [if_neg e]; exact hc1 i (by omega)
        · rw [Array.getElem?_setIfInBounds]
          by_cases e : k = i
          · subst e
            rw [if_pos rfl, if_pos (by omega)]
            exact ⟨_, rfl⟩
          · rw [if_neg e]; exact hc2 i hi
      · show l.length - Int.toNat ((k : Int) + 1) < l.length - Int.toNat (k : Int)
        omega
    · obtain rfl : k = l.length := by omega
      have hcv := run_convert_bytes_arg (P := Tryz.prog) wr 125 5 Tryz.underlying125 Tryz.underlying5 w.heap.size 0 l.length l.length (l.map CharT.b) (by simp) (fun i hi => by
        have := hc1 i hi
        simp [World.cell?, hgb, this]) 9 Tryz.underlying9
      gi_wp2_with (rw [hcv])
      go_ret
      exact ⟨rfl, hbel⟩
def c63 (x : List CharT × Unit) : Option (Str × Unit) := if x.1.length < 1000000 then some (x.1.map (fun c => UInt8.ofNat c.b.toNat), ()) else none
theorem pure63 (l : List CharT) (hlen : l.length < 1000000) : PureF Tryz.prog 63 [.lst (tagOf (l.map eV_char)) (l.map eV_char)] (.at (.string ⟨(l.map (fun c => UInt8.ofNat c.b.toNat)).toArray⟩)) := by
  intro wm w us hwm hgl hu
  obtain ⟨v, rfl⟩ : ∃ v, us = [v] := by cases hu with | cons _ hv => cases hv; exact ⟨_, rfl⟩
  cases hu with
  | cons h _ =>
    obtain ⟨us, h1, h2⟩ := h
    have hle := RC_length _ _ _ _ h1
    obtain ⟨sv, rfl⟩ := List.length_eq_one_iff.1 (show us.length = 1 from hle)
    obtain ⟨ad, cap, rfl, hch⟩ := RC_chars h1
    have : v = .slice ad l.length cap := h2
    subst this
    refine callsIn_wide.1 ((text_in 3 l hlen wm w hwm ad cap hch).mono ?_)
    rintro e w' ⟨rfl, hbel⟩
    obtain ⟨q1, q2⟩ := step_of_below hwm hbel
    refine ⟨_, wm, rfl, q1, q2, ?_⟩
    have e2 : strOfNums (l.map CharT.b) = ⟨(l.map (fun c => UInt8.ofNat c.b.toNat)).toArray⟩ := by simp [strOfNums, List.map_map, Function.comp_def]
    rw [e2]
    exact RV_at_mk rfl
theorem ok63 : ConOk CC Tryz.prog 63 ⟨as63, rs63, c63⟩ := fun x y hx vs hvs => by
  obtain ⟨s, u⟩ := x
  obtain ⟨v, vs', rfl, hv, hvs⟩ := hvs
  replace hvs : vs' = [] := hvs
  subst hvs
  change List CharT at s
  replace hv : v = .lst (tagOf (s.map eV_char)) (s.map eV_char) := hv
  subst hv
  by_cases h : s.length < 1000000
  · have h2 : c63 (s, u) = some (s.map (fun c => UInt8.ofNat c.b.toNat), ()) := if_pos h
    replace hx : c63 (s, u) = some y := hx
    rw [h2] at hx
    injection hx with hx
    subst hx
    exact pure63 s h
  · have h2 : c63 (s, u) = none := if_neg h
    replace hx : c63 (s, u) = some y := hx
    rw [h2] at hx
    cases hx
end Go.Proofs.YtnamdpbcpnnhaaaGreatDoor
end
section
set_option linter.unusedVariables false
set_option linter.unusedSimpArgs false
namespace Go.Proofs.YtnamdpbcpnnhaaaGreatDoor
open Go.Al Go.Den
noncomputable def c89 : denKs ([.str] : LK) → DD (denKs ([.bool] : LK)) := mD (sh89 0)
theorem ok89 : CPOk CC Tryz.prog syn 89 (cD ([.str] : LK) ([.bool] : LK) c89) := con89 0
noncomputable def c92 (fu : Nat) : denKs ([] : LK) → DD (denKs ([.int .i64] : LK)) := mD (sh92 fu c88)
theorem ok92 (fu : Nat) : CPOk CC Tryz.prog syn 92 (cD ([] : LK) ([.int .i64] : LK) (c92 fu)) := con92 fu c88 ok88
noncomputable def c93 (fu : Nat) : denKs ([] : LK) → DD (denKs ([.int .i64] : LK)) := mD (sh93 fu c90 c88)
theorem ok93 (fu : Nat) : CPOk CC Tryz.prog syn 93 (cD ([] : LK) ([.int .i64] : LK) (c93 fu)) := con93 fu c90 ok90 c88 ok88
noncomputable def c94 (fu : Nat) : denKs ([.int .u8] : LK) → DD (denKs ([.int .i64] : LK)) := mD (sh94 fu c88)
theorem ok94 (fu : Nat) : CPOk CC Tryz.prog syn 94 (cD ([.int .u8] : LK) ([.int .i64] : LK) (c94 fu)) := con94 fu c88 ok88
noncomputable def c95 (fu : Nat) : denKs ([] : LK) → DD (denKs ([.int .i64] : LK)) := mD (sh95 fu c89)
theorem ok95 (fu : Nat) : CPOk CC Tryz.prog syn 95 (cD ([] : LK) ([.int .i64] : LK) (c95 fu)) := con95 fu c89 ok89
noncomputable def c65 (fu : Nat) : denKs ([] : LK) → DD (denKs ([.int .i64, .int .i64] : LK)) := mD (sh65 fu c89 (c92 fu) (c93 fu) (c94 fu) (c95 fu))
theorem ok65 (fu : Nat) : CPOk CC Tryz.prog syn 65 (cD ([] : LK) ([.int .i64, .int .i64] : LK) (c65 fu)) := con65 fu c89 ok89 (c92 fu) (ok92 fu) (c93 fu) (ok93 fu) (c94 fu) (ok94 fu) (c95 fu) (ok95 fu)
noncomputable def c64 (fu : Nat) : denKs ([] : LK) → DD (denKs ([.bool] : LK)) := mD (sh64 fu c90 c91 c88 c89)
theorem ok64 (fu : Nat) : CPOk CC Tryz.prog syn 64 (cD ([] : LK) ([.bool] : LK) (c64 fu)) := con64 fu c90 ok90 c91 ok91 c88 ok88 c89 ok89
noncomputable def c39 (fu : Nat) (x : Int × Str × Unit) : Option (List TokT × Unit) := sh39 fu c62 c63 (c64 fu) (c65 fu) (fun _ => false) x.1 x.2.1
theorem ok39 (fu : Nat) : ConOk CC Tryz.prog 39 ⟨as39, rs39, c39 fu⟩ := con39 fu c62 ok62 c63 ok63 (c64 fu) (ok64 fu) (c65 fu) (ok65 fu)
noncomputable def c18 (fu : Nat) (x : Str × Unit) : Option (List TokT × Unit) := sh18 fu (c39 fu) (fun _ => false) x.1
theorem ok18 (fu : Nat) : ConOk CC Tryz.prog 18 ⟨as18, rs18, c18 fu⟩ := con18 fu (c39 fu) (ok39 fu)
def c69 (x : Int × Unit) : Option (Str × Unit) := if -9223372036854775808 ≤ x.1 ∧ x.1 ≤ 9223372036854775807 then some (Lib.itoa x.1, ()) else none
theorem ok69 : ConOk CC Tryz.prog 69 ⟨as69, rs69, c69⟩ := fun x y hx vs hvs => by
  obtain ⟨n, u⟩ := x
  obtain ⟨v, vs', rfl, hv, hvs⟩ := hvs
  replace hvs : vs' = [] := hvs
  subst hvs
  change Int at n
  replace hv : v = .at (.int .i64 n) := hv
  subst hv
  by_cases h : -9223372036854775808 ≤ n ∧ n ≤ 9223372036854775807
  · have h2 : c69 (n, u) = some (Lib.itoa n, ()) := if_pos h
    replace hx : c69 (n, u) = some y := hx
    rw [h2] at hx
    injection hx with hx
    subst hx
    exact pure69 n h.1 h.2
  · have h2 : c69 (n, u) = none := if_neg h
    replace hx : c69 (n, u) = some y := hx
    rw [h2] at hx
    cases hx
noncomputable def c50 (fu : Nat) : Nat → Nd × Unit → Option (Str × Unit)
  | 0, _ => none
  | n + 1, x => sh50 fu (c50 fu n) c69 (fun _ => false) x.1
theorem ok50 (fu : Nat) : ∀ n, ConOk CC Tryz.prog 50 ⟨as50, rs50, c50 fu n⟩
  | 0 => fun x y hx => by cases hx
  | n + 1 => con50 fu (c50 fu n) (ok50 fu n) c69 ok69
noncomputable def c31 (fu n : Nat) (x : Str × Unit) : Option (Str × Unit) := sh31 fu (c17 fu n) (c18 fu) (c50 fu n) (fun _ => false) x.1
theorem ok31 (fu n : Nat) : ConOk CC Tryz.prog 31 ⟨as31, rs31, c31 fu n⟩ := con31 fu (c17 fu n) (ok17 fu n) (c18 fu) (ok18 fu) (c50 fu n) (ok50 fu n)
noncomputable def c14 (fu n : Nat) (_ : Unit) : Option (Bool × Unit) := sh14 fu c15 (c17 fu n) (c18 fu) (c31 fu n) c32 (fun _ => false)
theorem ok14 (fu n : Nat) : ConOk CC Tryz.prog 14 ⟨as14, rs14, c14 fu n⟩ := con14 fu c15 ok15 (c17 fu n) (ok17 fu n) (c18 fu) (ok18 fu) (c31 fu n) (ok31 fu n) c32 ok32
theorem awake_true : c14 100 100 () = some (true, ()) := by kernel_rfl
end Go.Proofs.YtnamdpbcpnnhaaaGreatDoor
end
section
set_option linter.unusedVariables false
set_option linter.unusedSimpArgs false
namespace Go.Proofs.YtnamdpbcpnnhaaaGreatDoor
open Go.Al Go.Den
def tkA (l : List TokT) (p : Int) : TokT := l.getD p.toNat tokD
def textF (l : List TokT) (p : Int) : Str := if (l.length : Int) ≤ p then [] else if (tkA l p).kind = 1 ∨ (tkA l p).kind = 5 then (tkA l p).text else []
def nameF (l : List TokT) (p : Int) : Bool := decide (p < l.length) && (decide ((tkA l p).kind = 1) && !kwL.contains (tkA l p).text)
def typeF (l : List TokT) (xs : List MT) (p : Int) : Bool := nameF l p && isTyS (tkA l p).text xs.reverse
noncomputable def q72 (fu : Nat) : Int × Unit → MM (Str × Unit) := b72 fu
noncomputable def q85 (fu : Nat) : Int × Unit → MM (Bool × Unit) := b85 fu
noncomputable def q73 (fu : Nat) : Unit → MM (Nd × Unit) := b73 fu
noncomputable def q76 (fu : Nat) : Int × Unit → MM (Bool × Unit) := b76 fu
section
variable (fu : Nat) {l : List TokT} {xs : List MT} {i : Int}
theorem sum_in {i f : Int} {n : Nat} (h0 : 0 ≤ i) (h1 : i ≤ n) (hl : n < 1000000) (f0 : 0 ≤ f) (f1 : f < 1000000) : iadd .i64 i f = i + f := iadd_of _ _ (by omega) (by omega)
def aJ {β : Type} (l : List TokT) (i : Int) (xs : List MT) (b : β) : Option (Option ((ParJT × Unit) × β)) := some (some (((l, i, xs, none, ()), ()), b))
def aM {β : Type} (l : List TokT) (i : Int) (xs : List MT) (b : β) : Option (Option ((ParT × Unit) × β)) := some (some (((l, i, xs, (), ()), ()), b))
theorem outJ_a {β : Type} (b : β) : outJ l (aJ l i xs b) = some (some (b, (i, xs))) := if_pos rfl
theorem outM_a {β : Type} (b : β) : outM l (aM l i xs b) = some (some (b, (i, xs))) := if_pos rfl
theorem q72_eq (f : Int) (h0 : 0 ≤ i) (h1 : i ≤ l.length) (hl : l.length < 1000000) (f0 : 0 ≤ f) (f1 : f < 1000000) : q72 fu (f, ()) l (i, xs) = some (some ((textF l (i + f), ()), (i, xs))) := by
  show outJ l (cond (ile (lenI l) (iadd .i64 i f)) (aJ l i xs (([] : Str), ())) (cond (inB (iadd .i64 i f) l.length) (cond (ine (TokT.kind (tkA l (iadd .i64 i f))) 1) (cond (ine (TokT.kind (tkA l (iadd .i64 i f))) 5) (aJ l i xs (([] : Str), ())) (aJ l i xs (TokT.text (tkA l (iadd .i64 i f)), ()))) (aJ l i xs (TokT.text (tkA l (iadd .i64 i f)), ()))) none)) = _
  rw [sum_in h0 h1 hl f0 f1]
  unfold textF
  by_cases h : (l.length : Int) ≤ i + f
  · rw [show ile (lenI l) (i + f) = true from decide_eq_true h, if_pos h, cond_true, outJ_a]
  · rw [show ile (lenI l) (i + f) = false from decide_eq_false h, if_neg h, cond_false]
    rw [show inB (i + f) l.length = true from by unfold inB; simp; omega, cond_true]
    rw [ine_dec, ine_dec]
    by_cases k1 : (tkA l (i + f)).kind = 1
    · rw [if_pos (.inl k1), show (!decide ((tkA l (i + f)).kind = 1)) = false by simp [k1], cond_false, outJ_a]
    · rw [show (!decide ((tkA l (i + f)).kind = 1)) = true by simp [k1], cond_true]
      by_cases k5 : (tkA l (i + f)).kind = 5
      · rw [if_pos (.inr k5), show (!decide ((tkA l (i + f)).kind = 5)) = false by simp [k5], cond_false, outJ_a]
      · rw [if_neg (by simp [k1, k5]), show (!decide ((tkA l (i + f)).kind = 5)) = true by simp [k5], cond_true, outJ_a]
theorem q85_eq (f : Int) (h0 : 0 ≤ i) (h1 : i ≤ l.length) (hl : l.length < 1000000) (f0 : 0 ≤ f) (f1 : f < 1000000) : q85 fu (f, ()) l (i, xs) = some (some ((nameF l (i + f), ()), (i, xs))) := by
  show outM l (cond (ilt (iadd .i64 i f) (lenI l)) (cond (inB (iadd .i64 i f) l.length) (cond (ieq (TokT.kind (tkA l (iadd .i64 i f))) 1) (cond (inB (iadd .i64 i f) l.length) (Option.bind (c15 (TokT.text (tkA l (iadd .i64 i f)), ())) fun y0 => aM l i xs (!y0.1, ())) none) (aM l i xs (false, ()))) none) (aM l i xs (false, ()))) = _
  rw [sum_in h0 h1 hl f0 f1]
  unfold nameF
  by_cases h : i + f < (l.length : Int)
  · rw [show ilt (i + f) (lenI l) = true from decide_eq_true h, cond_true]
    rw [show inB (i + f) l.length = true from by unfold inB; simp; omega, cond_true, cond_true, ieq_dec]
    by_cases k1 : (tkA l (i + f)).kind = 1
    · rw [show decide ((tkA l (i + f)).kind = 1) = true from decide_eq_true k1, cond_true, decide_eq_true h, Bool.true_and, Bool.true_and]
      rw [show c15 (TokT.text (tkA l (i + f)), ()) = some (kwL.contains (tkA l (i + f)).text, ()) from rfl, Option.bind_some, outM_a]
    · rw [show decide ((tkA l (i + f)).kind = 1) = false from decide_eq_false k1, cond_false, Bool.false_and, Bool.and_false, outM_a]
  · rw [show ilt (i + f) (lenI l) = false from decide_eq_false h, cond_false, decide_eq_false h, Bool.false_and, outM_a]
theorem nameF_lt (h : nameF l i = true) : i < (l.length : Int) := by
  unfold nameF at h
  simp only [Bool.and_eq_true, decide_eq_true_eq] at h
  exact h.1
theorem q76_eq (f : Int) (h0 : 0 ≤ i) (h1 : i ≤ l.length) (hl : l.length < 1000000) (f0 : 0 ≤ f) (f1 : f < 1000000) (hx : xs.length < 1000000) : q76 fu (f, ()) l (i, xs) = some (some ((typeF l xs (i + f), ()), (i, xs))) := by
  show c76 (q85 fu) (f, ()) l (i, xs) = _
  unfold c76
  rw [q85_eq fu f h0 h1 hl f0 f1]
  dsimp only
  rw [if_pos ⟨rfl, hx, fun h => ⟨h0, f0, nameF_lt h, hl⟩⟩]
  rfl
end
end Go.Proofs.YtnamdpbcpnnhaaaGreatDoor
end
section
set_option linter.unusedVariables false
set_option linter.unusedSimpArgs false
namespace Go.Proofs.YtnamdpbcpnnhaaaGreatDoor
open Go.Al Go.Den
theorem iter_succ {σ R : Type} (n : Nat) (F : (σ → Option R) → σ → Option R) (s : σ) : iter (n + 1) F s = F (iter n F) s := rfl
def semi : TokT := ⟨5, [59], 0, 0, 0, false⟩
theorem specs_semi (f n : Nat) {l : List TokT} (hl : l.length < 1000000) (h0 : 0 < l.length) (ht : tkA l 0 = semi) : (rs (f + 1) (n + 1)).c53 () l (0, [[]]) = some none := by
  have e1 : textF l 0 = [59] := by
    unfold textF
    rw [if_neg (by omega), ht]; rfl
  have e2 : typeF l [[]] 0 = false := by
    unfold typeF nameF
    rw [ht]; simp [semi]
  have e72 : q72 (f + 1) (0, ()) l (0, [[]]) = some (some (([59], ()), (0, [[]]))) := by
    rw [q72_eq (f + 1) 0 (by omega) (by omega) hl (by omega) (by omega), Int.add_zero, e1]
  have e76 : q76 (f + 1) (0, ()) l (0, [[]]) = some (some ((false, ()), (0, [[]]))) := by
    rw [q76_eq (f + 1) 0 (by omega) (by omega) hl (by omega) (by omega) (by decide), Int.add_zero, e2]
  have e33a : c33 (marksL, [59], ()) = some (false, ()) := rfl
  have e33b : c33 (wordsL, [59], ()) = some (false, ()) := rfl
  show outM l (sh53 (f + 1) c33 (q72 (f + 1)) (q73 (f + 1)) (rs (f + 1) n).c74 (rs (f + 1) n).c75 (q76 (f + 1)) ((l, 0, [[]], (), ()), ()) ()) = some none
  unfold sh53
  rw [iter_succ]
  dsimp only
  rw [e72]
  simp only [Option.bind_some, oCase_some, joinC]
  change outM l (Option.bind (c33 (marksL, [59], ())) _) = _
  rw [e33a]
  simp only [Option.bind_some, cond_false]
  change outM l (Option.bind (c33 (wordsL, [59], ())) _) = _
  rw [e33b]
  simp only [Option.bind_some, cond_false]
  change outM l (Option.bind (q76 (f + 1) (0, ()) l (0, [[]])) _) = _
  rw [e76]
  rfl
theorem decl_semi (f n : Nat) {l : List TokT} (hl : l.length < 1000000) (h0 : 0 < l.length) (ht : tkA l 0 = semi) : (rs (f + 1) (n + 2)).c37 (true, ()) l (0, [[]]) = some none := by
  have h := specs_semi f n hl h0 ht
  show outM l (Option.bind ((rs (f + 1) (n + 1)).c53 () l (0, [[]])) _) = _
  rw [h]
  rfl
theorem parse_semi (f n k : Nat) (hk : 0 < k) (h4 : k ≤ 4000) : c17 (f + 1) (n + 2) (List.replicate k semi, ()) = some (Nd.mk 0 0 [], 160, ()) := by
  obtain ⟨l, hl⟩ : ∃ l, l = List.replicate k semi := ⟨_, rfl⟩
  have hlen : l.length = k := by rw [hl]; simp
  have ht : tkA l 0 = semi := by
    unfold tkA
    rw [hl, List.getD_eq_getElem?_getD]
    simp [hk]
  rw [← hl]
  have e : c17 (f + 1) (n + 2) (l, ()) = (sh17 (f + 1) (.int .i64 0) (.int .i64 0) (rs (f + 1) (n + 2)).c37 (x17 l)).map cv17 := if_pos (by show l.length ≤ 4000; omega)
  rw [e]
  have h1 : ilt 0 (lenI l) = true := decide_eq_true (by show (0 : Int) < (l.length : Int); omega)
  have h2 : sh17 (f + 1) (.int .i64 0) (.int .i64 0) (rs (f + 1) (n + 2)).c37 (x17 l) = some none := by
    unfold sh17
    rw [iter_succ]
    change cond (ilt 0 (lenI l)) (Option.bind ((rs (f + 1) (n + 2)).c37 (true, ()) l (0, [[]])) _) _ = _
    rw [h1, cond_true, decl_semi f n (by omega) (by omega) ht]
    rfl
  rw [h2]
  rfl
theorem parse_none (f n : Nat) : c17 (f + 1) n ([], ()) = some (Nd.mk 1 0 [], 0, ()) := rfl
theorem parse_long (f n : Nat) {l : List TokT} (h : 4000 < l.length) : c17 f n (l, ()) = some (Nd.mk 0 0 [], 2, ()) := if_neg (by show ¬ l.length ≤ 4000; omega)
def c34 (x : Str × List Str × Unit) : Option (Bool × Unit) := if x.2.1.length < 1000 then some (x.2.1.contains x.1, ()) else none
theorem sh34_eq (fu : Nat) (hfu : 1000 < fu) (nf : Nat → Bool) (x1 : Str) (x0 : List Str) (h : x0.length < 1000) : sh34 fu nf x1 x0 = some (x0.contains x1, ()) := by
  unfold sh34
  refine iter_ind (fun s => ∃ k : Nat, s = ((((k : Int), ()), ()) : (Int × PUnit) × PUnit) ∧ k ≤ x0.length ∧ (x0.take k).contains x1 = false) (fun s => x0.length - s.1.1.toNat) ?_ fu _ ⟨0, rfl, Nat.zero_le _, by simp⟩ (by simp; omega)
  rintro rec s ⟨k, rfl, hk, hc⟩ hrec
  simp only [ilt, lenI, inB, ile]
  by_cases hlt : k < x0.length
  · have h1 : ((k : Int) < (x0.length : Int)) := by omega
    have h2 : (0 : Int) ≤ (k : Int) := by omega
    simp only [h1, h2, decide_true, Bool.and_self, cond_true, Int.toNat_natCast]
    have hg : x0.getD k [] = x0[k] := by simp [List.getD_eq_getElem?_getD, hlt]
    rw [hg]
    by_cases e : x0[k] = x1
    · have : seq x0[k] x1 = true := by simp [seq, e]
      rw [this, cond_true]
      have hm : x1 ∈ x0 := by rw [← e]; exact List.getElem_mem _
      simp [hm]
    · have : seq x0[k] x1 = false := by simp [seq, e]
      rw [this, cond_false]
      have hw : iadd .i64 (k : Int) 1 = ((k + 1 : Nat) : Int) := by unfold iadd; rw [IntWalk.i64_in _ (by omega)]; omega
      refine hrec _ ⟨k + 1, by rw [hw], hlt, ?_⟩ (by simp only [hw]; simp; omega)
      rw [List.take_succ_eq_append_getElem hlt]
      simp only [List.contains_eq_mem, List.mem_append, List.mem_singleton, decide_eq_false_iff_not, not_or] at hc ⊢
      exact ⟨hc, fun e2 => e e2.symm⟩
  · obtain rfl : k = x0.length := by omega
    have h1 : ¬ ((x0.length : Int) < (x0.length : Int)) := by omega
    simp only [h1, decide_false, cond_false]
    rw [List.take_length] at hc
    rw [hc]
theorem ok34 : ConOk CC Tryz.prog 34 ⟨as34, rs34, c34⟩ := by
  refine (con34 1001).sub ?_
  rintro ⟨x0, x1, u⟩ y hy
  unfold c34 at hy
  split at hy
  · rename_i h
    injection hy with hy
    subst hy
    exact sh34_eq 1001 (by omega) _ _ _ h
  · cases hy
def c16 (x : Str × Unit) : Option (Bool × Unit) := some (kwL.contains x.1, ())
theorem ok16 : ConOk CC Tryz.prog 16 ⟨as16, rs16, c16⟩ := by
  refine (con16 0 c34 ok34).sub ?_
  rintro ⟨x0, u⟩ y hy
  injection hy with hy
  subst hy
  rfl
def c14t (_ : Unit) : Option (Bool × Unit) := some (true, ())
theorem ok14t : ConOk CC Tryz.prog 14 ⟨as14, rs14, c14t⟩ := by
  refine (ok14 100 100).sub ?_
  rintro u y hy
  injection hy with hy
  subst hy
  exact awake_true
theorem sh3_true (fu n : Nat) (hfu : 5000 < fu) (nf : Nat → Bool) (x0 : Str) (x1 : Int) : sh3 fu c14t c15 c16 (c17 fu (n + 2)) nf x0 x1 = some (true, ()) := by
  obtain ⟨f, rfl⟩ : ∃ f, fu = f + 1 := ⟨fu - 1, by omega⟩
  unfold sh3
  change cond (!(beqB (kwL.contains x0) (kwL.contains x0))) _ _ = _
  have hb : beqB (kwL.contains x0) (kwL.contains x0) = true := by unfold beqB; cases kwL.contains x0 <;> rfl
  rw [hb, Bool.not_true, cond_false]
  by_cases hneg : x1 < 0
  · rw [show ilt x1 0 = true from decide_eq_true hneg]; rfl
  rw [show ilt x1 0 = false from decide_eq_false hneg, cond_false]
  by_cases hbig : 4100 < x1
  · rw [show ilt 4100 x1 = true from decide_eq_true hbig]; rfl
  rw [show ilt 4100 x1 = false from decide_eq_false hbig, cond_false]
  obtain ⟨m, rfl⟩ : ∃ m : Nat, x1 = (m : Int) := ⟨x1.toNat, by omega⟩
  refine iter_ind (fun s => ∃ k : Nat, s = ((List.replicate k semi, ((k : Int), ())), ()) ∧ k ≤ m) (fun s => m - s.1.2.1.toNat) ?_ (f + 1) _ ⟨0, rfl, Nat.zero_le _⟩ (by simp; omega)
  rintro rec s ⟨k, rfl, hk⟩ hrec
  dsimp only
  by_cases hlt : k < m
  · rw [show ilt (k : Int) (m : Int) = true from decide_eq_true (by omega), cond_true]
    rw [show okN 56 ((List.replicate k semi).length + 1) = true from okN_spec' (by simp; omega) (by simp [maxLen]; omega), cond_true]
    have hw : iadd .i64 (k : Int) 1 = ((k + 1 : Nat) : Int) := by rw [iadd_of _ _ (by omega) (by omega)]; omega
    rw [hw]
    refine hrec _ ⟨k + 1, ?_, hlt⟩ (by dsimp only; omega)
    have e : List.replicate k semi ++ [TokT.mk 5 [59] 0 0 0 false] = List.replicate (k + 1) semi := by
      rw [List.replicate_succ']; rfl
    rw [e]
  · obtain rfl : k = m := by omega
    rw [show ilt (k : Int) (k : Int) = false from decide_eq_false (by omega), cond_false]
    by_cases h4 : 4000 < k
    · rw [parse_long (f + 1) (n + 2) (l := List.replicate k semi) (by simpa using h4)]
      rw [Option.bind_some, show ilt 4000 (k : Int) = true from decide_eq_true (by omega)]
      rfl
    · have h5 : ilt 4000 (k : Int) = false := decide_eq_false (by omega)
      by_cases hz : k = 0
      · subst hz
        rw [show List.replicate 0 semi = [] from rfl, parse_none, Option.bind_some, h5]
        rfl
      · rw [parse_semi f n k (by omega) (by omega), Option.bind_some, h5]
        have h6 : ieq (k : Int) 0 = false := ieq_false (by omega)
        have h7 : ilt 0 (k : Int) = true := decide_eq_true (by omega)
        simp only [h6, h7, cond_false, cond_true]
        rfl
theorem ok3 : ConOk CC Tryz.prog 3 ⟨as3, rs3, fun _ => some (true, ())⟩ := (con3 6000 c14t ok14t c15 ok15 c16 ok16 (c17 6000 (0 + 2)) (ok17 6000 (0 + 2))).sub fun x y h => by
  injection h with h
  subst h
  exact sh3_true 6000 0 (by omega) _ _ _
end Go.Proofs.YtnamdpbcpnnhaaaGreatDoor
end
