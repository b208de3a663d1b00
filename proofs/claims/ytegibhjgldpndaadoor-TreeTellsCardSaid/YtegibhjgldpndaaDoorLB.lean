/-
  From what the listed package-level variables hold, as the cards say, to what the contracts ask of them. No condition of its own.
-/
import Derived.Test.YtegibhjgldpndaaDoorL
import Derived.Test.YtegibhjgldpndaaDoorTie
import Derived.Test.YtegibhjgldpndaaDoorF1
import Derived.LaidLaws
import Derived.LaidMore
import Derived.LaidHandle
import Derived.MakeChecks
import Derived.Stop.LaidErr
import Derived.Stop.Joined
import Derived.SevenTiedAt
set_option linter.unusedVariables false
set_option linter.unusedSimpArgs false
namespace Go.Proofs.YtegibhjgldpndaaDoor
open Go.Al Go.ChangeShapes Go.WideShapes Go.ChangeAt Go.RowKit
def laid5 : List (String × DataW Unit) := [("math/bits.deBruijn32tab", Rows.laid_math_bits_deBruijn32tab), ("math/bits.deBruijn64tab", Rows.laid_math_bits_deBruijn64tab), ("internal/strconv.uint64pow10", Rows.laid_internal_strconv_uint64pow10), ("strconv.ErrRange", Rows.laid_strconv_ErrRange), ("strconv.ErrSyntax", Rows.laid_strconv_ErrSyntax)]

theorem var_heap {P : Program} {W : World} {n : String} {g : Nat} {cs : Array Value} (hg : P.globalNamed n = some g) (h : W.var? P n = some cs) : ∃ el m, W.heap[g]? = some (.cells cs el m) := by
  unfold World.var? at h
  rw [hg] at h
  simp only [Option.bind_some] at h
  split at h
  · rename_i c el m hc
    injection h with h
    subst h
    exact ⟨el, m, hc⟩
  · cases h

theorem ints_of_trod {H : Type} {enc : TypeId × Value → H} {P : Program} {w : World} {base : Nat} {sp : Nat → Bool} {held : Bool} {fuel n : Nat} {t e : TypeId} {k : IntKind} {cs : List Value} {l : List Int} {p : List MemPlace}
    (ht : P.underlying t = some (.array n e)) (he : P.underlying e = some (.int k)) (hc : P.cellsOf e = 1) (hct : P.cellsOf t = n) (h : DataW.trod enc P w base sp held fuel t cs = some (.agg (l.map fun z => .lit (.int k z)), p)) : cs = l.map fun z => .int k z := by
  obtain ⟨xs, m, rfl, hx, hlen, hn, hel⟩ := DataW.trod_array ht h
  injection hx with hx _
  injection hx with hx
  have hll : l.length = n := by
    have := congrArg List.length hx
    simp only [List.length_map] at this
    omega
  refine List.ext_getElem (by rw [hlen, hct, List.length_map, hll]) fun i h1 h2 => ?_
  rw [List.getElem_map]
  have hi : i < n := by rw [hlen, hct] at h1; exact h1
  have h3 := hel i hi
  rw [hc, Nat.mul_one, List.drop_eq_getElem_cons h1, List.take_succ_cons, List.take_zero, List.getElem?_eq_getElem (by omega)] at h3
  obtain ⟨z, e1, e2, _⟩ := DataW.trod_int he h3
  injection e1 with e1 _
  have h4 : (xs.map (·.1))[i]'(by rw [List.length_map]; omega) = (l.map fun z => DataW.lit (.int k z))[i]'(by rw [List.length_map]; omega) := by
    simp only [hx]
  rw [List.getElem_map, List.getElem_map, e2] at h4
  injection h4 with h4
  injection h4 with _ h4
  rw [e1, h4]

theorem iface_of_trod {H : Type} {enc : TypeId × Value → H} {P : Program} {w : World} {base : Nat} {sp : Nat → Bool} {held : Bool} {fuel : Nat} {t : TypeId} {ms : Array (String × TypeId)} {cs : List Value} {nm : String} {d : DataW H} {p : List MemPlace}
    (ht : P.underlying t = some (.interface ms)) (h : DataW.trod enc P w base sp held fuel t cs = some (.iface nm d, p)) : ∃ u v, cs = [.iface u v] := by
  cases fuel with
  | zero => simp [DataW.trod] at h
  | succ m =>
    unfold DataW.trod at h
    rw [ht] at h
    split at h <;> first | exact ⟨_, _, rfl⟩ | (simp at h; done) | (simp_all; done)

theorem globOk_of_laid {W : World} (h : laidMetH Tryd.prog laid5 W) : GlobOk W.heap.size W := by
  rw [MakeChecks.laidMetH_plain _ _ _ (by kernel_rfl)] at h
  obtain ⟨ps, hv, _⟩ := h
  obtain ⟨g0, t0, cs0, f0, p0, q0, hg0, ht0, hv0, hd0, hv, _⟩ := hv
  obtain ⟨g1, t1, cs1, f1, p1, q1, hg1, ht1, hv1, hd1, hv, _⟩ := hv
  obtain ⟨g2, t2, cs2, f2, p2, q2, hg2, ht2, hv2, hd2, hv, _⟩ := hv
  obtain ⟨g3, t3, cs3, f3, p3, q3, hg3, ht3, hv3, hd3, hv, _⟩ := hv
  obtain ⟨g4, t4, cs4, f4, p4, q4, hg4, ht4, hv4, hd4, hv, _⟩ := hv
  obtain rfl := Option.some.inj ((show Tryd.prog.globalNamed "internal/strconv.uint64pow10" = some 0 by kernel_rfl).symm.trans hg2)
  obtain rfl := Option.some.inj ((show Tryd.prog.globalNamed "strconv.ErrRange" = some 2 by kernel_rfl).symm.trans hg3)
  obtain rfl := Option.some.inj ((show Tryd.prog.globalNamed "strconv.ErrSyntax" = some 1 by kernel_rfl).symm.trans hg4)
  obtain rfl := Option.some.inj ((show (Tryd.prog.globals[0]?).map (·.type) = some 88 by kernel_rfl).symm.trans ht2)
  obtain rfl := Option.some.inj ((show (Tryd.prog.globals[2]?).map (·.type) = some 68 by kernel_rfl).symm.trans ht3)
  obtain rfl := Option.some.inj ((show (Tryd.prog.globals[1]?).map (·.type) = some 68 by kernel_rfl).symm.trans ht4)
  obtain ⟨el0, m0, k0⟩ := var_heap hg2 hv2
  obtain ⟨el1, m1, k1⟩ := var_heap hg4 hv4
  obtain ⟨el2, m2, k2⟩ := var_heap hg3 hv3
  have e0 : cs2.toList = pow10V := ints_of_trod (l := [1, 10, 100, 1000, 10000, 100000, 1000000, 10000000, 100000000, 1000000000, 10000000000, 100000000000, 1000000000000, 10000000000000, 100000000000000, 1000000000000000, 10000000000000000, 100000000000000000, 1000000000000000000, 10000000000000000000]) Tryd.underlying88 Tryd.underlying74 (by kernel_rfl) (by kernel_rfl) hd2
  have lt : ∀ {b : Nat} {o : Obj}, W.heap[b]? = some o → b < W.heap.size := fun h => (Array.getElem?_eq_some_iff.1 h).1
  intro p hp
  simp only [globL, List.mem_cons, List.not_mem_nil, or_false] at hp
  rcases hp with rfl | rfl | rfl
  · exact ⟨lt k0, cs2, el0, m0, k0, e0⟩
  · exact ⟨lt k1, cs4, el1, m1, k1, iface_of_trod Tryd.underlying68 hd4⟩
  · exact ⟨lt k2, cs3, el2, m2, k2, iface_of_trod Tryd.underlying68 hd3⟩

theorem RV1_str {g : Gh} {w : World} (s : ByteArray) : RV1 g w (.at (.string ⟨s.data.toList.toArray⟩)) (.string s) := by
  have e : (⟨s.data.toList.toArray⟩ : ByteArray) = s := by cases s; simp
  rw [e]
  exact ⟨[.string s], by simp [RC, one], rfl⟩
theorem RV1_int {g : Gh} {w : World} (k : IntKind) (n : Int) : RV1 g w (.at (.int k n)) (.int k n) := ⟨[.int k n], by simp [RC, one], rfl⟩

/-- The door's own heap meets the condition. -/
theorem door_met (os : Os) (args : Array Value) : laidMetH Tryd.prog laid5 ((World.doorLaid Tryd.prog 400 os).forCall (fun _ _ => 0) ⟨#[], args, []⟩).memory :=
  laidMetH_of_parts3 (fuel := 8) (laidMet_of_run' 8 (by kernel_rfl) (by kernel_rfl)) (by kernel_rfl) (by kernel_rfl)
end Go.Proofs.YtegibhjgldpndaaDoor
