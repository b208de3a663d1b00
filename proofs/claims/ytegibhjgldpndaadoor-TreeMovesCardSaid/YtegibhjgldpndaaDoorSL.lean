/-
  Two contracts of Go's library, at this program: Itoa gives an int's numeral; Atoi a numeral's int, or an error.
-/
import Derived.Shelf.Strconv.Itoa3
import Derived.Shelf.Strconv.AtoiAll
import Derived.Shelf.Strconv.ErrVarAll
import Derived.Lib.QuietBelow
import GoSem.Claims
import Derived.Test.YtegibhjgldpndaaDoorF1
import Derived.Test.YtegibhjgldpndaaDoorP1
set_option linter.unusedVariables false
set_option linter.unusedSimpArgs false
namespace Go.Proofs
open Go.Shelf
def Tryd.laysM171_ren : Go.Shelf.Ren := ⟨fun | 171 => 27 | 243 => 34 | 246 => 40 | 283 => 43 | 284 => 44 | 285 => 45 | 286 => 46 | 129 => 53 | 317 => 52 | 318 => 54 | 319 => 55 | 320 => 56 | 337 => 60 | 338 => 61 | n => n, fun | 3 => 3 | 9 => 9 | 2 => 2 | 4 => 4 | 171 => 73 | 0 => 0 | 53 => 74 | 37 => 77 | 5 => 5 | 173 => 78 | 212 => 88 | 51 => 89 | 20 => 20 | 213 => 90 | 46 => 92 | 232 => 106 | 233 => 107 | n => n, fun | 17 => 0 | 18 => 3 | 19 => 4 | n => n⟩
theorem Tryd.laysM171 : Go.Proofs.LaysM.n171 Tryd.prog Tryd.laysM171_ren := {
  mixed := by kernel_rfl
  f129 := Tryd.func53.trans (congrArg some (by kernel_rfl))
  f171 := Tryd.func27.trans (congrArg some (by kernel_rfl))
  f243 := Tryd.func34.trans (congrArg some (by kernel_rfl))
  f246 := Tryd.func40.trans (congrArg some (by kernel_rfl))
  f283 := Tryd.func43.trans (congrArg some (by kernel_rfl))
  f284 := Tryd.func44.trans (congrArg some (by kernel_rfl))
  f285 := Tryd.func45.trans (congrArg some (by kernel_rfl))
  f286 := Tryd.func46.trans (congrArg some (by kernel_rfl))
  f317 := Tryd.func52.trans (congrArg some (by kernel_rfl))
  f318 := Tryd.func54.trans (congrArg some (by kernel_rfl))
  f319 := Tryd.func55.trans (congrArg some (by kernel_rfl))
  f320 := Tryd.func56.trans (congrArg some (by kernel_rfl))
  f337 := Tryd.func60.trans (congrArg some (by kernel_rfl))
  f338 := Tryd.func61.trans (congrArg some (by kernel_rfl))
  t0 := Tryd.underlying0
  a0 := Tryd.isAgg0
  z0 := Tryd.sizeOf0
  v0 := Tryd.zeroValue0
  t2 := Tryd.underlying2
  a2 := Tryd.isAgg2
  z2 := Tryd.sizeOf2
  v2 := Tryd.zeroValue2
  t3 := Tryd.underlying3
  a3 := Tryd.isAgg3
  z3 := Tryd.sizeOf3
  v3 := Tryd.zeroValue3
  t4 := Tryd.underlying4
  a4 := Tryd.isAgg4
  z4 := Tryd.sizeOf4
  v4 := Tryd.zeroValue4
  t5 := Tryd.underlying5
  a5 := Tryd.isAgg5
  z5 := Tryd.sizeOf5
  v5 := Tryd.zeroValue5
  t9 := Tryd.underlying9
  a9 := Tryd.isAgg9
  z9 := Tryd.sizeOf9
  v9 := Tryd.zeroValue9
  t20 := Tryd.underlying20
  a20 := Tryd.isAgg20
  z20 := Tryd.sizeOf20
  v20 := Tryd.zeroValue20
  t37 := Tryd.underlying77
  a37 := Tryd.isAgg77
  z37 := Tryd.sizeOf77
  v37 := Tryd.zeroValue77
  t46 := Tryd.underlying92
  a46 := Tryd.isAgg92
  z46 := Tryd.sizeOf92
  v46 := Tryd.zeroValue92
  t51 := Tryd.underlying89
  a51 := Tryd.isAgg89
  z51 := Tryd.sizeOf89
  v51 := Tryd.zeroValue89
  t53 := Tryd.underlying74
  a53 := Tryd.isAgg74
  z53 := Tryd.sizeOf74
  v53 := Tryd.zeroValue74
  t171 := Tryd.underlying73
  a171 := Tryd.isAgg73
  z171 := Tryd.sizeOf73
  v171 := Tryd.zeroValue73
  t173 := Tryd.underlying78
  a173 := Tryd.isAgg78
  z173 := Tryd.sizeOf78
  v173 := Tryd.zeroValue78
  t212 := Tryd.underlying88
  a212 := Tryd.isAgg88
  z212 := Tryd.sizeOf88
  v212 := Tryd.zeroValue88
  t213 := Tryd.underlying90
  a213 := Tryd.isAgg90
  z213 := Tryd.sizeOf90
  t232 := Tryd.underlying106
  a232 := Tryd.isAgg106
  z232 := Tryd.sizeOf106
  v232 := Tryd.zeroValue106
  t233 := Tryd.underlying107
  a233 := Tryd.isAgg107
  z233 := Tryd.sizeOf107
  v233 := Tryd.zeroValue107
  g17 := by kernel_rfl
  g18 := by kernel_rfl
  g19 := by kernel_rfl
  i0 := by kernel_rfl
  i2 := by kernel_rfl
  i3 := by kernel_rfl
  i4 := by kernel_rfl
  i5 := by kernel_rfl
  i9 := by kernel_rfl
  i20 := by kernel_rfl
  i37 := by kernel_rfl
  i46 := by kernel_rfl
  i51 := by kernel_rfl
  i53 := by kernel_rfl
  i171 := by kernel_rfl
  i173 := by kernel_rfl
  i212 := by kernel_rfl
  i232 := by kernel_rfl
  i233 := by kernel_rfl
  m17 := by kernel_rfl
  m18 := by kernel_rfl
  m19 := by kernel_rfl }
def Tryd.laysC172_ren : Go.Shelf.Ren := ⟨fun | 172 => 38 | 244 => 41 | 245 => 42 | 247 => 47 | 279 => 48 | 280 => 49 | 281 => 50 | 282 => 51 | 287 => 57 | 316 => 58 | 171 => 27 | 205 => 59 | 321 => 62 | 322 => 63 | 243 => 34 | 246 => 40 | 283 => 43 | 284 => 44 | 285 => 45 | 286 => 46 | 129 => 53 | 317 => 52 | 318 => 54 | 319 => 55 | 320 => 56 | 337 => 60 | 338 => 61 | n => n, fun | 9 => 9 | 3 => 3 | 75 => 68 | 76 => 69 | 4 => 4 | 5 => 5 | 167 => 80 | 37 => 77 | 0 => 0 | 85 => 81 | 2 => 2 | 168 => 83 | 53 => 74 | 175 => 94 | 46 => 92 | 210 => 98 | 127 => 102 | 145 => 105 | 143 => 103 | 21 => 21 | 171 => 73 | 173 => 78 | 212 => 88 | 51 => 89 | 20 => 20 | 213 => 90 | 232 => 106 | 233 => 107 | 80 => 108 | n => n, fun | 15 => 1 | 16 => 2 | 17 => 0 | 18 => 3 | 19 => 4 | n => n⟩
theorem Tryd.laysC172 : Go.Proofs.LaysC.n172 Tryd.prog Tryd.laysC172_ren := {
  mixed := by kernel_rfl
  f129 := Tryd.func53.trans (congrArg some (by kernel_rfl))
  f171 := Tryd.func27.trans (congrArg some (by kernel_rfl))
  f172 := Tryd.func38.trans (congrArg some (by kernel_rfl))
  f205 := Tryd.func59.trans (congrArg some (by kernel_rfl))
  f243 := Tryd.func34.trans (congrArg some (by kernel_rfl))
  f244 := Tryd.func41.trans (congrArg some (by kernel_rfl))
  f245 := Tryd.func42.trans (congrArg some (by kernel_rfl))
  f246 := Tryd.func40.trans (congrArg some (by kernel_rfl))
  f247 := Tryd.func47.trans (congrArg some (by kernel_rfl))
  f279 := Tryd.func48.trans (congrArg some (by kernel_rfl))
  f280 := Tryd.func49.trans (congrArg some (by kernel_rfl))
  f281 := Tryd.func50.trans (congrArg some (by kernel_rfl))
  f282 := Tryd.func51.trans (congrArg some (by kernel_rfl))
  f283 := Tryd.func43.trans (congrArg some (by kernel_rfl))
  f284 := Tryd.func44.trans (congrArg some (by kernel_rfl))
  f285 := Tryd.func45.trans (congrArg some (by kernel_rfl))
  f286 := Tryd.func46.trans (congrArg some (by kernel_rfl))
  f287 := Tryd.func57.trans (congrArg some (by kernel_rfl))
  f316 := Tryd.func58.trans (congrArg some (by kernel_rfl))
  f317 := Tryd.func52.trans (congrArg some (by kernel_rfl))
  f318 := Tryd.func54.trans (congrArg some (by kernel_rfl))
  f319 := Tryd.func55.trans (congrArg some (by kernel_rfl))
  f320 := Tryd.func56.trans (congrArg some (by kernel_rfl))
  f321 := Tryd.func62.trans (congrArg some (by kernel_rfl))
  f322 := Tryd.func63.trans (congrArg some (by kernel_rfl))
  f337 := Tryd.func60.trans (congrArg some (by kernel_rfl))
  f338 := Tryd.func61.trans (congrArg some (by kernel_rfl))
  t0 := Tryd.underlying0
  a0 := Tryd.isAgg0
  z0 := Tryd.sizeOf0
  v0 := Tryd.zeroValue0
  t2 := Tryd.underlying2
  a2 := Tryd.isAgg2
  z2 := Tryd.sizeOf2
  v2 := Tryd.zeroValue2
  t3 := Tryd.underlying3
  a3 := Tryd.isAgg3
  z3 := Tryd.sizeOf3
  v3 := Tryd.zeroValue3
  t4 := Tryd.underlying4
  a4 := Tryd.isAgg4
  z4 := Tryd.sizeOf4
  v4 := Tryd.zeroValue4
  t5 := Tryd.underlying5
  a5 := Tryd.isAgg5
  z5 := Tryd.sizeOf5
  v5 := Tryd.zeroValue5
  t9 := Tryd.underlying9
  a9 := Tryd.isAgg9
  z9 := Tryd.sizeOf9
  v9 := Tryd.zeroValue9
  t20 := Tryd.underlying20
  a20 := Tryd.isAgg20
  z20 := Tryd.sizeOf20
  v20 := Tryd.zeroValue20
  t21 := Tryd.underlying21
  a21 := Tryd.isAgg21
  z21 := Tryd.sizeOf21
  v21 := Tryd.zeroValue21
  t37 := Tryd.underlying77
  a37 := Tryd.isAgg77
  z37 := Tryd.sizeOf77
  v37 := Tryd.zeroValue77
  t46 := Tryd.underlying92
  a46 := Tryd.isAgg92
  z46 := Tryd.sizeOf92
  v46 := Tryd.zeroValue92
  t51 := Tryd.underlying89
  a51 := Tryd.isAgg89
  z51 := Tryd.sizeOf89
  v51 := Tryd.zeroValue89
  t53 := Tryd.underlying74
  a53 := Tryd.isAgg74
  z53 := Tryd.sizeOf74
  v53 := Tryd.zeroValue74
  t75 := Tryd.underlying68
  a75 := Tryd.isAgg68
  z75 := Tryd.sizeOf68
  v75 := Tryd.zeroValue68
  t76 := Tryd.underlying69
  a76 := Tryd.isAgg69
  z76 := Tryd.sizeOf69
  v76 := Tryd.zeroValue69
  t85 := Tryd.underlying81
  a85 := Tryd.isAgg81
  z85 := Tryd.sizeOf81
  v85 := Tryd.zeroValue81
  t127 := Tryd.underlying102
  a127 := Tryd.isAgg102
  z127 := Tryd.sizeOf102
  v127 := Tryd.zeroValue102
  t143 := Tryd.underlying103
  a143 := Tryd.isAgg103
  z143 := Tryd.sizeOf103
  v143 := Tryd.zeroValue103
  t145 := Tryd.underlying105
  a145 := Tryd.isAgg105
  z145 := Tryd.sizeOf105
  v145 := Tryd.zeroValue105
  t167 := Tryd.underlying80
  a167 := Tryd.isAgg80
  z167 := Tryd.sizeOf80
  v167 := Tryd.zeroValue80
  t168 := Tryd.underlying83
  a168 := Tryd.isAgg83
  z168 := Tryd.sizeOf83
  v168 := Tryd.zeroValue83
  t171 := Tryd.underlying73
  a171 := Tryd.isAgg73
  z171 := Tryd.sizeOf73
  v171 := Tryd.zeroValue73
  t173 := Tryd.underlying78
  a173 := Tryd.isAgg78
  z173 := Tryd.sizeOf78
  v173 := Tryd.zeroValue78
  t175 := Tryd.underlying94
  a175 := Tryd.isAgg94
  z175 := Tryd.sizeOf94
  v175 := Tryd.zeroValue94
  t210 := Tryd.underlying98
  a210 := Tryd.isAgg98
  z210 := Tryd.sizeOf98
  v210 := Tryd.zeroValue98
  t212 := Tryd.underlying88
  a212 := Tryd.isAgg88
  z212 := Tryd.sizeOf88
  v212 := Tryd.zeroValue88
  t213 := Tryd.underlying90
  a213 := Tryd.isAgg90
  z213 := Tryd.sizeOf90
  t232 := Tryd.underlying106
  a232 := Tryd.isAgg106
  z232 := Tryd.sizeOf106
  v232 := Tryd.zeroValue106
  t233 := Tryd.underlying107
  a233 := Tryd.isAgg107
  z233 := Tryd.sizeOf107
  v233 := Tryd.zeroValue107
  g15 := by kernel_rfl
  g16 := by kernel_rfl
  g17 := by kernel_rfl
  g18 := by kernel_rfl
  g19 := by kernel_rfl
  t80 := Tryd.underlying108
  a80 := Tryd.isAgg108
  z80 := Tryd.sizeOf108
  v80 := Tryd.zeroValue108
  i0 := by kernel_rfl
  i2 := by kernel_rfl
  i3 := by kernel_rfl
  i4 := by kernel_rfl
  i5 := by kernel_rfl
  i9 := by kernel_rfl
  i20 := by kernel_rfl
  i21 := by kernel_rfl
  i37 := by kernel_rfl
  i46 := by kernel_rfl
  i51 := by kernel_rfl
  i53 := by kernel_rfl
  i75 := by kernel_rfl
  i76 := by kernel_rfl
  i80 := by kernel_rfl
  i85 := by kernel_rfl
  i127 := by kernel_rfl
  i143 := by kernel_rfl
  i145 := by kernel_rfl
  i167 := by kernel_rfl
  i168 := by kernel_rfl
  i171 := by kernel_rfl
  i173 := by kernel_rfl
  i175 := by kernel_rfl
  i210 := by kernel_rfl
  i212 := by kernel_rfl
  i232 := by kernel_rfl
  i233 := by kernel_rfl
  m15 := by kernel_rfl
  m16 := by kernel_rfl
  m17 := by kernel_rfl
  m18 := by kernel_rfl
  m19 := by kernel_rfl
  c0 := by kernel_rfl
  c2 := by kernel_rfl
  c3 := by kernel_rfl
  c4 := by kernel_rfl
  c5 := by kernel_rfl
  c9 := by kernel_rfl
  c20 := by kernel_rfl
  c21 := by kernel_rfl
  c37 := by kernel_rfl
  c46 := by kernel_rfl
  c51 := by kernel_rfl
  c53 := by kernel_rfl
  c75 := by kernel_rfl
  c76 := by kernel_rfl
  c80 := by kernel_rfl
  c85 := by kernel_rfl
  c127 := by kernel_rfl
  c143 := by kernel_rfl
  c145 := by kernel_rfl
  c167 := by kernel_rfl
  c168 := by kernel_rfl
  c171 := by kernel_rfl
  c173 := by kernel_rfl
  c175 := by kernel_rfl
  c210 := by kernel_rfl
  c212 := by kernel_rfl
  c213 := by kernel_rfl
  c232 := by kernel_rfl
  c233 := by kernel_rfl }
end Go.Proofs
namespace Go.Proofs.YtegibhjgldpndaaDoor
open Go.Al Go.Den Go.RowKit Go.Sort

theorem glob_tab {B : Nat} {w : World} (h : GlobOk B w) : Lib.TabIs Tryd.prog w "internal/strconv.uint64pow10" .u64 Lib.pow10Tab := by
  obtain ⟨h0, arr, el, m, h1, h2⟩ := h (0, fun us => us = pow10V) (by simp [globL])
  unfold Lib.TabIs World.var?
  have e : Tryd.prog.globalNamed "internal/strconv.uint64pow10" = some 0 := by kernel_rfl
  rw [e]
  simp only [Option.bind_some]
  replace h1 : w.heap[0]? = some (.cells arr el m) := h1
  rw [h1]
  replace h2 : arr.toList = pow10V := h2
  have : arr = pow10V.toArray := by rw [← h2]
  rw [this]
  rfl
theorem glob_range {B : Nat} {w : World} (h : GlobOk B w) : ∃ t p, w.var? Tryd.prog "strconv.ErrRange" = some #[.iface t p] := by
  obtain ⟨h0, arr, el, m, h1, t, p, h2⟩ := h (2, isIfaceV) (by simp [globL])
  refine ⟨t, p, ?_⟩
  unfold World.var?
  have e : Tryd.prog.globalNamed "strconv.ErrRange" = some 2 := by kernel_rfl
  rw [e]
  simp only [Option.bind_some]
  replace h1 : w.heap[2]? = some (.cells arr el m) := h1
  rw [h1]
  have : arr = [Value.iface t p].toArray := by rw [← h2]
  rw [this]
theorem glob_bad {B : Nat} {w : World} (h : GlobOk B w) : ∃ t p, w.var? Tryd.prog "strconv.ErrSyntax" = some #[.iface t p] := by
  obtain ⟨h0, arr, el, m, h1, t, p, h2⟩ := h (1, isIfaceV) (by simp [globL])
  refine ⟨t, p, ?_⟩
  unfold World.var?
  have e : Tryd.prog.globalNamed "strconv.ErrSyntax" = some 1 := by kernel_rfl
  rw [e]
  simp only [Option.bind_some]
  replace h1 : w.heap[1]? = some (.cells arr el m) := h1
  rw [h1]
  have : arr = [Value.iface t p].toArray := by rw [← h2]
  rw [this]

/-- A call that leaves what was there as it was. -/
theorem step_of_below {wm : Nat → Nat} {w w' : World} (hwm : ∀ b, w.heap.size ≤ b → wm b = 0) (hb : Below w.heap.size w w') :
    (∀ b, w'.heap.size ≤ b → wm b = 0) ∧ Step w.heap.size ⟨wm, fun _ => none⟩ w ⟨wm, fun _ => none⟩ w' := by
  refine ⟨fun b h => hwm b (Nat.le_trans hb.size h), ⟨⟨fun _ => Nat.le_refl _, fun _ _ e => e, fun b o ho => ?_⟩, hb, .old fun b h => hb.block b h, fun _ _ => rfl⟩⟩
  refine World.cell?_of_block (hb.block b ?_)
  rcases Nat.lt_or_ge b w.heap.size with h | h
  · exact h
  · replace ho : o < wm b := ho
    rw [hwm b h] at ho; omega

theorem pure27 (n : Int) (h0 : -9223372036854775808 ≤ n) (h1 : n ≤ 9223372036854775807) : PureF Tryd.prog 27 [.at (.int .i64 n)] (.at (.string ⟨(Lib.itoa n).toArray⟩)) := by
  intro wm w us hwm hgl hu
  cases hu with
  | cons hu1 hu2 =>
    cases hu2
    have e := RV_at (RV.of_RV1 hu1)
    subst e
    refine (Any.strconv_Itoa Tryd.laysM171 n h0 h1 w (glob_tab hgl)).mono ?_
    rintro e w' ⟨rfl, k, os, rfl⟩
    obtain ⟨q1, q2⟩ := step_of_below hwm (below_regrown w (w.drawn + k) os)
    exact ⟨_, wm, rfl, q1, q2, RV_at_mk rfl⟩

theorem RV_err {g : Gh} {w : World} (n : Int) (t : TypeId) (p : Value) : RV g w (.tup [.at (.int .i64 n), .ifx]) (.tuple #[.int .i64 n, .iface t p]) :=
  ⟨[.int .i64 n, .iface t p], .cons ⟨[.int .i64 n], by simp [RC, one], rfl⟩ (.cons ⟨[.iface t p], by simp [RC], rfl⟩ .nil), rfl⟩
theorem RV_noerr {g : Gh} {w : World} (n : Int) : RV g w (.tup [.at (.int .i64 n), .at .nilIface]) (.tuple #[.int .i64 n, .nilIface]) :=
  ⟨[.int .i64 n, .nilIface], .cons ⟨[.int .i64 n], by simp [RC, one], rfl⟩ (.cons ⟨[.nilIface], by simp [RC, one], rfl⟩ .nil), rfl⟩

theorem pure38 (s : List UInt8) (h1 : s.length ≤ 281474976710656) : PureF Tryd.prog 38 [.at (.string ⟨s.toArray⟩)] (.tup [.at (.int .i64 (atoiR s).1), bif (atoiR s).2 then .ifx else .at .nilIface]) := by
  have hsz : (⟨s.toArray⟩ : ByteArray).size = s.length := by simp [ByteArray.size]
  intro wm w us hwm hgl hu
  cases hu with
  | cons hu1 hu2 =>
    cases hu2
    have e := RV_at (RV.of_RV1 hu1)
    subst e
    unfold atoiR
    cases h : Lib.atoiAll s with
    | ok n =>
      refine (Any.strconv_Atoi_ok Tryd.laysC172 ⟨s.toArray⟩ (by rw [hsz]; omega) n h w).mono ?_
      rintro e w' ⟨rfl, hw⟩
      have hb : Below w.heap.size w w' := by
        rcases hw with rfl | ⟨t, rfl⟩
        · exact Below.refl _ _
        · exact Lib.bytesWorld_below _ _ _
      obtain ⟨q1, q2⟩ := step_of_below hwm hb
      exact ⟨_, wm, rfl, q1, q2, RV_noerr n⟩
    | range =>
      obtain ⟨t, p, hvar⟩ := glob_range hgl
      refine (Any.strconv_Atoi_range_var Tryd.laysC172 ⟨s.toArray⟩ (by rw [hsz]; omega) h t p w hvar).mono ?_
      rintro e w' ⟨N, rfl, _, _, hb⟩
      obtain ⟨q1, q2⟩ := step_of_below hwm hb
      exact ⟨_, wm, rfl, q1, q2, RV_err _ _ _⟩
    | _ =>
      obtain ⟨t, p, hvar⟩ := glob_bad hgl
      refine (Any.strconv_Atoi_syntax_var Tryd.laysC172 ⟨s.toArray⟩ (by rw [hsz]; omega) h t p w hvar).mono ?_
      rintro e w' ⟨N, rfl, _, _, hb⟩
      obtain ⟨q1, q2⟩ := step_of_below hwm hb
      exact ⟨_, wm, rfl, q1, q2, RV_err _ _ _⟩

def c27 (x : Int × Unit) : Option (List UInt8 × Unit) := if -9223372036854775808 ≤ x.1 ∧ x.1 ≤ 9223372036854775807 then some (Lib.itoa x.1, ()) else none
theorem ok27' (n : Int) (u : Unit) (y : List UInt8 × Unit) (hx : c27 (n, u) = some y) (vs : List V) (hvs : ArgVs CC as27 ((n, u) : denAs as27) vs) : PureF Tryd.prog 27 vs (finV ((argTs CC rs27 (fun _ => false) 0 (y : denAs rs27)).map (trT CC ⟨id, id, id, id⟩))) := by
  obtain ⟨v, vs', rfl, hv, hvs⟩ := hvs
  replace hvs : vs' = [] := hvs
  subst hvs
  replace hv : v = .at (.int .i64 n) := hv
  subst hv
  by_cases h : -9223372036854775808 ≤ n ∧ n ≤ 9223372036854775807
  · have h2 : c27 (n, u) = some (Lib.itoa n, ()) := if_pos h
    rw [h2] at hx
    injection hx with hx
    subst hx
    exact pure27 n h.1 h.2
  · have h2 : c27 (n, u) = none := if_neg h
    rw [h2] at hx
    cases hx
theorem ok27 : ConOk CC Tryd.prog 27 ⟨as27, rs27, c27⟩ := fun x y hx vs hvs => ok27' x.1 x.2 y hx vs hvs
def c38 (x : List UInt8 × Unit) : Option (Int × Bool × Unit) := if x.1.length ≤ 281474976710656 then some ((atoiR x.1).1, (atoiR x.1).2, ()) else none
theorem ok38' (s : List UInt8) (u : Unit) (y : Int × Bool × Unit) (hx : c38 (s, u) = some y) (vs : List V) (hvs : ArgVs CC as38 ((s, u) : denAs as38) vs) : PureF Tryd.prog 38 vs (finV ((argTs CC rs38 (fun _ => false) 0 (y : denAs rs38)).map (trT CC ⟨id, id, id, id⟩))) := by
  obtain ⟨v, vs', rfl, hv, hvs⟩ := hvs
  replace hvs : vs' = [] := hvs
  subst hvs
  replace hv : v = .at (.string ⟨List.toArray s⟩) := hv
  subst hv
  by_cases h : List.length s ≤ 281474976710656
  · have h2 : c38 (s, u) = some ((atoiR s).1, (atoiR s).2, ()) := if_pos h
    rw [h2] at hx
    injection hx with hx
    subst hx
    have := pure38 s h
    have e : finV ((argTs CC rs38 (fun _ => false) 0 ((atoiR s).1, (atoiR s).2, ())).map (trT CC ⟨id, id, id, id⟩)) = .tup [.at (.int .i64 (atoiR s).1), bif (atoiR s).2 then .ifx else .at .nilIface] := by
      cases (atoiR s).2 <;> rfl
    show PureF _ _ _ (finV ((argTs CC rs38 (fun _ => false) 0 ((atoiR s).1, (atoiR s).2, ())).map (trT CC ⟨id, id, id, id⟩)))
    rw [e]
    exact this
  · have h2 : c38 (s, u) = none := if_neg h
    rw [h2] at hx
    cases hx
theorem ok38 : ConOk CC Tryd.prog 38 ⟨as38, rs38, c38⟩ := fun x y hx vs hvs => ok38' x.1 x.2 y hx vs hvs
end Go.Proofs.YtegibhjgldpndaaDoor
