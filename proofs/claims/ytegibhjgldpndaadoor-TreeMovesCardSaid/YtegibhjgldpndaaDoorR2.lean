/-
  Leaves and Find: a loop over the parts of a tree.
-/
import Derived.Test.YtegibhjgldpndaaDoorR1
import Derived.Maps.AppendAt
set_option linter.unusedVariables false
set_option linter.unusedSimpArgs false
namespace Go.Proofs.YtegibhjgldpndaaDoor
open Go.Al Go.Den Go.RowKit Go.Shelf

attribute [local go_sem] Oper.semAt_some

theorem wpListIn_append_at {F : Fence} {n : Nat} {P : Program} (w : World) {ops : Array Oper} {rest : List Oper} {o : Oper} {a : Act} {Q : Exit → Act → World → Prop}
    (hg : o.guard = none) (s x : Operand) (t : TypeId) (hop : o.op = Op.call { callee := Callee.builtin Builtin.append, args := #[s, x], argTypes := #[t, t] })
    (base : Nat) (e : TypeId) (i : TypeInfo) (z : Value) (size bytes : Nat) (h1 : P.underlying t = some (.slice e)) (h2 : P.info? e = some i) (h3 : i.zero = some z) (h4 : i.size = size) (h5 : i.bytes = bytes) (h6 : z.cells.size = size) (h7 : 0 < size)
    (v : Value) (k : Nat) (xs : List Value) (hs : a.eval s = v) (hown : w.ownsRow base e size v k xs) (ad : Addr) (m c : Nat) (news : List Value) (hx : a.eval x = .slice (some ad) m c) (hn : news.length = m * size)
    (hc : ∀ j u, news[j]? = some u → w.cell? (ad.add j) = some u) (h1c : ∀ u ∈ news, u.oneCell' = true) (b1 : k + m ≤ maxLen) (b2 : (k + m) * bytes ≤ 140737488355328) (b3 : base ≤ w.heap.size)
    (hK : ∀ v' w', w'.ownsRow base e size v' (k + m) (xs ++ news) → w.grownBy w' v.ownBlock → (v' = .slice none 0 0 ↔ v = .slice none 0 0 ∧ m = 0) → (v'.ownBlock = v.ownBlock ∨ v'.ownBlock = some w.heap.size) → wpListIn F n P ops Q rest (a.put o.dst v') w') :
    wpListIn F n P ops Q (o :: rest) a w := by
  refine wpListIn_plain hg fun K hK' => ?_
  obtain ⟨v', w', hrun, r1, r2, r3, r4⟩ := run_append_own_at (P := P) w base t o.type e i z size bytes h1 h2 h3 h4 h5 h6 h7 v k xs hown ad m c news hn hc h1c b1 b2 b3
  unfold Oper.wpIn
  refine ⟨?_, ?_⟩
  · simp [Oper.about, hop, resolve, Target.leads, Sem.run_pure]
  · rw [Oper.semAt_plain F _ _ (by rw [hop]; intro c hc'; cases hc')]
    simp [execOp, hop, resolve, invoke, builtin, hs, hx, hrun, Result.andThen]
    exact hK' _ _ (hK v' w' r1 r2 r3 r4)

/-- The cells of a row that is one's own: not in another block. -/
theorem own_ne {W : World} {base : Nat} {e : TypeId} {size : Nat} {v : Value} {k : Nat} {xs : List Value} (h : W.ownsRow base e size v k xs) {j : Nat} {o : Obj} (hj : W.heap[j]? = some o) (hno : ∀ cur, o ≠ .cells cur e (0, 0)) :
    v.ownBlock = none ∨ v.ownBlock ≠ some j := by
  rcases h.2 with ⟨rfl, _⟩ | ⟨g, cap, cur, rfl, _, hgb, _⟩
  · exact .inl rfl
  · refine .inr fun e' => ?_
    have : g = j := by simpa [Value.ownBlock] using e'
    subst this; rw [hgb] at hj; cases hj; exact hno cur rfl

/-- The box holds a slice of one's own. -/
def Grow (n0 bx : Nat) (t e : TypeId) (size : Nat) (w : World) (xs : List Value) (n : Nat) (W : World) : Prop :=
  ∃ v, W.heap[bx]? = some (.cells #[v] t (0, 0)) ∧ W.ownsRow n0 e size v n xs ∧ (n = 0 → v = .slice none 0 0) ∧ Below n0 w W

theorem Grow.exb {n0 bx : Nat} {t e : TypeId} {size : Nat} {w : World} {xs : List Value} {n : Nat} {W : World} {v : Value} (hv : W.heap[bx]? = some (.cells #[v] t (0, 0))) (hr : W.ownsRow n0 e size v n xs) (b : Nat) :
    exb bx W b ↔ b = bx ∨ v.ownBlock = some b := by
  have hc : W.cell? ⟨bx, 0, none⟩ = some v := by simp [World.cell?, hv]
  unfold Go.Proofs.YtegibhjgldpndaaDoor.exb
  rw [hc]
  refine or_congr Iff.rfl ⟨fun ⟨o, l, c, h⟩ => ?_, fun h => ?_⟩
  · injection h with h; subst h; rfl
  · rcases hr.2 with ⟨rfl, _⟩ | ⟨g, cap, cur, rfl, _, hgb, _⟩
    · cases h
    · have : g = b := by simpa [Value.ownBlock] using h
      subst this; exact ⟨_, _, _, rfl⟩
theorem Grow.box {n0 bx : Nat} {t e : TypeId} {size : Nat} {w : World} {xs : List Value} {n : Nat} {W : World} (h0 : n0 ≤ bx) (h : Grow n0 bx t e size w xs n W) : BoxOk n0 bx W := by
  obtain ⟨v, hv, hr, _, hb⟩ := h
  refine ⟨h0, ⟨_, _, _, hv⟩, fun b hx => ?_⟩
  rcases (Grow.exb (w := w) hv hr b).1 hx with rfl | h
  · exact ⟨h0, (Array.getElem?_eq_some_iff.1 hv).1⟩
  · rcases hr.2 with ⟨rfl, _⟩ | ⟨g, cap, cur, rfl, hg, hgb, _⟩
    · cases h
    · have : g = b := by simpa [Value.ownBlock] using h
      subst this; exact ⟨hg, (Array.getElem?_eq_some_iff.1 hgb).1⟩

theorem Grow.own {n0 bx : Nat} {t e : TypeId} {size : Nat} {w : World} {xs : List Value} {n : Nat} {A B : World} {row : Option Nat} (h0 : n0 ≤ w.heap.size) (h : Grow n0 bx t e size w xs n A) (hg : A.grownBy B row) (hr : ∀ r, row = some r → n0 ≤ r ∧ ∃ o : Obj, A.heap[r]? = some o ∧ o.isCells = false) : Grow n0 bx t e size w xs n B := by
  obtain ⟨v, hv, hr', hz, hb⟩ := h
  have hne : ∀ {b : Nat} {o : Obj}, A.heap[b]? = some o → o.isCells = true → some b ≠ row := fun hb hc e => by
    obtain ⟨_, o', ho, hc'⟩ := hr _ e.symm
    rw [hb] at ho; injection ho with ho; subst ho; rw [hc] at hc'; cases hc'
  refine ⟨v, (hg.block bx (Array.getElem?_eq_some_iff.1 hv).1 (hne hv rfl)).trans hv, hr'.kept hg ?_, hz, hb.grown hg (Nat.le_trans h0 hb.size) (fun k e => (hr k e).1)⟩
  rcases hr'.2 with ⟨rfl, _⟩ | ⟨g, cap, cur, rfl, _, hgb, _⟩
  · exact .inl rfl
  · exact .inr (hne hgb rfl)

/-- What the caller's round turned: the box, and its row. -/
theorem Grow.kept {n0 bx : Nat} {t e : TypeId} {size : Nat} {w : World} {xs xs' : List Value} {n n' : Nat} {A B : World} (h0 : n0 ≤ bx) {v v' : Value} (hv : A.heap[bx]? = some (.cells #[v] t (0, 0))) (hr : A.ownsRow n0 e size v n xs)
    (hv' : B.heap[bx]? = some (.cells #[v'] t (0, 0))) (hr' : B.ownsRow n0 e size v' n' xs') (hz : n' = 0 → v' = .slice none 0 0) (hB : Below n0 w B) (hs : A.heap.size ≤ B.heap.size)
    (hne : v'.ownBlock = v.ownBlock ∨ ∃ b, v'.ownBlock = some b ∧ A.heap.size ≤ b) (h : ∀ b, b < A.heap.size → b ≠ bx → v.ownBlock ≠ some b → B.heap[b]? = A.heap[b]?) : Kept n0 bx A B := by
  have hlow : ∀ b, b < n0 → v.ownBlock ≠ some b := fun b hb e1 => by
    rcases hr.2 with ⟨rfl, _⟩ | ⟨g, cap, cur, rfl, hg, hgb, _⟩
    · cases e1
    · have : g = b := by simpa [Value.ownBlock] using e1
      omega
  have hbx := (Array.getElem?_eq_some_iff.1 hv).1
  refine ⟨Grow.box h0 ⟨v', hv', hr', hz, hB⟩, hs, fun b o u hb hx => ?_, fun b hx => ?_, fun b hb => h b (by omega) (by omega) (hlow b hb)⟩
  · have h1 : b ≠ bx := fun e1 => hx ((Grow.exb (w := w) hv hr b).2 (.inl e1))
    have h2 : v.ownBlock ≠ some b := fun e1 => hx ((Grow.exb (w := w) hv hr b).2 (.inr e1))
    exact (cell_of_heap (h b (cell_lt hb) h1 h2) o).trans hb
  · rcases (Grow.exb (w := w) hv' hr' b).1 hx with rfl | h1
    · exact .inl (.inl rfl)
    · rcases hne with e1 | ⟨b', e1, e2⟩
      · exact .inl ((Grow.exb (w := w) hv hr b).2 (.inr (e1 ▸ h1)))
      · rw [e1] at h1; injection h1 with h1; subst h1; exact .inr e2

/-- A round is paid. -/
theorem Grow.round {n0 bx K0 : Nat} {t e : TypeId} {size : Nat} {w : World} {xs xs' : List Value} {n n' : Nat} {A B : World} (h0 : n0 ≤ bx) {v v' : Value} (hv : A.heap[bx]? = some (.cells #[v] t (0, 0))) (hr : A.ownsRow n0 e size v n xs)
    (hv' : B.heap[bx]? = some (.cells #[v'] t (0, 0))) (hr' : B.ownsRow n0 e size v' n' xs') (hz : n' = 0 → v' = .slice none 0 0) (hB : Below n0 w B) (hs : A.heap.size ≤ B.heap.size)
    (hne : v'.ownBlock = v.ownBlock ∨ ∃ b, v'.ownBlock = some b ∧ A.heap.size ≤ b) (h : ∀ b, b < A.heap.size → b ≠ bx → v.ownBlock ≠ some b → B.heap[b]? = A.heap[b]?) :
    KeepsFrom K0 A B ∧ KeptIf n0 bx A B ∧ Grow n0 bx t e size w xs' n' B := by
  refine ⟨⟨hs, fun k o _ hk hc => (h k (Array.getElem?_eq_some_iff.1 hk).1 (fun e1 => ?_) (fun e1 => ?_)).trans hk⟩, fun _ => Grow.kept h0 hv hr hv' hr' hz hB hs hne h, v', hv', hr', hz, hB⟩
  · subst e1; rw [hv] at hk; injection hk with hk; subst hk; cases hc
  · rcases hr.2 with ⟨rfl, _⟩ | ⟨g, cap, cur, rfl, _, hgb, _⟩
    · cases e1
    · have : g = k := by simpa [Value.ownBlock] using e1
      subst this; rw [hgb] at hk; injection hk with hk; subst hk; cases hc
theorem Grow.stay {n0 bx K0 : Nat} {t e : TypeId} {size : Nat} {w : World} {xs : List Value} {n : Nat} {A : World} (h0 : n0 ≤ bx) (h : Grow n0 bx t e size w xs n A) : KeepsFrom K0 A A ∧ KeptIf n0 bx A A ∧ Grow n0 bx t e size w xs n A :=
  ⟨.refl _ _, fun hB => .refl hB, h⟩
theorem heap_set_box {W : World} {B : Nat} {v : Value} {t : TypeId} (v' : Value) (h : W.heap[B]? = some (.cells #[v] t (0, 0))) : (W.setCell ⟨B, 0, none⟩ v').heap[B]? = some (.cells #[v'] t (0, 0)) := by
  obtain ⟨hlt, hk⟩ := Array.getElem?_eq_some_iff.1 h
  show (W.heap.modify B _)[B]? = _
  rw [Array.getElem?_eq_getElem (by rw [Array.size_modify]; exact hlt), Array.getElem_modify_self, hk]
  rfl
theorem info3 : (Tryd.prog.info? 3).map (fun i => (i.zero, i.size, i.bytes)) = some (some (.int .i64 0), 1, 8) := by kernel_rfl
theorem own_low {W : World} {base : Nat} {e : TypeId} {size : Nat} {v : Value} {k : Nat} {xs : List Value} (h : W.ownsRow base e size v k xs) {b : Nat} (hb : v.ownBlock = some b) : base ≤ b := by
  rcases h.2 with ⟨rfl, _⟩ | ⟨g, cap, cur, rfl, hg, _⟩
  · cases hb
  · have : g = b := by simpa [Value.ownBlock] using hb
    omega

def lvE {g : Gh} {w0 : World} (pre : List (El g w0)) : List Int := lvI (pre.map (·.1.1))
theorem lvE_add {g : Gh} {w0 : World} (pre : List (El g w0)) (a : Int) (ks : List Nd) (v : Value) (h : RV g w0 (encNd (.mk 0 a ks)) v) : lvE (pre ++ [⟨(.mk 0 a ks, v), h⟩]) = lvE pre ++ [a] := by
  unfold lvE; rw [List.map_append]; exact lvI_add _ _ _
theorem lvE_skip {g : Gh} {w0 : World} (pre : List (El g w0)) (k a : Int) (ks : List Nd) (v : Value) (h : RV g w0 (encNd (.mk k a ks)) v) (hk : k ≠ 0) : lvE (pre ++ [⟨(.mk k a ks, v), h⟩]) = lvE pre := by
  unfold lvE; rw [List.map_append]; exact lvI_skip _ _ _ _ hk
theorem lvE_len {g : Gh} {w0 : World} (pre : List (El g w0)) : (lvE pre).length ≤ pre.length := by
  unfold lvE lvI
  rw [List.length_map]
  exact Nat.le_trans (List.length_filter_le _ _) (by simp)

set_option maxRecDepth 100000 in
set_option maxHeartbeats 1000000 in
/-- The iterator is made. -/
theorem all_in (F : Fence) (hF : ∀ f, F.fn f) (hro : F.round = none) (m : Nat) (v0 v1 v2 : Value) (w : World) :
    CallsIn F m Tryd.prog 28 #[.agg #[v0, v1, v2]] w fun e w' => e = .returned (.func (.func 35) #[] #[.pointer (some ⟨w.heap.size, 0, none⟩)]) ∧ w' = w.alloc (.cells #[v0, v1, v2] 25) := by
  refine callsIn_of_wp Tryd.func28 rfl (hF _) ?_ hro
  simp only [Tryd.ntmps28, List.size_toArray, List.length_cons, List.length_nil, Nat.reduceAdd, Nat.reduceSub, Array.replicate_succ, Array.replicate_zero, List.push_toArray, List.append_toArray, List.nil_append, List.cons_append]
  gi_wp2
  go_ret
  exact ⟨rfl, rfl⟩

set_option maxRecDepth 100000 in
set_option maxHeartbeats 1000000 in
theorem leaves_in (F : Fence) (hd : F.depth = none) (hF : ∀ f, F.fn f) (hro : F.round = none) (m : Nat) (hm : 3 ≤ m) (wm : Nat → Nat) (w : World) (hwm : ∀ b, w.heap.size ≤ b → wm b = 0) (t : Nd) (v : Value) (hv : RV ⟨wm, fun _ => none⟩ w (encNd t) v) (hN : (allT t).length ≤ 1000000) :
    CallsIn F m Tryd.prog 13 #[v] w fun e W' => ∃ v', e = .returned v' ∧ W'.ownsRow w.heap.size 3 1 v' (lvI (allT t)).length ((lvI (allT t)).map (.int .i64)) ∧ ((lvI (allT t)).length = 0 → v' = .slice none 0 0) ∧ Below w.heap.size w W' := by
  obtain ⟨k, a, ks⟩ := t
  obtain ⟨sv, rfl, hsv⟩ := RV_node hv
  have hdd : ∀ k : Nat, (F.depth.isSome = true → 1 ≤ k) := fun k h => by rw [hd] at h; cases h
  refine callsIn_of_wp_marks Tryd.func13 rfl (hF _) ?_ hro
  simp only [Tryd.ntmps13, List.size_toArray, List.length_cons, List.length_nil, Nat.reduceAdd, Nat.reduceSub, Array.replicate_succ, Array.replicate_zero, List.push_toArray, List.append_toArray, List.nil_append, List.cons_append]
  gi_wp2_with ((try refine ⟨hdd _, ?_⟩); gi_at_call 28; refine (all_in F hF hro _ _ _ _ _).mono ?_; rintro e w' ⟨rfl, rfl⟩)
  obtain ⟨W2, hW2⟩ : ∃ W2, ((w.alloc (.cells #[.int .i64 k, .int .i64 a, sv] 25)).alloc (.cells #[.slice none 0 0] 32)).alloc (.cells #[.int .i64 k, .int .i64 a, sv] 25) = W2 := ⟨_, rfl⟩
  have hsz2 : W2.heap.size = w.heap.size + 3 := by rw [← hW2]; simp
  have hb2 : Below w.heap.size w W2 := by rw [← hW2]; exact (((Below.refl _ w).alloc (Nat.le_refl _) _).alloc (by simp) _).alloc (by simp; omega) _
  have hbx2 : W2.heap[w.heap.size + 1]? = some (.cells #[.slice none 0 0] 32 (0, 0)) := by
    rw [← hW2, Below.heap_alloc _ _ _ (by simp)]
    have := World.alloc_heap_new (w.alloc (.cells #[.int .i64 k, .int .i64 a, sv] 25)) (.cells #[.slice none 0 0] 32 (0, 0))
    simpa using this
  have hbt2 : W2.heap[w.heap.size + 1 + 1]? = some (.cells #[.int .i64 k, .int .i64 a, sv] 25 (0, 0)) := by
    rw [← hW2]
    have := World.alloc_heap_new ((w.alloc (.cells #[.int .i64 k, .int .i64 a, sv] 25)).alloc (.cells #[.slice none 0 0] 32)) (.cells #[.int .i64 k, .int .i64 a, sv] 25 (0, 0))
    simpa using this
  have hS2 : Same ⟨wm, fun _ => none⟩ w W2 := fun b o ho => by
    have hb : b < w.heap.size := by
      rcases Nat.lt_or_ge b w.heap.size with h1 | h1
      · exact h1
      · replace ho : o < wm b := ho
        rw [hwm b h1] at ho; omega
    exact cell_of_heap (hb2.block b hb) o
  have hG0 : Grow w.heap.size (w.heap.size + 1) 32 3 1 w [] 0 W2 := ⟨_, hbx2, World.ownsRow_nil W2 _ _ _, fun _ => rfl, hb2⟩
  have hB2 := hG0.box (Nat.le_succ _)
  rw [hW2]
  refine wpIn_rangeFunc_ownH hro (by omega) (gf := 35) (lb := #[.pointer (some ⟨w.heap.size + 1 + 1, 0, none⟩)]) (by simp [Act.eval]) (hF 35) (enters_of Tryd.func35 (by kernel_rfl) rfl)
    (all_stops F hd hF hro (m - 1) w.heap.size (w.heap.size + 1) (w.heap.size + 1 + 1) wm w W2 hwm (.mk k a ks) hN _ _ _ hS2 hv hB2 (by omega) hbt2) keptIf_t (fun W l o o' hl h1 h2 _ => keptIf_b W l o o' (by omega) h1 h2) (Below.refl _ _) (fun _ => rfl)
    (fun pre W => Grow w.heap.size (w.heap.size + 1) 32 3 1 w ((lvE pre).map (.int .i64)) (lvE pre).length W)
    (fun _ _ _ => False) ?hI (fun _ _ _ _ _ hs _ _ => hs) hG0
    (fun x a' W => ∃ B4 v0 v1 v2, x.1.2 = .agg #[v0, v1, v2] ∧ a' = { tmps := #[.agg #[.int .i64 k, .int .i64 a, sv], .pointer (some ⟨w.heap.size, 0, none⟩), .slice none 0 0, .pointer (some ⟨w.heap.size + 1, 0, none⟩), .pointer (some ⟨B4, 0, none⟩), .agg #[.int .i64 k, .int .i64 a, sv], .func (.func 35) #[] #[.pointer (some ⟨w.heap.size + 1 + 1, 0, none⟩)], x.1.2, undef, undef, undef, undef, undef, undef, undef, undef, undef], defers := [] } ∧ W.heap[B4]? = some (.cells #[v0, v1, v2] 25 (0, 0)))
    ?hAx ?assign ?body ?done ?stop
  case hI => exact fun pre A B row h hg hr => h.own (Nat.le_refl _) hg (fun r e => by obtain ⟨h1, h2⟩ := hr r e; exact ⟨by omega, h2⟩)
  case hAx =>
    rintro x a' _ A B row ⟨B4, v0, v1, v2, e1, e3, e4⟩ hg hr
    refine ⟨B4, v0, v1, v2, e1, e3, (hg.block B4 (Array.getElem?_eq_some_iff.1 e4).1 fun e => ?_).trans e4⟩
    obtain ⟨_, o, ho, hc⟩ := hr B4 e.symm
    rw [e4] at ho; injection ho with ho; subst ho; cases hc
  case assign =>
    rintro l pre ⟨⟨⟨k', a', ks'⟩, vx⟩, hx⟩ W K hI hK
    obtain ⟨sv', rfl, hsv'⟩ := RV_node hx
    have h1c := RV_ones3 hx
    have hst := store_last (P := Tryd.prog) W 25 #[.int .i64 k', .int .i64 a', .slice none 0 0] 2 (by simp) sv' h1c.2.2
    have hfin : ∀ a2, a2 = ({ tmps := #[.agg #[.int .i64 k, .int .i64 a, sv], .pointer (some ⟨w.heap.size, 0, none⟩), .slice none 0 0, .pointer (some ⟨w.heap.size + 1, 0, none⟩), .pointer (some ⟨W.heap.size, 0, none⟩), .agg #[.int .i64 k, .int .i64 a, sv], .func (.func 35) #[] #[.pointer (some ⟨w.heap.size + 1 + 1, 0, none⟩)], .agg #[.int .i64 k', .int .i64 a', sv'], undef, undef, undef, undef, undef, undef, undef, undef, undef], defers := [] } : Act) → K a2 (W.alloc (.cells #[.int .i64 k', .int .i64 a', sv'] 25)) := fun a2 e => hK a2 _ ((KeepsOthers.alloc W _).from _) (fun hB => Kept.grown hB (World.grownBy_alloc W _ none))
      (hI.own (Nat.le_refl _) (World.grownBy_alloc W _ none) (fun r e => by cases e)) ⟨W.heap.size, _, _, _, rfl, e, World.alloc_heap_new W _⟩
    gi_wp2_with (rw [hst])
    rfl
  case body =>
    rintro l pre x a' W hl hL ⟨bv, hbv, hrow, hz, hbel⟩ ⟨B4, v0, v1, v2, e1, rfl, hB4⟩ hlen
    obtain ⟨⟨⟨k', a', ks'⟩, vx⟩, hx⟩ := x
    obtain ⟨sv', rfl, hsv'⟩ := RV_node hx
    injection e1 with e1
    have e0 := congrArg Array.toList e1
    simp only [List.cons.injEq, and_true] at e0
    obtain ⟨rfl, rfl, rfl⟩ := e0
    have c0 : W.cell? ⟨B4, 0, none⟩ = some (.int .i64 k') := by simp [World.cell?, hB4]
    have c1 : W.cell? ⟨B4, 1, none⟩ = some (.int .i64 a') := by simp [World.cell?, hB4]
    have cb : W.cell? ⟨w.heap.size + 1, 0, none⟩ = some bv := by simp [World.cell?, hbv]
    obtain ⟨i0, hi, hz0, hz1, hz2⟩ := info_parts info3
    have hll := lvE_len pre
    have hb1 : (lvE pre).length + 1 ≤ 1000000 := by omega
    have hsz : w.heap.size ≤ W.heap.size := hbel.size
    have hlt : w.heap.size + 1 < W.heap.size := (Array.getElem?_eq_some_iff.1 hbv).1
    have hnb : some (w.heap.size + 1) ≠ bv.ownBlock := by
      rcases own_ne hrow hbv (fun cur e => by cases e) with e | e
      · rw [e]; simp
      · exact fun e' => e e'.symm
    gi_wp2_with (
      gi_at_builtin
      refine wpListIn_append_at _ rfl _ _ 32 rfl w.heap.size 3 i0 (.int .i64 0) 1 8 Tryd.underlying32 hi hz0 hz1 hz2 rfl (by decide) _ _ _ rfl (hrow.alloc _) ⟨W.heap.size, 0, none⟩ 1 1 [.int .i64 a'] rfl rfl (cell_one_new _ _ _) (by simp [Value.oneCell']) (Nat.le_trans hb1 (by decide)) (Nat.le_trans (Nat.mul_le_mul_right 8 hb1) (by decide)) (by simp; omega) ?_
      intro v' w3 hown' hg3 hnil3 hat
      have hv3 : w3.heap[w.heap.size + 1]? = some (.cells #[bv] 32 (0, 0)) := (hg3.block _ (by simp; omega) hnb).trans ((Below.heap_alloc _ _ _ hlt).trans hbv)
      obtain ⟨hc3, hf3⟩ : w3.cell? ⟨w.heap.size + 1, 0, none⟩ = some bv ∧ w3.frozen? ⟨w.heap.size + 1, 0, none⟩ = false := by constructor <;> simp [World.cell?, World.frozen?, hv3]
      obtain ⟨g', cap', cur', rfl, hbase', hgb', hr1, hr2, hr3, hr4⟩ : ∃ g' cap' cur', v' = .slice (some ⟨g', 0, none⟩) ((lvE pre).length + 1) cap' ∧ w.heap.size ≤ g' ∧ w3.heap[g']? = some (.cells cur' 3 (0, 0)) ∧ (lvE pre).length + 1 ≤ cap' ∧ cap' ≤ maxLen ∧ cur'.size = cap' * 1 ∧ cur'.toList.take (((lvE pre).length + 1) * 1) = (lvE pre).map (.int .i64) ++ [.int .i64 a'] := by
        rcases hown'.2 with ⟨_, h0⟩ | h'
        · exact absurd h0 (by omega)
        · exact h')
    · have hg4 := grownBy_setCell' w3 (w.heap.size + 1) (.slice (some ⟨g', 0, none⟩) ((lvE pre).length + 1) cap')
      have hg3' : (W.alloc (.cells #[.int .i64 a'] 3)).grownBy w3 bv.ownBlock := hg3
      have hs3 : W.heap.size + 1 ≤ w3.heap.size := by have := hg3'.size; simpa using this
      rename_i hk0
      have hk1 : k' = 0 := by simpa using hk0
      subst hk1
      refine (?_ : KeepsFrom _ _ _ ∧ KeptIf _ _ _ _ ∧ Grow _ _ _ _ _ _ ((lvE (pre ++ [_])).map (.int .i64)) (lvE (pre ++ [_])).length _)
      rw [lvE_add, List.map_append, List.map_cons, List.map_nil, List.length_append, List.length_cons, List.length_nil]
      have hbel3 : Below w.heap.size w w3 := (hbel.alloc hsz _).grown hg3' (by simp; omega) (fun k e => own_low hrow e)
      refine Grow.round (Nat.le_succ _) hbv hrow (heap_set_box _ hv3) (hown'.kept hg4 (own_ne hown' hv3 (fun cur e => by cases e))) (fun e => absurd e (by omega)) (hbel3.grown hg4 hbel3.size (fun k e => by injection e with e; omega)) (by simp; omega) ?_ (fun b hb h1 h2 => ?_)
      · rcases hat with e | e
        · exact .inl e
        · exact .inr ⟨_, e, by simp⟩
      · exact ((hg4.block b (by omega) (fun e => h1 (by injection e))).trans (hg3'.block b (by simp; omega) (fun e => h2 e.symm))).trans (Below.heap_alloc _ _ _ hb)
    · rename_i hk0
      have hk1 : k' ≠ 0 := by simpa using hk0
      refine (?_ : KeepsFrom _ _ _ ∧ KeptIf _ _ _ _ ∧ Grow _ _ _ _ _ _ ((lvE (pre ++ [_])).map (.int .i64)) (lvE (pre ++ [_])).length _)
      rw [lvE_skip _ _ _ _ _ _ hk1]
      exact Grow.stay (Nat.le_succ _) ⟨_, hbv, hrow, hz, hbel⟩
  case stop =>
    rintro D c pre W _ _ h _
    exact h.elim
  case done =>
    rintro D ys W hD hys ⟨bv, hbv, hrow, hz, hbel⟩ hK
    have cb : W.cell? ⟨w.heap.size + 1, 0, none⟩ = some bv := by simp [World.cell?, hbv]
    gi_wp2
    refine ⟨by simp, .inl ⟨_, _, rfl, run_takeDeferred hK, ?_⟩⟩
    have hgD := grownBy_putObj' W D (.deferred none)
    have hys' : lvE ys = lvI (allT (.mk k a ks)) := congrArg lvI hys
    refine ⟨_, results_tmp rfl _ _ _, _, rfl, ?_⟩
    rw [← hys']
    refine ⟨hrow.kept hgD (own_ne hrow hK (fun cur e => by cases e)), hz, hbel.grown hgD hbel.size (fun k e => by injection e with e; omega)⟩
end Go.Proofs.YtegibhjgldpndaaDoor
