/-
  Find: a loop over the parts of a tree that keeps those of a kind.
-/
import Derived.Test.YtegibhjgldpndaaDoorR3
import Derived.Test.YtegibhjgldpndaaDoorAD
set_option linter.unusedVariables false
set_option linter.unusedSimpArgs false
namespace Go.Proofs.YtegibhjgldpndaaDoor
open Go.Al Go.Den Go.RowKit Go.Shelf

attribute [local go_sem] Oper.semAt_some

attribute [local congr] aGuard_congr aPick_congr aBin_congr aUn_congr aExtract_congr aField_congr aFieldAddr_congr aIndexAddr_congr aIndex_congr aLoad_congr aStore_congr aNew_congr aAlloc_congr aBuild_congr aBuildSlice_congr aNilCheck_congr aSlice_congr aLen_congr aMax_congr aAppend_congr sLoad_congr sStore_congr sFieldR_congr sFieldP_congr sField_congr sIndex_congr sIndexM_congr sAlloc_congr sBuild_congr sBuild2_congr sBS_congr sBSk_congr sApp_congr sAppN_congr sAppW_congr sAppS_congr sAppS2_congr sSliceB_congr aGuardD_congr
def polF : Pol := ⟨fun _ => true, fun d => d == 18, fun _ => false⟩
theorem polF_wr (d : Nat) : polF.wr d = (d == 18) := rfl
theorem aBinI_int (P : Program) (op : BinOp) (t : TypeId) (c : Bool) (k k' : IntKind) (a b : Int) (K : V → Prop) : aBinI P op t c (.at (.int k a)) (.at (.int k' b)) K = aBin P op t (.at (.int k a)) (.at (.int k' b)) K := rfl
theorem cV_zero : cV (.agg #[.int .i64 0, .int .i64 0, .slice none 0 0]) = .agg [.at (.int .i64 0), .at (.int .i64 0), .lst .nil []] := rfl
def ks15F : Nat → List Nat := fun _ => [3, 5, 6, 13]
theorem polF_own (d : Nat) : polF.own d = false := rfl

/-- A row that is one's own: what it holds. -/
def Row (W : World) (n0 bx : Nat) (v : Value) (n : Nat) (ds : List Value) : Prop :=
  (n = 0 ∧ v = .slice none 0 0 ∧ ds = []) ∨
  (∃ r cap arr el, v = .slice (some ⟨r, 0, none⟩) n cap ∧ n0 ≤ r ∧ r ≠ bx ∧ W.heap[r]? = some (.cells arr el (0, 0)) ∧ n ≤ cap ∧ arr.size = cap * 3 ∧ arr.toList.take (n * 3) = ds ∧ ds.length = n * 3 ∧ 0 < n ∧ ∀ d ∈ ds, one d = true)

theorem Row.own {W : World} {n0 bx n : Nat} {v : Value} {ds : List Value} (h : Row W n0 bx v n ds) {b : Nat} (hb : v.ownBlock = some b) : n0 ≤ b ∧ b ≠ bx ∧ ∃ cap arr el, v = .slice (some ⟨b, 0, none⟩) n cap ∧ W.heap[b]? = some (.cells arr el (0, 0)) := by
  rcases h with ⟨_, rfl, _⟩ | ⟨r, cap, arr, el, rfl, h1, h2, h3, _⟩
  · cases hb
  · have : r = b := by simpa [Value.ownBlock] using hb
    subst this
    exact ⟨h1, h2, cap, arr, el, rfl, h3⟩
theorem Row.kept {A B : World} {n0 bx n : Nat} {v : Value} {ds : List Value} (h : Row A n0 bx v n ds) (hk : ∀ b, v.ownBlock = some b → B.heap[b]? = A.heap[b]?) : Row B n0 bx v n ds := by
  rcases h with h | ⟨r, cap, arr, el, rfl, h1, h2, h3, h4⟩
  · exact .inl h
  · exact .inr ⟨r, cap, arr, el, rfl, h1, h2, (hk r rfl).trans h3, h4⟩

/-- The box holds it. -/
def GrowF (n0 bx : Nat) (w : World) (ds : List Value) (n : Nat) (W : World) : Prop :=
  ∃ v, (∃ t, W.heap[bx]? = some (.cells #[v] t (0, 0))) ∧ Row W n0 bx v n ds ∧ Below n0 w W

theorem exb_iff {bx : Nat} {W : World} {v : Value} {t : TypeId} (hv : W.heap[bx]? = some (.cells #[v] t (0, 0))) (hs : ∀ b o l c, v = .slice (some ⟨b, o, none⟩) l c → v.ownBlock = some b) (b : Nat) :
    exb bx W b ↔ b = bx ∨ ∃ o l c, v = .slice (some ⟨b, o, none⟩) l c := by
  have hc : W.cell? ⟨bx, 0, none⟩ = some v := by simp [World.cell?, hv]
  unfold Go.Proofs.YtegibhjgldpndaaDoor.exb
  rw [hc]
  exact or_congr Iff.rfl ⟨fun ⟨o, l, c, h⟩ => ⟨o, l, c, by injection h⟩, fun ⟨o, l, c, h⟩ => ⟨o, l, c, by rw [h]⟩⟩
theorem Row.exb {bx n0 n : Nat} {W : World} {v : Value} {t : TypeId} {ds : List Value} (h : Row W n0 bx v n ds) (hv : W.heap[bx]? = some (.cells #[v] t (0, 0))) (b : Nat) :
    exb bx W b ↔ b = bx ∨ v.ownBlock = some b := by
  rw [exb_iff hv (fun b o l c e => by subst e; rfl) b]
  refine or_congr Iff.rfl ⟨fun ⟨o, l, c, e⟩ => by subst e; rfl, fun e => ?_⟩
  obtain ⟨_, _, cap, arr, el, e1, _⟩ := h.own e
  exact ⟨_, _, _, e1⟩
theorem GrowF.box {n0 bx : Nat} {w : World} {ds : List Value} {n : Nat} {W : World} (h0 : n0 ≤ bx) (h : GrowF n0 bx w ds n W) : BoxOk n0 bx W := by
  obtain ⟨v, ⟨t, hv⟩, hr, hb⟩ := h
  refine ⟨h0, ⟨_, _, _, hv⟩, fun b hx => ?_⟩
  rcases (hr.exb hv b).1 hx with rfl | h
  · exact ⟨h0, (Array.getElem?_eq_some_iff.1 hv).1⟩
  · obtain ⟨h1, _, _, arr, el, _, h2⟩ := hr.own h
    exact ⟨h1, (Array.getElem?_eq_some_iff.1 h2).1⟩
theorem grown_cells {A B : World} {row : Option Nat} (hg : A.grownBy B row) (hr : ∀ r, row = some r → ∃ o : Obj, A.heap[r]? = some o ∧ o.isCells = false) {b : Nat} {arr : Array Value} {el : TypeId} {m : Nat × Nat} (h : A.heap[b]? = some (.cells arr el m)) : B.heap[b]? = some (.cells arr el m) :=
  (hg.block b (Array.getElem?_eq_some_iff.1 h).1 (fun e => by
    obtain ⟨o, ho, hc⟩ := hr b e.symm
    rw [h] at ho; injection ho with ho; subst ho; cases hc)).trans h
theorem GrowF.grown {n0 bx : Nat} {w : World} {ds : List Value} {n : Nat} {A B : World} {row : Option Nat} (h0 : n0 ≤ w.heap.size) (h : GrowF n0 bx w ds n A) (hg : A.grownBy B row) (hr : ∀ r, row = some r → n0 ≤ r ∧ ∃ o : Obj, A.heap[r]? = some o ∧ o.isCells = false) : GrowF n0 bx w ds n B := by
  obtain ⟨v, ⟨t, hv⟩, hr', hb⟩ := h
  refine ⟨v, ⟨t, grown_cells hg (fun r e => (hr r e).2) hv⟩, hr'.kept fun b e => ?_, hb.grown hg (Nat.le_trans h0 hb.size) (fun k e => (hr k e).1)⟩
  obtain ⟨_, _, _, arr, el, _, h2⟩ := hr'.own e
  exact (grown_cells hg (fun r e => (hr r e).2) h2).trans h2.symm

theorem RCs_at {g : Gh} {w : World} : ∀ {l us : List Value}, RCs g w (l.map .at) us → us = l
  | [], us, h => by simpa [RCs] using h
  | x :: l, us, h => by
    simp only [List.map_cons, RCs] at h
    obtain ⟨u1, u2, rfl, h1, h2⟩ := h
    simp only [RC] at h1
    rw [h1.1, RCs_at h2]; rfl
theorem RCs_at_mk {g : Gh} {w : World} : ∀ {l : List Value}, (∀ x ∈ l, one x = true) → RCs g w (l.map .at) l
  | [], _ => by simp [RCs]
  | x :: l, h => by
    simp only [List.map_cons, RCs]
    exact ⟨[x], l, rfl, by simp [RC, h x (by simp)], RCs_at_mk (fun y hy => h y (by simp [hy]))⟩
theorem wpIn_fen {l n : Nat} {c : Code} {P : Program} {Q : Exit → Act → World → Prop} {a : Act} {w : World} (h : c.wpIn (fen (some l)) 0 P Q a w) : c.wpIn (Fence.wide.inRound l) n P Q a w :=
  fun b k cs h1 h2 _ => h b k cs h1 h2 (room_wide _)
theorem awp_app {P : Program} {X : Cx} {c : Code} {Q : Exit → Env → S → Prop} {e : Env} {st : S} {g : Gh} {a : Act} {w : World} (h : awp P X c Q e st) (hr : Rel X g e st a w) :
    c.wpIn (fen X.ro) 0 P (fun ex a' w' => ∃ g' e' st', Step X.B g w g' w' ∧ Rel X g' e' st' a' w' ∧ Q ex e' st') a w := h g a w hr

theorem awp_some {P : Program} {X : Cx} {c : Code} {Q : Exit → Env → S → Prop} {Post : Exit → Act → World → Prop} {e : Env} {g : Gh} {a : Act} {w : World} (hs : a.tmps.size = X.N) (hd : a.defers = []) (hgl : GlobOk X.B w) (hp : ∀ ex a' w' g' e' st', Step X.B g w g' w' → Inv X.B g' st' w' → Q ex e' st' → Post ex a' w')
    (he : ∀ k, RV g w (e.get k) (a.tmps.getD k undef)) (h : ∃ st, awp P X c Q e st ∧ Inv X.B g st w) : c.wpIn (fen X.ro) 0 P Post a w := by
  obtain ⟨st, h1, h2⟩ := h
  refine wpIn_mono (h1 g a w ⟨h2, he, hs, hd, hgl⟩) ?_
  rintro ex a' w' ⟨g', e', st', k1, k2, k3⟩
  exact hp _ _ _ _ _ _ k1 k2.inv k3

/-- What lies there as it lies, while a round runs. -/
def wmF (bv : Value) (bx T3 B4 : Nat) (W : World) (b : Nat) : Nat :=
  if b = bx ∨ b = T3 ∨ b = B4 ∨ bv.ownBlock = some b then 0 else match W.heap[b]? with | some (.cells arr _ _) => arr.size + 1 | _ => 0
theorem wmF_out {bv : Value} {bx T3 B4 : Nat} {W : World} {b : Nat} (h : b = bx ∨ b = T3 ∨ b = B4 ∨ bv.ownBlock = some b) : wmF bv bx T3 B4 W b = 0 := if_pos h
theorem wmF_in {bv : Value} {bx T3 B4 : Nat} {W : World} {b : Nat} (h : ¬ (b = bx ∨ b = T3 ∨ b = B4 ∨ bv.ownBlock = some b)) {arr : Array Value} {el : TypeId} {m : Nat × Nat} (hb : W.heap[b]? = some (.cells arr el m)) : wmF bv bx T3 B4 W b = arr.size + 1 := by
  unfold wmF; rw [if_neg h, hb]
theorem wmF_new {bv : Value} {bx T3 B4 : Nat} {W : World} {b : Nat} (h : W.heap.size ≤ b) : wmF bv bx T3 B4 W b = 0 := by
  unfold wmF
  split
  · rfl
  · rw [Array.getElem?_eq_none h]

theorem row_cells (ds : List Value) (n : Nat) (h : ds.length = n * 3) (zs : List V) (us : List Value) (hz : zs.length = 3) :
    List.take (n * 3) (List.take (n * 3) (List.map V.at ds) ++ zs) ++ us.map V.at ++ List.drop (n * 3 + 3) (List.take (n * 3) (List.map V.at ds) ++ zs) = (ds ++ us).map V.at := by
  have e1 : List.take (n * 3) (List.map V.at ds) = List.map V.at ds := List.take_of_length_le (by simp [h])
  rw [e1, List.take_append_of_le_length (by simp [h]), e1, List.drop_eq_nil_of_le (by simp [h, hz]), List.append_nil, List.map_append]
theorem inv_of {B : Nat} {g : Gh} {W : World} {bs : List (Nat × List V × Nat)} (hB : B ≤ W.heap.size) (hf : ∀ b, W.heap.size ≤ b → g.wm b = 0) (ht : ∀ t, g.tb t = none)
    (h : ∀ b cs k, Go.Al.look bs b = some (cs, k) → B ≤ b ∧ g.wm b = 0 ∧ cs.length ≤ k ∧ (∀ c ∈ cs, c.isOne = true) ∧ ∃ arr el us, W.heap[b]? = some (.cells arr el (0, 0)) ∧ arr.size = k ∧ RCs g W cs us ∧ arr.toList.take cs.length = us) : Inv B g ⟨bs, [], 0⟩ W :=
  ⟨hB, h, fun t h => by simp at h, fun t h => by simp at h, fun t h => by simp at h, by simp, hf, fun t _ => ht t⟩
theorem look_nilP {φ : Nat → List V → Nat → Prop} : ∀ b cs k, Go.Al.look ([] : List (Nat × List V × Nat)) b = some (cs, k) → φ b cs k := fun b cs k h => by cases h
theorem look_consP {φ : Nat → List V → Nat → Prop} {b0 k0 : Nat} {cs0 : List V} {r : List (Nat × List V × Nat)} (h0 : φ b0 cs0 k0) (hr : ∀ b cs k, Go.Al.look r b = some (cs, k) → φ b cs k) : ∀ b cs k, Go.Al.look ((b0, cs0, k0) :: r) b = some (cs, k) → φ b cs k := fun b cs k h => by
  by_cases e : b0 = b
  · subst e
    have : Go.Al.look ((b0, cs0, k0) :: r) b0 = some (cs0, k0) := by simp [Go.Al.look]
    rw [this] at h; injection h with h; injection h with h1 h2; subst h1; subst h2; exact h0
  · have : Go.Al.look ((b0, cs0, k0) :: r) b = Go.Al.look r b := by simp [Go.Al.look, e]
    rw [this] at h; exact hr b cs k h
theorem box_at {B : Nat} {g : Gh} {W : World} {b k : Nat} {l : List Value} {arr : Array Value} {el : TypeId} (h1 : B ≤ b) (h2 : g.wm b = 0) (h3 : W.heap[b]? = some (.cells arr el (0, 0))) (h4 : arr.size = k) (h5 : arr.toList.take l.length = l) (h6 : ∀ x ∈ l, one x = true) :
    B ≤ b ∧ g.wm b = 0 ∧ (l.map V.at).length ≤ k ∧ (∀ c ∈ l.map V.at, c.isOne = true) ∧ ∃ arr el us, W.heap[b]? = some (.cells arr el (0, 0)) ∧ arr.size = k ∧ RCs g W (l.map V.at) us ∧ arr.toList.take (l.map V.at).length = us := by
  refine ⟨h1, h2, ?_, fun c hc => ?_, arr, el, l, h3, h4, RCs_at_mk h6, by rw [List.length_map]; exact h5⟩
  · have := congrArg List.length h5
    rw [List.length_take] at this
    have e := Array.length_toList (xs := arr)
    rw [List.length_map]; omega
  · obtain ⟨x, _, rfl⟩ := List.mem_map.1 hc; rfl
theorem box_nil {B : Nat} {g : Gh} {W : World} {b : Nat} {el : TypeId} (h1 : B ≤ b) (h2 : g.wm b = 0) (h3 : W.heap[b]? = some (.cells #[.slice none 0 0] el (0, 0))) :
    B ≤ b ∧ g.wm b = 0 ∧ ([.lst .nil []] : List V).length ≤ 1 ∧ (∀ c ∈ ([.lst .nil []] : List V), c.isOne = true) ∧ ∃ arr el us, W.heap[b]? = some (.cells arr el (0, 0)) ∧ arr.size = 1 ∧ RCs g W [.lst .nil []] us ∧ arr.toList.take ([.lst .nil []] : List V).length = us :=
  ⟨h1, h2, Nat.le_refl _, by simp [V.isOne], _, el, [.slice none 0 0], h3, rfl, by simp only [RCs]; exact ⟨_, [], rfl, by unfold RC; exact .inl ⟨rfl, rfl, trivial⟩, rfl⟩, rfl⟩

/-- What the boxes hold behind a round. -/
structure BoxQ (bx T3 B4 : Nat) (kd k' a' : Int) (sv' : Value) (n : Nat) (ds : List Value) (s : S) : Prop where
  t3 : Go.Al.look s.box T3 = some ([Value.int .i64 kd].map V.at, 1)
  b4 : Go.Al.look s.box B4 = some ([Value.int .i64 k', .int .i64 a', sv'].map V.at, 3)
  row : (n = 0 ∧ ds = [] ∧ Go.Al.look s.box bx = some ([.lst .nil []], 1)) ∨ ∃ b cap, 0 < n ∧ Go.Al.look s.box bx = some ([Value.slice (some ⟨b, 0, none⟩) n cap].map V.at, 1) ∧ Go.Al.look s.box b = some (ds.map V.at, cap * 3) ∧ n ≤ cap ∧ b ≠ bx ∧ b ≠ T3 ∧ b ≠ B4 ∧ ds.length = n * 3 ∧ ∀ d ∈ ds, one d = true

theorem inv_box {B : Nat} {g : Gh} {s : S} {w : World} (h : Inv B g s w) {b k : Nat} {l : List Value} (hl : Go.Al.look s.box b = some (l.map V.at, k)) : B ≤ b ∧ g.wm b = 0 ∧ ∃ arr el, w.heap[b]? = some (.cells arr el (0, 0)) ∧ arr.size = k ∧ arr.toList.take l.length = l := by
  obtain ⟨h1, h2, _, _, arr, el, us, h3, h4, h5, h6⟩ := h.box b _ k hl
  rw [RCs_at h5, List.length_map] at h6
  exact ⟨h1, h2, arr, el, h3, h4, h6⟩
theorem inv_box_all {B : Nat} {g : Gh} {s : S} {w : World} (h : Inv B g s w) {b : Nat} {l : List Value} (hl : Go.Al.look s.box b = some (l.map V.at, l.length)) : ∃ el, w.heap[b]? = some (.cells l.toArray el (0, 0)) := by
  obtain ⟨_, _, arr, el, h3, h4, h6⟩ := inv_box h hl
  refine ⟨el, ?_⟩
  have h9 : arr.toList.length = l.length := by simpa using h4
  have : arr.toList = l := by rw [List.take_of_length_le (Nat.le_of_eq h9)] at h6; exact h6
  rw [h3, ← this]
theorem inv_nil {B : Nat} {g : Gh} {s : S} {w : World} (h : Inv B g s w) {b : Nat} (hl : Go.Al.look s.box b = some ([.lst .nil []], 1)) : ∃ el, w.heap[b]? = some (.cells #[.slice none 0 0] el (0, 0)) := by
  obtain ⟨_, _, _, _, arr, el, us, h3, h4, h5, h6⟩ := h.box b _ 1 hl
  simp only [RCs] at h5
  obtain ⟨u1, u2, rfl, h7, rfl⟩ := h5
  simp only [RC] at h7
  rcases h7 with ⟨_, rfl, _⟩ | ⟨b', o, cap, ds, _, _, h8, _⟩
  · refine ⟨el, ?_⟩
    have : arr.toList = [.slice none 0 0] := by
      have h9 : arr.toList.length = 1 := by simpa using h4
      simpa [List.take_of_length_le, h9] using h6
    rw [h3, show arr = [Value.slice none 0 0].toArray from by rw [← this]]
  · simp [TagOk] at h8

theorem round_of {n0 bx T3 B4 K0 n n' : Nat} {kd k' a' : Int} {sv' bv : Value} {ds ds' : List Value} {w W w' : World} {g' : Gh} {s' : S} {tb tk tn : TypeId} (h0 : n0 ≤ bx) (hv : W.heap[bx]? = some (.cells #[bv] tb (0, 0))) (hr : Row W n0 bx bv n ds)
    (hT : W.heap[T3]? = some (.cells #[.int .i64 kd] tk (0, 0))) (hB4 : W.heap[B4]? = some (.cells #[.int .i64 k', .int .i64 a', sv'] tn (0, 0))) (hbel : Below n0 w W)
    (hS : Step n0 ⟨wmF bv bx T3 B4 W, fun _ => none⟩ W g' w') (hI : Inv n0 g' s' w') (hq : BoxQ bx T3 B4 kd k' a' sv' n' ds' s') :
    KeepsFrom K0 W w' ∧ KeptIf n0 bx W w' ∧ (GrowF n0 bx w ds' n' w' ∧ ∃ t, w'.heap[T3]? = some (.cells #[.int .i64 kd] t (0, 0))) := by
  obtain ⟨tk', hT'⟩ := inv_box_all hI hq.t3
  obtain ⟨tn', hB4'⟩ := inv_box_all hI hq.b4
  obtain ⟨v', t', hv', hr', hown⟩ : ∃ v' t', w'.heap[bx]? = some (.cells #[v'] t' (0, 0)) ∧ Row w' n0 bx v' n' ds' ∧ ∀ b, v'.ownBlock = some b → b ≠ bx ∧ b ≠ T3 ∧ b ≠ B4 ∧ g'.wm b = 0 := by
    rcases hq.row with ⟨rfl, rfl, h1⟩ | ⟨b, cap, h1, h2, h3, h4, h5, h6, h7, h8, h9⟩
    · obtain ⟨el, h2⟩ := inv_nil hI h1
      exact ⟨_, el, h2, .inl ⟨rfl, rfl, rfl⟩, fun b e => by cases e⟩
    · obtain ⟨el, k1⟩ := inv_box_all hI h2
      obtain ⟨k2, k3, arr, el2, k4, k5, k6⟩ := inv_box hI h3
      refine ⟨_, el, k1, .inr ⟨b, cap, arr, el2, rfl, k2, h5, k4, h4, k5, by rw [← h8]; exact k6, h8, h1, h9⟩, fun b' e => ?_⟩
      have : b = b' := by simpa [Value.ownBlock] using e
      subst this
      exact ⟨h5, h6, h7, k3⟩
  have hG : GrowF n0 bx w ds' n' w' := ⟨v', ⟨t', hv'⟩, hr', hbel.trans hS.below⟩
  refine ⟨⟨hS.below.size, fun k o _ hk hc => hS.fz k o hk (by cases o <;> first | rfl | (cases hc))⟩, fun _ => ⟨hG.box h0, hS.below.size, fun b o u hb hx => ?_, fun b hx => ?_, fun b hb => hS.below.block b hb⟩, hG, tk', hT'⟩
  · have h1 : b ≠ bx := fun e => hx ((hr.exb hv b).2 (.inl e))
    have h2 : bv.ownBlock ≠ some b := fun e => hx ((hr.exb hv b).2 (.inr e))
    by_cases h3 : b = T3
    · subst h3
      simpa [World.cell?, hT, hT'] using hb
    · by_cases h4 : b = B4
      · subst h4
        simpa [World.cell?, hB4, hB4'] using hb
      · have hn : ¬ (b = bx ∨ b = T3 ∨ b = B4 ∨ bv.ownBlock = some b) := fun e => by
          rcases e with e | e | e | e
          · exact h1 e
          · exact h3 e
          · exact h4 e
          · exact h2 e
        refine (hS.later.cell b o ?_).trans hb
        show o < wmF bv bx T3 B4 W b
        cases hk : W.heap[b]? with
        | none => simp [World.cell?, hk] at hb
        | some ob =>
          cases ob with
          | cells arr el m =>
            rw [wmF_in hn hk]
            simp only [World.cell?, hk] at hb
            have := (Array.getElem?_eq_some_iff.1 (by simpa using hb)).1
            omega
          | _ => simp [World.cell?, hk] at hb
  · rcases (hr'.exb hv' b).1 hx with rfl | h1
    · exact .inl (.inl rfl)
    · obtain ⟨q1, q2, q3, q4⟩ := hown b h1
      obtain ⟨_, _, cap, arr, el, _, q5⟩ := hr'.own h1
      by_cases hlt : W.heap.size ≤ b
      · exact .inr hlt
      · left
        refine (hr.exb hv b).2 (.inr ?_)
        by_cases hown' : bv.ownBlock = some b
        · exact hown'
        · exfalso
          have hn : ¬ (b = bx ∨ b = T3 ∨ b = B4 ∨ bv.ownBlock = some b) := fun e => by
            rcases e with e | e | e | e
            · exact q1 e
            · exact q2 e
            · exact q3 e
            · exact hown' e
          cases hk : W.heap[b]? with
          | none => rw [Array.getElem?_eq_none_iff] at hk; omega
          | some ob =>
            cases ob with
            | cells arr el m =>
              have h1 := hS.later.wm b
              replace h1 : wmF bv bx T3 B4 W b ≤ g'.wm b := h1
              rw [wmF_in hn hk] at h1
              omega
            | _ =>
              have h1 := hS.fz b _ hk rfl
              rw [q5] at h1
              cases h1

/-- The parts that are kept: their cells. -/
def lvF {g : Gh} {w0 : World} (kd : Int) : List (El g w0) → List Nd
  | [] => []
  | x :: r => if x.1.1.kind = kd then x.1.1 :: lvF kd r else lvF kd r
def dsF {g : Gh} {w0 : World} (kd : Int) : List (El g w0) → List Value
  | [] => []
  | x :: r => if x.1.1.kind = kd then x.1.2.cells.toList ++ dsF kd r else dsF kd r
theorem lvF_app {g : Gh} {w0 : World} (kd : Int) : ∀ a b : List (El g w0), lvF kd (a ++ b) = lvF kd a ++ lvF kd b
  | [], b => rfl
  | x :: a, b => by simp only [List.cons_append, lvF, lvF_app kd a b]; split <;> rfl
theorem dsF_app {g : Gh} {w0 : World} (kd : Int) : ∀ a b : List (El g w0), dsF kd (a ++ b) = dsF kd a ++ dsF kd b
  | [], b => rfl
  | x :: a, b => by simp only [List.cons_append, dsF, dsF_app kd a b]; split <;> simp
theorem lvF_len {g : Gh} {w0 : World} (kd : Int) : ∀ a : List (El g w0), (lvF kd a).length ≤ a.length
  | [] => Nat.le_refl _
  | x :: a => by have := lvF_len kd a; simp only [lvF]; split <;> simp <;> omega
theorem lvF_eq {g : Gh} {w0 : World} (kd : Int) : ∀ a : List (El g w0), lvF kd a = (a.map (·.1.1)).filter (fun t => t.kind == kd)
  | [] => rfl
  | x :: a => by
    simp only [lvF, List.map_cons, List.filter_cons, lvF_eq kd a, beq_iff_eq]
theorem dsF_rc {g : Gh} {w0 : World} (kd : Int) : ∀ a : List (El g w0), RCs g w0 ((lvF kd a).map encNd) (dsF kd a)
  | [] => by simp [lvF, dsF, RCs]
  | x :: a => by
    have ih := dsF_rc kd a
    simp only [lvF, dsF]
    split
    · obtain ⟨⟨⟨k, a', ks⟩, v⟩, hx⟩ := x
      obtain ⟨sv, rfl, hs⟩ := RV_node hx
      simp only [List.map_cons, RCs]
      refine ⟨[.int .i64 k, .int .i64 a', sv], _, rfl, ?_, ih⟩
      obtain ⟨us, h1, h2⟩ := RV_agg (show RV g w0 (.agg [vi k, vi a', sl (encNds ks)]) _ from hx)
      have : us = [.int .i64 k, .int .i64 a', sv] := by
        have := congrArg (fun v => match v with | Value.agg a => a.toList | _ => []) h2
        simpa using this.symm
      subst this
      show RC g w0 (.agg [vi k, vi a', sl (encNds ks)]) _
      simp only [RC]; exact h1
    · exact ih

set_option maxRecDepth 100000 in
set_option maxHeartbeats 1000000 in
theorem find_in (m : Nat) (hm : 3 ≤ m) (wm : Nat → Nat) (w : World) (hwm : ∀ b, w.heap.size ≤ b → wm b = 0) (hgl : GlobOk w.heap.size w) (t : Nd) (v : Value) (kd : Int) (hv : RV ⟨wm, fun _ => none⟩ w (encNd t) v) (hN : (allT t).length ≤ 1000000) :
    CallsIn Fence.wide m Tryd.prog 15 #[v, .int .i64 kd] w fun e W' => ∃ v' ds, e = .returned v' ∧
      Row W' w.heap.size (w.heap.size + 1 + 1) v' ((allT t).filter (fun t => t.kind == kd)).length ds ∧ RCs ⟨wm, fun _ => none⟩ w (((allT t).filter (fun t => t.kind == kd)).map encNd) ds ∧ Below w.heap.size w W' := by
  obtain ⟨k, a, ks⟩ := t
  obtain ⟨sv, rfl, hsv⟩ := RV_node hv
  have hF : ∀ f, Fence.wide.fn f := fun _ => trivial
  refine callsIn_of_wp_marks Tryd.func15 rfl (hF _) ?_ rfl
  simp only [Tryd.ntmps15, List.size_toArray, List.length_cons, List.length_nil, Nat.reduceAdd, Nat.reduceSub, Array.replicate_succ, Array.replicate_zero, List.push_toArray, List.append_toArray, List.nil_append, List.cons_append]
  have hdd : ∀ k : Nat, (Fence.wide.depth.isSome = true → 1 ≤ k) := fun k h => by cases h
  gi_wp2_with ((try refine ⟨hdd _, ?_⟩); gi_at_call 28; refine (all_in Fence.wide hF rfl _ _ _ _ _).mono ?_; rintro e w' ⟨rfl, rfl⟩)
  obtain ⟨W2, hW2⟩ : ∃ W2, (((w.alloc (.cells #[.int .i64 k, .int .i64 a, sv] 25)).alloc (.cells #[.int .i64 kd] 3)).alloc (.cells #[.slice none 0 0] 23)).alloc (.cells #[.int .i64 k, .int .i64 a, sv] 25) = W2 := ⟨_, rfl⟩
  have hsz2 : W2.heap.size = w.heap.size + 4 := by rw [← hW2]; simp
  have hb2 : Below w.heap.size w W2 := by rw [← hW2]; exact ((((Below.refl _ w).alloc (Nat.le_refl _) _).alloc (by simp) _).alloc (by simp; omega) _).alloc (by simp; omega) _
  have hk2 : W2.heap[w.heap.size + 1]? = some (.cells #[.int .i64 kd] 3 (0, 0)) := by
    rw [← hW2, Below.heap_alloc _ _ _ (by simp), Below.heap_alloc _ _ _ (by simp)]
    have := World.alloc_heap_new (w.alloc (.cells #[.int .i64 k, .int .i64 a, sv] 25)) (.cells #[.int .i64 kd] 3 (0, 0))
    simpa using this
  have hbx2 : W2.heap[w.heap.size + 1 + 1]? = some (.cells #[.slice none 0 0] 23 (0, 0)) := by
    rw [← hW2, Below.heap_alloc _ _ _ (by simp)]
    have := World.alloc_heap_new ((w.alloc (.cells #[.int .i64 k, .int .i64 a, sv] 25)).alloc (.cells #[.int .i64 kd] 3)) (.cells #[.slice none 0 0] 23 (0, 0))
    simpa using this
  have hbt2 : W2.heap[w.heap.size + 1 + 1 + 1]? = some (.cells #[.int .i64 k, .int .i64 a, sv] 25 (0, 0)) := by
    rw [← hW2]
    have := World.alloc_heap_new (((w.alloc (.cells #[.int .i64 k, .int .i64 a, sv] 25)).alloc (.cells #[.int .i64 kd] 3)).alloc (.cells #[.slice none 0 0] 23)) (.cells #[.int .i64 k, .int .i64 a, sv] 25 (0, 0))
    simpa using this
  have hS2 : Same ⟨wm, fun _ => none⟩ w W2 := fun b o ho => by
    have hb : b < w.heap.size := by
      rcases Nat.lt_or_ge b w.heap.size with h1 | h1
      · exact h1
      · replace ho : o < wm b := ho
        rw [hwm b h1] at ho; omega
    exact cell_of_heap (hb2.block b hb) o
  have hG0 : GrowF w.heap.size (w.heap.size + 1 + 1) w [] 0 W2 := ⟨_, ⟨_, hbx2⟩, .inl ⟨rfl, rfl, rfl⟩, hb2⟩
  have hB2 := hG0.box (by omega)
  rw [hW2]
  refine wpIn_rangeFunc_ownH rfl (by omega) (gf := 35) (lb := #[.pointer (some ⟨w.heap.size + 1 + 1 + 1, 0, none⟩)]) (by simp [Act.eval]) (hF 35) (enters_of Tryd.func35 (by kernel_rfl) rfl)
    (all_stops Fence.wide rfl hF rfl (m - 1) w.heap.size (w.heap.size + 1 + 1) (w.heap.size + 1 + 1 + 1) wm w W2 hwm (.mk k a ks) hN _ _ _ hS2 hv hB2 (by omega) hbt2) keptIf_t (fun W l o o' hl h1 h2 _ => keptIf_b W l o o' (by omega) h1 h2) (Below.refl _ _) (fun _ => rfl)
    (fun pre W => GrowF w.heap.size (w.heap.size + 1 + 1) w (dsF kd pre) (lvF kd pre).length W ∧ ∃ t, W.heap[w.heap.size + 1]? = some (.cells #[.int .i64 kd] t (0, 0)))
    (fun _ _ _ => False) ?hI (fun _ _ _ _ _ hs _ _ => hs) ⟨hG0, _, hk2⟩
    (fun x a' W => ∃ B4 v0 v1 v2, x.1.2 = .agg #[v0, v1, v2] ∧ a' = { tmps := #[.agg #[.int .i64 k, .int .i64 a, sv], .int .i64 kd, .pointer (some ⟨w.heap.size, 0, none⟩), .pointer (some ⟨w.heap.size + 1, 0, none⟩), .slice none 0 0, .pointer (some ⟨w.heap.size + 1 + 1, 0, none⟩), .pointer (some ⟨B4, 0, none⟩), .agg #[.int .i64 k, .int .i64 a, sv], .func (.func 35) #[] #[.pointer (some ⟨w.heap.size + 1 + 1 + 1, 0, none⟩)], x.1.2, undef, undef, undef, undef, undef, undef, undef, undef, undef, undef, undef], defers := [] } ∧ W.heap[B4]? = some (.cells #[v0, v1, v2] 25 (0, 0)) ∧
      w.heap.size + 3 ≤ B4 ∧ ∃ bv t, W.heap[w.heap.size + 1 + 1]? = some (.cells #[bv] t (0, 0)) ∧ bv.ownBlock ≠ some B4)
    ?hAx ?assign ?body ?done ?stop
  case hI => exact fun pre A B row h hg hr => ⟨h.1.grown (Nat.le_refl _) hg (fun r e => by obtain ⟨h1, h2⟩ := hr r e; exact ⟨by omega, h2⟩), h.2.imp fun t h2 => grown_cells hg (fun r e => (hr r e).2) h2⟩
  case hAx =>
    rintro x a' _ A B row ⟨B4, v0, v1, v2, e1, e3, e4, e5, bv, t, e6, e7⟩ hg hr
    exact ⟨B4, v0, v1, v2, e1, e3, grown_cells hg (fun r e => (hr r e).2) e4, e5, bv, t, grown_cells hg (fun r e => (hr r e).2) e6, e7⟩
  case assign =>
    rintro l pre ⟨⟨⟨k', a', ks'⟩, vx⟩, hx⟩ W K hI hK
    obtain ⟨sv', rfl, hsv'⟩ := RV_node hx
    have h1c := RV_ones3 hx
    have hst := store_last (P := Tryd.prog) W 25 #[.int .i64 k', .int .i64 a', .slice none 0 0] 2 (by simp) sv' h1c.2.2
    have hfin : ∀ a2, a2 = ({ tmps := #[.agg #[.int .i64 k, .int .i64 a, sv], .int .i64 kd, .pointer (some ⟨w.heap.size, 0, none⟩), .pointer (some ⟨w.heap.size + 1, 0, none⟩), .slice none 0 0, .pointer (some ⟨w.heap.size + 1 + 1, 0, none⟩), .pointer (some ⟨W.heap.size, 0, none⟩), .agg #[.int .i64 k, .int .i64 a, sv], .func (.func 35) #[] #[.pointer (some ⟨w.heap.size + 1 + 1 + 1, 0, none⟩)], .agg #[.int .i64 k', .int .i64 a', sv'], undef, undef, undef, undef, undef, undef, undef, undef, undef, undef, undef], defers := [] } : Act) → K a2 (W.alloc (.cells #[.int .i64 k', .int .i64 a', sv'] 25)) := fun a2 e => by
      have hg := World.grownBy_alloc W (.cells #[.int .i64 k', .int .i64 a', sv'] 25) none
      have hI2 := hI
      obtain ⟨⟨bv, ⟨t, hbv⟩, hrow, hbel⟩, tk, hkd⟩ := hI2
      have hszW := hbel.size
      have hltk := (Array.getElem?_eq_some_iff.1 hkd).1
      refine hK a2 _ ((KeepsOthers.alloc W _).from _) (fun hB => Kept.grown hB hg) ⟨hI.1.grown (Nat.le_refl _) hg (fun r e => by cases e), hI.2.imp fun t h2 => grown_cells hg (fun r e => by cases e) h2⟩
        ⟨W.heap.size, _, _, _, rfl, e, World.alloc_heap_new W _, ?_, bv, t, grown_cells hg (fun r e => by cases e) hbv, fun e => ?_⟩
      · have := (Array.getElem?_eq_some_iff.1 hbv).1
        omega
      · obtain ⟨_, _, _, arr, el, _, h2⟩ := hrow.own e
        have := (Array.getElem?_eq_some_iff.1 h2).1
        omega
    gi_wp2_with (rw [hst])
    rfl
  case body =>
    rintro l pre x a' W hl hL ⟨⟨bv, ⟨tb, hbv⟩, hrow, hbel⟩, tk, hkd⟩ ⟨B4, v0, v1, v2, e1, rfl, hB4, hB4n, bv', tb', hbv', hB4r⟩ hlen
    obtain ⟨⟨⟨k', a', ks'⟩, vx⟩, hx⟩ := x
    obtain ⟨sv', rfl, hsv'⟩ := RV_node hx
    injection e1 with e1
    have e0 := congrArg Array.toList e1
    simp only [List.cons.injEq, and_true] at e0
    obtain ⟨rfl, rfl, rfl⟩ := e0
    have hne1 : ¬ w.heap.size + 1 + 1 = w.heap.size + 1 := by omega
    have hne1' : ¬ w.heap.size + 1 = w.heap.size + 1 + 1 := by omega
    have hne2 : ¬ w.heap.size + 1 + 1 = B4 := by omega
    have hne2' : ¬ B4 = w.heap.size + 1 + 1 := by omega
    have hne3 : ¬ w.heap.size + 1 = B4 := by omega
    have hne3' : ¬ B4 = w.heap.size + 1 := by omega
    have h1c : one (.int .i64 k') = true ∧ one (.int .i64 a') = true ∧ one sv' = true := by
      obtain ⟨ks2, hks⟩ : ∃ ks2, RC ⟨wm, fun _ => none⟩ w (.lst (tagOf (encNds ks')) ks2) [sv'] := ⟨_, hsv'⟩
      refine ⟨rfl, rfl, ?_⟩
      simp only [RC] at hks
      rcases hks with ⟨_, h, _⟩ | ⟨b, o, cap, ds, h, _⟩
      · injection h with h; subst h; rfl
      · injection h with h; subst h; rfl
    have hll := lvF_len kd pre
    have hb1 : (lvF kd pre).length + 1 ≤ 1000000 := by omega
    obtain ⟨n, hn⟩ : ∃ n, n = (lvF kd pre).length := ⟨_, rfl⟩
    obtain ⟨ds, hds⟩ : ∃ ds, ds = dsF kd pre := ⟨_, rfl⟩
    rw [← hn] at hb1
    rw [← hn, ← hds] at hrow
    obtain ⟨n', ds', hnd, hnn, hdd'⟩ : ∃ n' ds', (k' = kd → n' = n + 1 ∧ ds' = ds ++ [.int .i64 k', .int .i64 a', sv']) ∧ (k' ≠ kd → n' = n) ∧ (k' ≠ kd → ds' = ds) := by
      by_cases h : k' = kd
      · exact ⟨_, _, fun _ => ⟨rfl, rfl⟩, fun e => absurd h e, fun e => absurd h e⟩
      · exact ⟨_, _, fun e => absurd e h, fun _ => rfl, fun _ => rfl⟩
    refine wpIn_fen (awp_some (X := ⟨w.heap.size, 21, some l⟩) (g := ⟨wmF bv (w.heap.size + 1 + 1) (w.heap.size + 1) B4 W, fun _ => none⟩) (Q := fun ex e' s' => ex = .normal ∧ BoxQ (w.heap.size + 1 + 1) (w.heap.size + 1) B4 kd k' a' sv' n' ds' s') (e := [(3, .at (.pointer (some ⟨w.heap.size + 1, 0, none⟩))), (5, .at (.pointer (some ⟨w.heap.size + 1 + 1, 0, none⟩))), (6, .at (.pointer (some ⟨B4, 0, none⟩)))]) rfl rfl (hgl.below hbel) ?hP ?hE ?hA)
    case hE =>
      intro k1
      by_cases e3 : k1 = 3
      · subst e3; exact RV_at_mk rfl
      · by_cases e5 : k1 = 5
        · subst e5; exact RV_at_mk rfl
        · by_cases e6 : k1 = 6
          · subst e6; exact RV_at_mk rfl
          · have : Env.get [(3, .at (.pointer (some ⟨w.heap.size + 1, 0, none⟩))), (5, .at (.pointer (some ⟨w.heap.size + 1 + 1, 0, none⟩))), (6, .at (.pointer (some ⟨B4, 0, none⟩)))] k1 = V.any := by
              simp only [Env.get, Ne.symm e3, Ne.symm e5, Ne.symm e6, if_false]
            rw [this]
            trivial
    case hP =>
      rintro ex a2 w2 g' e' s' h1 h2 ⟨rfl, h3⟩
      have hR := round_of (K0 := w.heap.size + 4) (by omega) hbv hrow hkd hB4 hbel h1 h2 h3
      have e1 : dsF kd (pre ++ [⟨(.mk k' a' ks', .agg #[.int .i64 k', .int .i64 a', sv']), hx⟩]) = ds' := by
        rw [dsF_app, ← hds]
        by_cases h : k' = kd
        · rw [(hnd h).2]; simp only [dsF, Nd.kind, h, if_true]; rfl
        · rw [hdd' h]; simp only [dsF, Nd.kind, h, if_false, List.append_nil]
      have e2 : (lvF kd (pre ++ [⟨(.mk k' a' ks', .agg #[.int .i64 k', .int .i64 a', sv']), hx⟩])).length = n' := by
        rw [lvF_app, List.length_append, ← hn]
        by_cases h : k' = kd
        · rw [(hnd h).1]; simp only [lvF, Nd.kind, h, if_true]; rfl
        · rw [hnn h]; simp only [lvF, Nd.kind, h, if_false]; rfl
      rw [← e1, ← e2] at hR
      refine ⟨?_, hR.2.1, hR.2.2⟩
      rw [hsz2]; exact hR.1
    case hA =>
      rcases hrow with ⟨rfl, rfl, rfl⟩ | hrow
      · refine ⟨⟨[(w.heap.size + 1 + 1, [.lst .nil []], 1), (w.heap.size + 1, [.at (.int .i64 kd)], 1), (B4, [.at (.int .i64 k'), .at (.int .i64 a'), .at sv'], 3)], [], 0⟩, ?_, ?_⟩
        · generalize hst : (⟨[(w.heap.size + 1 + 1, [.lst .nil []], 1), (w.heap.size + 1, [.at (.int .i64 kd)], 1), (B4, [.at (.int .i64 k'), .at (.int .i64 a'), .at sv'], 3)], [], 0⟩ : S) = st
          have l1 : Go.Al.look st.box (w.heap.size + 1 + 1) = some ([.lst .nil []], 1) := by rw [← hst]; simp [Go.Al.look]
          have l2 : Go.Al.look st.box (w.heap.size + 1) = some ([.at (.int .i64 kd)], 1) := by rw [← hst]; simp [Go.Al.look]
          have l3 : Go.Al.look st.box B4 = some ([.at (.int .i64 k'), .at (.int .i64 a'), .at sv'], 3) := by rw [← hst]; simp [Go.Al.look, hne2, hne3]
          clear hst
          (repeat (first | (refine awp_seq ?_) | (refine awp_skip ?_; simp -failIfUnchanged only [thenE_normal, blockE_normal]) | (refine awp_ret ?_; simp -failIfUnchanged only [thenE_ret, blockE_ret, retE_ret, retER_ret]) | (refine awp_exit ?_; simp -failIfUnchanged only [thenE_exit, blockE_exit, thenE_normal, blockE_normal, reduceIte]) | (refine awp_block ?_) | ((first | (refine awp_reg polF ks15F _ rfl rfl ?_) | (refine awp_draw polF mixed ks15F _ rfl rfl (by kernel_rfl) (by kernel_rfl) ?_)); simp only [↓AL_guardD, ↓AL_nil, ↓AL_move, ↓AL_assign, ↓AL_pick, ↓AL_bin, ↓AL_un, ↓AL_extract, ↓AL_field, ↓AL_fieldAddr, ↓AL_indexAddr, ↓AL_index, ↓AL_load, ↓AL_store, ↓AL_alloc, ↓AL_box, ↓AL_build, ↓AL_buildSlice, ↓AL_nilCheck, ↓AL_slice, ↓AL_len, ↓AL_max, ↓AL_append, thenE_normal, thenE_exit, thenE_ret, thenE_panic, blockE_normal, blockE_exit, blockE_ret, blockE_panic, putO_some, putO_none, get_cons, get_nil, ev_tmp, ev_const, ev_func, cV_int, cV_bool, cV_string, cV_nil, cV_ptr, keepE_cons, keepE_nil, aBin_int, aBin_bool, aBin_str, aBin_nil, aInt_add, aInt_sub, aInt_mul, aInt_eql, aInt_neq, aInt_lss, aInt_leq, aInt_gtr, aInt_geq, aBool_eql, aBool_neq, aUn_not, aUn_neg, aLen_lst, aLen_slice, aLen_str, aMax_int, aPick_bool, aExtract_tup, aNilCheck_rptr, aNilCheck_ptr, aLoad_rptr, aLoad_ptr, sLoad_some, aStore_ptr, sStore_some, aFieldAddr_rptr, sFieldR_some, aFieldAddr_ptr, sFieldP_some, aField_agg, sField_some, aIndexAddr_lst, sIndex_some, aIndexAddr_slice, sIndexM_some, aIndex_str, aAlloc_eq, sAlloc_some, aBuild_eq, sBuild_some, sBuild2_some, fillV_nil, fillV_cons, sFill_some, placeOf_eq, sPlace_some, aAppend_eq, sApp_nil, sAppN_f, sAppN_t, sApp_own, appOk, spl, aBuildSlice_eq, sBS_some, sBSk_ff, sBSk_ft, sBSk_t, inOrder, elsOk_nil, elsOk_cons, pow24, one_le_maxLen, two_le_maxLen, zero_le_maxLen, Option.map_some, List.mem_cons, true_or, implies_true, false_implies, true_implies, Nat.reduceLT, List.erase_cons_head, Nat.one_mul, untag_tagOf, untag_at, untag_rptr, untag_own, untag_ownf, untag_no, untag_nil, untag_agg, untag1_tagOf, untag1_at, untag1_own, untag1_no, untag1_nil, flat_one_at, flat_one_lst, flat_one_rptr, flat_one_agg, List.map_cons, List.map_nil, List.cons_append, List.nil_append, List.append_nil, and_self, beq_self_eq_true, fits, partOk, partV, allOne, V.isOne, V.isAgg, V.size, V.flat, sizes, List.all_cons, List.all_nil, List.length_cons, List.length_nil, List.drop_zero, List.drop_succ_cons, List.take_succ_cons, List.take_zero, List.take_nil, List.getD_cons_zero, List.getD_cons_succ, List.length_map, Bool.and_true, Bool.true_and, Bool.and_self, Option.isSome_some, if_true, if_false, and_true, true_and, Nat.reduceAdd, Nat.reduceEqDiff, Nat.reduceLeDiff, Nat.reduceMul, Nat.reduceSub, reduceIte, reduceCtorEq, Bool.false_eq_true, eq_self, Nat.zero_add, Nat.add_zero, Nat.lt_irrefl, Nat.le_refl, Nat.zero_lt_one, Nat.zero_le, Nat.lt_add_one, look_lay, look_wipe, sApp_box, sAppW_some, aAppend_at, sAppS_nil, sAppS_box, sAppS2_some, appOkB, aSlice_box_hi, sSliceB_some, aGuardD_some, aGuard_same, aGuard_tf, aGuard_ft, Option.map_none, flats, size_untag1, look_self, Env.get_put, aResultsR, Nat.reduceBEq, Bool.or_true, Bool.true_or, Bool.or_false, Bool.or_self, Nat.zero_mul, hasT3, aggT3, cells3, bytes3, zero3, hasT4, aggT4, cells4, bytes4, boolT4, zero4, hasT23, aggT23, cells23, bytes23, elT23, zero23, hasT25, aggT25, cells25, bytes25, structT25, fld25_0, fld25_1, fld25_2, zero25, hasT55, aggT55, cells55, bytes55, zero55, ks15F, aBinI_int, l1, l2, l3, polF_wr, polF_own])))
          refine awp_cond rfl (fun hk => ?_) (fun hk => ?_)
          · obtain rfl : k' = kd := eq_of_beq hk
            obtain ⟨rfl, rfl⟩ := hnd rfl
            refine awp_draw2 polF mixed ks15F (.tmp 19) (.tmp 5) _ rfl rfl (by kernel_rfl) (by kernel_rfl) (by decide) ⟨_, _, _, _, _, _, _, _, _, _, rfl, rfl⟩ ?_
            simp only [↓AL_guardD, ↓AL_nil, ↓AL_move, ↓AL_assign, ↓AL_pick, ↓AL_bin, ↓AL_un, ↓AL_extract, ↓AL_field, ↓AL_fieldAddr, ↓AL_indexAddr, ↓AL_index, ↓AL_load, ↓AL_store, ↓AL_alloc, ↓AL_box, ↓AL_build, ↓AL_buildSlice, ↓AL_nilCheck, ↓AL_slice, ↓AL_len, ↓AL_max, ↓AL_append, thenE_normal, thenE_exit, thenE_ret, thenE_panic, blockE_normal, blockE_exit, blockE_ret, blockE_panic, putO_some, putO_none, get_cons, get_nil, ev_tmp, ev_const, ev_func, cV_int, cV_bool, cV_string, cV_nil, cV_ptr, keepE_cons, keepE_nil, aBin_int, aBin_bool, aBin_str, aBin_nil, aInt_add, aInt_sub, aInt_mul, aInt_eql, aInt_neq, aInt_lss, aInt_leq, aInt_gtr, aInt_geq, aBool_eql, aBool_neq, aUn_not, aUn_neg, aLen_lst, aLen_slice, aLen_str, aMax_int, aPick_bool, aExtract_tup, aNilCheck_rptr, aNilCheck_ptr, aLoad_rptr, aLoad_ptr, sLoad_some, aStore_ptr, sStore_some, aFieldAddr_rptr, sFieldR_some, aFieldAddr_ptr, sFieldP_some, aField_agg, sField_some, aIndexAddr_lst, sIndex_some, aIndexAddr_slice, sIndexM_some, aIndex_str, aAlloc_eq, sAlloc_some, aBuild_eq, sBuild_some, sBuild2_some, fillV_nil, fillV_cons, sFill_some, placeOf_eq, sPlace_some, aAppend_eq, sApp_nil, sAppN_f, sAppN_t, sApp_own, appOk, spl, aBuildSlice_eq, sBS_some, sBSk_ff, sBSk_ft, sBSk_t, inOrder, elsOk_nil, elsOk_cons, pow24, one_le_maxLen, two_le_maxLen, zero_le_maxLen, Option.map_some, List.mem_cons, true_or, implies_true, false_implies, true_implies, Nat.reduceLT, List.erase_cons_head, Nat.one_mul, untag_tagOf, untag_at, untag_rptr, untag_own, untag_ownf, untag_no, untag_nil, untag_agg, untag1_tagOf, untag1_at, untag1_own, untag1_no, untag1_nil, flat_one_at, flat_one_lst, flat_one_rptr, flat_one_agg, List.map_cons, List.map_nil, List.cons_append, List.nil_append, List.append_nil, and_self, beq_self_eq_true, fits, partOk, partV, allOne, V.isOne, V.isAgg, V.size, V.flat, sizes, List.all_cons, List.all_nil, List.length_cons, List.length_nil, List.drop_zero, List.drop_succ_cons, List.take_succ_cons, List.take_zero, List.take_nil, List.getD_cons_zero, List.getD_cons_succ, List.length_map, Bool.and_true, Bool.true_and, Bool.and_self, Option.isSome_some, if_true, if_false, and_true, true_and, Nat.reduceAdd, Nat.reduceEqDiff, Nat.reduceLeDiff, Nat.reduceMul, Nat.reduceSub, reduceIte, reduceCtorEq, Bool.false_eq_true, eq_self, Nat.zero_add, Nat.add_zero, Nat.lt_irrefl, Nat.le_refl, Nat.zero_lt_one, Nat.zero_le, Nat.lt_add_one, look_lay, look_wipe, sApp_box, sAppW_some, aAppend_at, sAppS_nil, sAppS_box, sAppS2_some, appOkB, aSlice_box_hi, sSliceB_some, aGuardD_some, aGuard_same, aGuard_tf, aGuard_ft, Option.map_none, flats, size_untag1, look_self, Env.get_put, aResultsR, Nat.reduceBEq, Bool.or_true, Bool.true_or, Bool.or_false, Bool.or_self, Nat.zero_mul, hasT3, aggT3, cells3, bytes3, zero3, hasT4, aggT4, cells4, bytes4, boolT4, zero4, hasT23, aggT23, cells23, bytes23, elT23, zero23, hasT25, aggT25, cells25, bytes25, structT25, fld25_0, fld25_1, fld25_2, zero25, hasT55, aggT55, cells55, bytes55, zero55, ks15, ks15F, aBinI_int, cV_zero, l1, l2, l3, hne1, hne1', hne2, hne2', hne3, hne3', polF_wr, polF_own]
            refine ⟨by simp, fun b cap hb hcap => ⟨⟨by omega, by omega⟩, by simp, ?_⟩⟩
            have m1 : ¬ b = w.heap.size + 1 + 1 := fun e => by rw [e, l1] at hb; cases hb
            have m1' : ¬ w.heap.size + 1 + 1 = b := fun e => m1 e.symm
            have m2 : ¬ b = w.heap.size + 1 := fun e => by rw [e, l2] at hb; cases hb
            have m3 : ¬ b = B4 := fun e => by rw [e, l3] at hb; cases hb
            have z0 : ((0 : Nat) : Int).toNat = 0 := rfl
            simp only [↓AL_guardD, ↓AL_nil, ↓AL_move, ↓AL_assign, ↓AL_pick, ↓AL_bin, ↓AL_un, ↓AL_extract, ↓AL_field, ↓AL_fieldAddr, ↓AL_indexAddr, ↓AL_index, ↓AL_load, ↓AL_store, ↓AL_alloc, ↓AL_box, ↓AL_build, ↓AL_buildSlice, ↓AL_nilCheck, ↓AL_slice, ↓AL_len, ↓AL_max, ↓AL_append, thenE_normal, thenE_exit, thenE_ret, thenE_panic, blockE_normal, blockE_exit, blockE_ret, blockE_panic, putO_some, putO_none, get_cons, get_nil, ev_tmp, ev_const, ev_func, cV_int, cV_bool, cV_string, cV_nil, cV_ptr, keepE_cons, keepE_nil, aBin_int, aBin_bool, aBin_str, aBin_nil, aInt_add, aInt_sub, aInt_mul, aInt_eql, aInt_neq, aInt_lss, aInt_leq, aInt_gtr, aInt_geq, aBool_eql, aBool_neq, aUn_not, aUn_neg, aLen_lst, aLen_slice, aLen_str, aMax_int, aPick_bool, aExtract_tup, aNilCheck_rptr, aNilCheck_ptr, aLoad_rptr, aLoad_ptr, sLoad_some, aStore_ptr, sStore_some, aFieldAddr_rptr, sFieldR_some, aFieldAddr_ptr, sFieldP_some, aField_agg, sField_some, aIndexAddr_lst, sIndex_some, aIndexAddr_slice, sIndexM_some, aIndex_str, aAlloc_eq, sAlloc_some, aBuild_eq, sBuild_some, sBuild2_some, fillV_nil, fillV_cons, sFill_some, placeOf_eq, sPlace_some, aAppend_eq, sApp_nil, sAppN_f, sAppN_t, sApp_own, appOk, spl, aBuildSlice_eq, sBS_some, sBSk_ff, sBSk_ft, sBSk_t, inOrder, elsOk_nil, elsOk_cons, pow24, one_le_maxLen, two_le_maxLen, zero_le_maxLen, Option.map_some, List.mem_cons, true_or, implies_true, false_implies, true_implies, Nat.reduceLT, List.erase_cons_head, Nat.one_mul, untag_tagOf, untag_at, untag_rptr, untag_own, untag_ownf, untag_no, untag_nil, untag_agg, untag1_tagOf, untag1_at, untag1_own, untag1_no, untag1_nil, flat_one_at, flat_one_lst, flat_one_rptr, flat_one_agg, List.map_cons, List.map_nil, List.cons_append, List.nil_append, List.append_nil, and_self, beq_self_eq_true, fits, partOk, partV, allOne, V.isOne, V.isAgg, V.size, V.flat, sizes, List.all_cons, List.all_nil, List.length_cons, List.length_nil, List.drop_zero, List.drop_succ_cons, List.take_succ_cons, List.take_zero, List.take_nil, List.getD_cons_zero, List.getD_cons_succ, List.length_map, Bool.and_true, Bool.true_and, Bool.and_self, Option.isSome_some, if_true, if_false, and_true, true_and, Nat.reduceAdd, Nat.reduceEqDiff, Nat.reduceLeDiff, Nat.reduceMul, Nat.reduceSub, reduceIte, reduceCtorEq, Bool.false_eq_true, eq_self, Nat.zero_add, Nat.add_zero, Nat.lt_irrefl, Nat.le_refl, Nat.zero_lt_one, Nat.zero_le, Nat.lt_add_one, look_lay, look_wipe, sApp_box, sAppW_some, aAppend_at, sAppS_nil, sAppS_box, sAppS2_some, appOkB, aSlice_box_hi, sSliceB_some, aGuardD_some, aGuard_same, aGuard_tf, aGuard_ft, Option.map_none, flats, size_untag1, look_self, Env.get_put, aResultsR, Nat.reduceBEq, Bool.or_true, Bool.true_or, Bool.or_false, Bool.or_self, Nat.zero_mul, hasT3, aggT3, cells3, bytes3, zero3, hasT4, aggT4, cells4, bytes4, boolT4, zero4, hasT23, aggT23, cells23, bytes23, elT23, zero23, hasT25, aggT25, cells25, bytes25, structT25, fld25_0, fld25_1, fld25_2, zero25, hasT55, aggT55, cells55, bytes55, zero55, ks15, cV_zero, l1, l2, l3, hne1, hne1', hne2, hne2', hne3, hne3', m1, m1', z0, Nat.zero_mul, List.drop_nil, polF_wr, polF_own]
            refine ⟨⟨_, _, _, _, rfl, rfl, m1⟩, ?_⟩
            refine ⟨by simp [look_lay, m2, hne1, l2], by simp [look_lay, m3, hne2, l3], .inr ⟨b, cap, Nat.zero_lt_one, by simp [look_lay], by simp [look_lay, m1'], hcap, m1, m2, m3, rfl, by simpa using h1c⟩⟩
          · have hk' : k' ≠ kd := beq_eq_false_iff_ne.1 hk
            refine awp_skip ?_
            refine ⟨rfl, ?_⟩
            rw [hnn hk', hdd' hk']
            exact ⟨l2, l3, .inl ⟨rfl, rfl, l1⟩⟩
        · exact inv_of hbel.size (fun b h => wmF_new h) (fun _ => rfl) (look_consP (box_nil (by show w.heap.size ≤ _; omega) (wmF_out (.inl rfl)) hbv) (look_consP (box_at (l := [.int .i64 kd]) (by show w.heap.size ≤ _; omega) (wmF_out (.inr (.inl rfl))) hkd rfl rfl (by simp [one])) (look_consP (box_at (l := [.int .i64 k', .int .i64 a', sv']) (by show w.heap.size ≤ _; omega) (wmF_out (.inr (.inr (.inl rfl)))) hB4 rfl rfl (by simpa using h1c)) look_nilP)))
      · obtain ⟨r, cap, arr, el, rfl, hr0, hrbx, hrh, hncap, hrs, htk, hdl, hnp, hone⟩ := hrow
        have hrT : r ≠ w.heap.size + 1 := fun e => by
          subst e; rw [hkd] at hrh; injection hrh with hrh; injection hrh with e1; subst e1
          simp at hrs; omega
        have hrB : r ≠ B4 := fun e => by
          rw [hbv] at hbv'; injection hbv' with hbv'; injection hbv' with e1
          have e2 : bv' = .slice (some ⟨r, 0, none⟩) n cap := by simpa using e1.symm
          exact hB4r (by rw [e2, e]; rfl)
        have hrbx' : ¬ w.heap.size + 1 + 1 = r := fun e => hrbx e.symm
        have hrT' : ¬ w.heap.size + 1 = r := fun e => hrT e.symm
        have hrB' : ¬ B4 = r := fun e => hrB e.symm
        refine ⟨⟨[(w.heap.size + 1 + 1, [.at (.slice (some ⟨r, 0, none⟩) n cap)], 1), (w.heap.size + 1, [.at (.int .i64 kd)], 1), (B4, [.at (.int .i64 k'), .at (.int .i64 a'), .at sv'], 3), (r, ds.map V.at, cap * 3)], [], 0⟩, ?_, ?_⟩
        · generalize hst : (⟨[(w.heap.size + 1 + 1, [.at (.slice (some ⟨r, 0, none⟩) n cap)], 1), (w.heap.size + 1, [.at (.int .i64 kd)], 1), (B4, [.at (.int .i64 k'), .at (.int .i64 a'), .at sv'], 3), (r, ds.map V.at, cap * 3)], [], 0⟩ : S) = st
          have l1 : Go.Al.look st.box (w.heap.size + 1 + 1) = some ([.at (.slice (some ⟨r, 0, none⟩) n cap)], 1) := by rw [← hst]; simp [Go.Al.look]
          have l2 : Go.Al.look st.box (w.heap.size + 1) = some ([.at (.int .i64 kd)], 1) := by rw [← hst]; simp [Go.Al.look]
          have l3 : Go.Al.look st.box B4 = some ([.at (.int .i64 k'), .at (.int .i64 a'), .at sv'], 3) := by rw [← hst]; simp [Go.Al.look, hne2, hne3]
          have l4 : Go.Al.look st.box r = some (ds.map V.at, cap * 3) := by rw [← hst]; simp [Go.Al.look, hrbx', hrT', hrB']
          clear hst
          (repeat (first | (refine awp_seq ?_) | (refine awp_skip ?_; simp -failIfUnchanged only [thenE_normal, blockE_normal]) | (refine awp_ret ?_; simp -failIfUnchanged only [thenE_ret, blockE_ret, retE_ret, retER_ret]) | (refine awp_exit ?_; simp -failIfUnchanged only [thenE_exit, blockE_exit, thenE_normal, blockE_normal, reduceIte]) | (refine awp_block ?_) | ((first | (refine awp_reg polF ks15F _ rfl rfl ?_) | (refine awp_draw polF mixed ks15F _ rfl rfl (by kernel_rfl) (by kernel_rfl) ?_)); simp only [↓AL_guardD, ↓AL_nil, ↓AL_move, ↓AL_assign, ↓AL_pick, ↓AL_bin, ↓AL_un, ↓AL_extract, ↓AL_field, ↓AL_fieldAddr, ↓AL_indexAddr, ↓AL_index, ↓AL_load, ↓AL_store, ↓AL_alloc, ↓AL_box, ↓AL_build, ↓AL_buildSlice, ↓AL_nilCheck, ↓AL_slice, ↓AL_len, ↓AL_max, ↓AL_append, thenE_normal, thenE_exit, thenE_ret, thenE_panic, blockE_normal, blockE_exit, blockE_ret, blockE_panic, putO_some, putO_none, get_cons, get_nil, ev_tmp, ev_const, ev_func, cV_int, cV_bool, cV_string, cV_nil, cV_ptr, keepE_cons, keepE_nil, aBin_int, aBin_bool, aBin_str, aBin_nil, aInt_add, aInt_sub, aInt_mul, aInt_eql, aInt_neq, aInt_lss, aInt_leq, aInt_gtr, aInt_geq, aBool_eql, aBool_neq, aUn_not, aUn_neg, aLen_lst, aLen_slice, aLen_str, aMax_int, aPick_bool, aExtract_tup, aNilCheck_rptr, aNilCheck_ptr, aLoad_rptr, aLoad_ptr, sLoad_some, aStore_ptr, sStore_some, aFieldAddr_rptr, sFieldR_some, aFieldAddr_ptr, sFieldP_some, aField_agg, sField_some, aIndexAddr_lst, sIndex_some, aIndexAddr_slice, sIndexM_some, aIndex_str, aAlloc_eq, sAlloc_some, aBuild_eq, sBuild_some, sBuild2_some, fillV_nil, fillV_cons, sFill_some, placeOf_eq, sPlace_some, aAppend_eq, sApp_nil, sAppN_f, sAppN_t, sApp_own, appOk, spl, aBuildSlice_eq, sBS_some, sBSk_ff, sBSk_ft, sBSk_t, inOrder, elsOk_nil, elsOk_cons, pow24, one_le_maxLen, two_le_maxLen, zero_le_maxLen, Option.map_some, List.mem_cons, true_or, implies_true, false_implies, true_implies, Nat.reduceLT, List.erase_cons_head, Nat.one_mul, untag_tagOf, untag_at, untag_rptr, untag_own, untag_ownf, untag_no, untag_nil, untag_agg, untag1_tagOf, untag1_at, untag1_own, untag1_no, untag1_nil, flat_one_at, flat_one_lst, flat_one_rptr, flat_one_agg, List.map_cons, List.map_nil, List.cons_append, List.nil_append, List.append_nil, and_self, beq_self_eq_true, fits, partOk, partV, allOne, V.isOne, V.isAgg, V.size, V.flat, sizes, List.all_cons, List.all_nil, List.length_cons, List.length_nil, List.drop_zero, List.drop_succ_cons, List.take_succ_cons, List.take_zero, List.take_nil, List.getD_cons_zero, List.getD_cons_succ, List.length_map, Bool.and_true, Bool.true_and, Bool.and_self, Option.isSome_some, if_true, if_false, and_true, true_and, Nat.reduceAdd, Nat.reduceEqDiff, Nat.reduceLeDiff, Nat.reduceMul, Nat.reduceSub, reduceIte, reduceCtorEq, Bool.false_eq_true, eq_self, Nat.zero_add, Nat.add_zero, Nat.lt_irrefl, Nat.le_refl, Nat.zero_lt_one, Nat.zero_le, Nat.lt_add_one, look_lay, look_wipe, sApp_box, sAppW_some, aAppend_at, sAppS_nil, sAppS_box, sAppS2_some, appOkB, aSlice_box_hi, sSliceB_some, aGuardD_some, aGuard_same, aGuard_tf, aGuard_ft, Option.map_none, flats, size_untag1, look_self, Env.get_put, aResultsR, Nat.reduceBEq, Bool.or_true, Bool.true_or, Bool.or_false, Bool.or_self, Nat.zero_mul, hasT3, aggT3, cells3, bytes3, zero3, hasT4, aggT4, cells4, bytes4, boolT4, zero4, hasT23, aggT23, cells23, bytes23, elT23, zero23, hasT25, aggT25, cells25, bytes25, structT25, fld25_0, fld25_1, fld25_2, zero25, hasT55, aggT55, cells55, bytes55, zero55, ks15F, aBinI_int, l1, l2, l3, l4, polF_wr, polF_own])))
          refine awp_cond rfl (fun hk => ?_) (fun hk => ?_)
          · obtain rfl : k' = kd := eq_of_beq hk
            obtain ⟨rfl, rfl⟩ := hnd rfl
            refine awp_draw2 polF mixed ks15F (.tmp 19) (.tmp 5) _ rfl rfl (by kernel_rfl) (by kernel_rfl) (by decide) ⟨_, _, _, _, _, _, _, _, _, _, rfl, rfl⟩ ?_
            simp only [↓AL_guardD, ↓AL_nil, ↓AL_move, ↓AL_assign, ↓AL_pick, ↓AL_bin, ↓AL_un, ↓AL_extract, ↓AL_field, ↓AL_fieldAddr, ↓AL_indexAddr, ↓AL_index, ↓AL_load, ↓AL_store, ↓AL_alloc, ↓AL_box, ↓AL_build, ↓AL_buildSlice, ↓AL_nilCheck, ↓AL_slice, ↓AL_len, ↓AL_max, ↓AL_append, thenE_normal, thenE_exit, thenE_ret, thenE_panic, blockE_normal, blockE_exit, blockE_ret, blockE_panic, putO_some, putO_none, get_cons, get_nil, ev_tmp, ev_const, ev_func, cV_int, cV_bool, cV_string, cV_nil, cV_ptr, keepE_cons, keepE_nil, aBin_int, aBin_bool, aBin_str, aBin_nil, aInt_add, aInt_sub, aInt_mul, aInt_eql, aInt_neq, aInt_lss, aInt_leq, aInt_gtr, aInt_geq, aBool_eql, aBool_neq, aUn_not, aUn_neg, aLen_lst, aLen_slice, aLen_str, aMax_int, aPick_bool, aExtract_tup, aNilCheck_rptr, aNilCheck_ptr, aLoad_rptr, aLoad_ptr, sLoad_some, aStore_ptr, sStore_some, aFieldAddr_rptr, sFieldR_some, aFieldAddr_ptr, sFieldP_some, aField_agg, sField_some, aIndexAddr_lst, sIndex_some, aIndexAddr_slice, sIndexM_some, aIndex_str, aAlloc_eq, sAlloc_some, aBuild_eq, sBuild_some, sBuild2_some, fillV_nil, fillV_cons, sFill_some, placeOf_eq, sPlace_some, aAppend_eq, sApp_nil, sAppN_f, sAppN_t, sApp_own, appOk, spl, aBuildSlice_eq, sBS_some, sBSk_ff, sBSk_ft, sBSk_t, inOrder, elsOk_nil, elsOk_cons, pow24, one_le_maxLen, two_le_maxLen, zero_le_maxLen, Option.map_some, List.mem_cons, true_or, implies_true, false_implies, true_implies, Nat.reduceLT, List.erase_cons_head, Nat.one_mul, untag_tagOf, untag_at, untag_rptr, untag_own, untag_ownf, untag_no, untag_nil, untag_agg, untag1_tagOf, untag1_at, untag1_own, untag1_no, untag1_nil, flat_one_at, flat_one_lst, flat_one_rptr, flat_one_agg, List.map_cons, List.map_nil, List.cons_append, List.nil_append, List.append_nil, and_self, beq_self_eq_true, fits, partOk, partV, allOne, V.isOne, V.isAgg, V.size, V.flat, sizes, List.all_cons, List.all_nil, List.length_cons, List.length_nil, List.drop_zero, List.drop_succ_cons, List.take_succ_cons, List.take_zero, List.take_nil, List.getD_cons_zero, List.getD_cons_succ, List.length_map, Bool.and_true, Bool.true_and, Bool.and_self, Option.isSome_some, if_true, if_false, and_true, true_and, Nat.reduceAdd, Nat.reduceEqDiff, Nat.reduceLeDiff, Nat.reduceMul, Nat.reduceSub, reduceIte, reduceCtorEq, Bool.false_eq_true, eq_self, Nat.zero_add, Nat.add_zero, Nat.lt_irrefl, Nat.le_refl, Nat.zero_lt_one, Nat.zero_le, Nat.lt_add_one, look_lay, look_wipe, sApp_box, sAppW_some, aAppend_at, sAppS_nil, sAppS_box, sAppS2_some, appOkB, aSlice_box_hi, sSliceB_some, aGuardD_some, aGuard_same, aGuard_tf, aGuard_ft, Option.map_none, flats, size_untag1, look_self, Env.get_put, aResultsR, Nat.reduceBEq, Bool.or_true, Bool.true_or, Bool.or_false, Bool.or_self, Nat.zero_mul, hasT3, aggT3, cells3, bytes3, zero3, hasT4, aggT4, cells4, bytes4, boolT4, zero4, hasT23, aggT23, cells23, bytes23, elT23, zero23, hasT25, aggT25, cells25, bytes25, structT25, fld25_0, fld25_1, fld25_2, zero25, hasT55, aggT55, cells55, bytes55, zero55, ks15, ks15F, aBinI_int, cV_zero, l1, l2, l3, l4, hne1, hne1', hne2, hne2', hne3, hne3', hrbx, hrbx', hrT, hrT', hrB, hrB', polF_wr, polF_own]
            refine ⟨⟨by omega, by simp only [maxLen]; omega⟩, hncap, by omega, fun b cap2 hb hcap => ⟨⟨by omega, by omega⟩, by simp [hdl], ?_⟩⟩
            have m1 : ¬ b = w.heap.size + 1 + 1 := fun e => by rw [e, if_neg hrbx, l1] at hb; cases hb
            have m1' : ¬ w.heap.size + 1 + 1 = b := fun e => m1 e.symm
            have m2 : ¬ b = w.heap.size + 1 := fun e => by rw [e, if_neg hrT, l2] at hb; cases hb
            have m3 : ¬ b = B4 := fun e => by rw [e, if_neg hrB, l3] at hb; cases hb
            have hcell := row_cells ds n hdl [V.at (.int .i64 0), V.at (.int .i64 0), V.lst Tag.nil []] [.int .i64 k', .int .i64 a', sv'] rfl
            simp only [↓AL_guardD, ↓AL_nil, ↓AL_move, ↓AL_assign, ↓AL_pick, ↓AL_bin, ↓AL_un, ↓AL_extract, ↓AL_field, ↓AL_fieldAddr, ↓AL_indexAddr, ↓AL_index, ↓AL_load, ↓AL_store, ↓AL_alloc, ↓AL_box, ↓AL_build, ↓AL_buildSlice, ↓AL_nilCheck, ↓AL_slice, ↓AL_len, ↓AL_max, ↓AL_append, thenE_normal, thenE_exit, thenE_ret, thenE_panic, blockE_normal, blockE_exit, blockE_ret, blockE_panic, putO_some, putO_none, get_cons, get_nil, ev_tmp, ev_const, ev_func, cV_int, cV_bool, cV_string, cV_nil, cV_ptr, keepE_cons, keepE_nil, aBin_int, aBin_bool, aBin_str, aBin_nil, aInt_add, aInt_sub, aInt_mul, aInt_eql, aInt_neq, aInt_lss, aInt_leq, aInt_gtr, aInt_geq, aBool_eql, aBool_neq, aUn_not, aUn_neg, aLen_lst, aLen_slice, aLen_str, aMax_int, aPick_bool, aExtract_tup, aNilCheck_rptr, aNilCheck_ptr, aLoad_rptr, aLoad_ptr, sLoad_some, aStore_ptr, sStore_some, aFieldAddr_rptr, sFieldR_some, aFieldAddr_ptr, sFieldP_some, aField_agg, sField_some, aIndexAddr_lst, sIndex_some, aIndexAddr_slice, sIndexM_some, aIndex_str, aAlloc_eq, sAlloc_some, aBuild_eq, sBuild_some, sBuild2_some, fillV_nil, fillV_cons, sFill_some, placeOf_eq, sPlace_some, aAppend_eq, sApp_nil, sAppN_f, sAppN_t, sApp_own, appOk, spl, aBuildSlice_eq, sBS_some, sBSk_ff, sBSk_ft, sBSk_t, inOrder, elsOk_nil, elsOk_cons, pow24, one_le_maxLen, two_le_maxLen, zero_le_maxLen, Option.map_some, List.mem_cons, true_or, implies_true, false_implies, true_implies, Nat.reduceLT, List.erase_cons_head, Nat.one_mul, untag_tagOf, untag_at, untag_rptr, untag_own, untag_ownf, untag_no, untag_nil, untag_agg, untag1_tagOf, untag1_at, untag1_own, untag1_no, untag1_nil, flat_one_at, flat_one_lst, flat_one_rptr, flat_one_agg, List.map_cons, List.map_nil, List.cons_append, List.nil_append, List.append_nil, and_self, beq_self_eq_true, fits, partOk, partV, allOne, V.isOne, V.isAgg, V.size, V.flat, sizes, List.all_cons, List.all_nil, List.length_cons, List.length_nil, List.drop_zero, List.drop_succ_cons, List.take_succ_cons, List.take_zero, List.take_nil, List.getD_cons_zero, List.getD_cons_succ, List.length_map, Bool.and_true, Bool.true_and, Bool.and_self, Option.isSome_some, if_true, if_false, and_true, true_and, Nat.reduceAdd, Nat.reduceEqDiff, Nat.reduceLeDiff, Nat.reduceMul, Nat.reduceSub, reduceIte, reduceCtorEq, Bool.false_eq_true, eq_self, Nat.zero_add, Nat.add_zero, Nat.lt_irrefl, Nat.le_refl, Nat.zero_lt_one, Nat.zero_le, Nat.lt_add_one, look_lay, look_wipe, sApp_box, sAppW_some, aAppend_at, sAppS_nil, sAppS_box, sAppS2_some, appOkB, aSlice_box_hi, sSliceB_some, aGuardD_some, aGuard_same, aGuard_tf, aGuard_ft, Option.map_none, flats, size_untag1, look_self, Env.get_put, aResultsR, Nat.reduceBEq, Bool.or_true, Bool.true_or, Bool.or_false, Bool.or_self, Nat.zero_mul, hasT3, aggT3, cells3, bytes3, zero3, hasT4, aggT4, cells4, bytes4, boolT4, zero4, hasT23, aggT23, cells23, bytes23, elT23, zero23, hasT25, aggT25, cells25, bytes25, structT25, fld25_0, fld25_1, fld25_2, zero25, hasT55, aggT55, cells55, bytes55, zero55, ks15, cV_zero, l1, l2, l3, l4, hne1, hne1', hne2, hne2', hne3, hne3', hrbx, hrbx', hrT, hrT', hrB, hrB', m1, m1', Int.toNat_natCast, polF_wr, polF_own]
            simp only [List.map_cons, List.map_nil] at hcell
            rw [hcell]
            refine ⟨⟨_, _, _, _, rfl, rfl, m1⟩, ?_⟩
            refine ⟨by simp [look_lay, look_wipe, m2, hne1, hrT, l2], by simp [look_lay, look_wipe, m3, hne2, hrB, l3], .inr ⟨b, cap2, Nat.succ_pos _, by simp [look_lay], by simp [look_lay, m1'], hcap, m1, m2, m3, by simp [hdl]; omega, fun d hd => ?_⟩⟩
            rcases List.mem_append.1 hd with hd | hd
            · exact hone d hd
            · simp only [List.mem_cons, List.not_mem_nil, or_false] at hd
              rcases hd with e | e | e
              · rw [e]; rfl
              · rw [e]; rfl
              · rw [e]; exact h1c.2.2
          · have hk' : k' ≠ kd := beq_eq_false_iff_ne.1 hk
            refine awp_skip ?_
            refine ⟨rfl, ?_⟩
            rw [hnn hk', hdd' hk']
            exact ⟨l2, l3, .inr ⟨r, cap, hnp, l1, l4, hncap, hrbx, hrT, hrB, hdl, hone⟩⟩
        · exact inv_of hbel.size (fun b h => wmF_new h) (fun _ => rfl) (look_consP (box_at (l := [.slice (some ⟨r, 0, none⟩) n cap]) (by show w.heap.size ≤ _; omega) (wmF_out (.inl rfl)) hbv rfl rfl (by simp [one])) (look_consP (box_at (l := [.int .i64 kd]) (by show w.heap.size ≤ _; omega) (wmF_out (.inr (.inl rfl))) hkd rfl rfl (by simp [one])) (look_consP (box_at (l := [.int .i64 k', .int .i64 a', sv']) (by show w.heap.size ≤ _; omega) (wmF_out (.inr (.inr (.inl rfl)))) hB4 rfl rfl (by simpa using h1c)) (look_consP (box_at (l := ds) hr0 (wmF_out (.inr (.inr (.inr rfl)))) hrh hrs (by rw [hdl]; exact htk) hone) look_nilP))))
  case stop =>
    rintro D c pre W _ _ h _
    exact h.elim
  case done =>
    rintro D ys W hD hys ⟨⟨bv, ⟨tb, hbv⟩, hrow, hbel⟩, tk, hkd⟩ hK
    have cb : W.cell? ⟨w.heap.size + 1 + 1, 0, none⟩ = some bv := by simp [World.cell?, hbv]
    gi_wp2
    refine ⟨by simp, .inl ⟨_, _, rfl, run_takeDeferred hK, ?_⟩⟩
    have hgD := grownBy_putObj' W D (.deferred none)
    have hlv : lvF kd ys = (allT (.mk k a ks)).filter (fun t => t.kind == kd) := by rw [lvF_eq]; exact congrArg _ hys
    have hrc := dsF_rc kd ys
    have hrow' : Row (W.putObj D (.deferred none)) w.heap.size (w.heap.size + 1 + 1) bv (lvF kd ys).length (dsF kd ys) := hrow.kept fun b e => by
      obtain ⟨_, _, cap, arr, el, _, h2⟩ := hrow.own e
      exact (grown_cells hgD (fun r e => by injection e with e; subst e; exact ⟨_, hK, rfl⟩) h2).trans h2.symm
    refine ⟨_, results_tmp rfl _ _ _, bv, dsF kd ys, rfl, ?_⟩
    rw [← hlv]
    exact ⟨hrow', hrc, hbel.grown hgD hbel.size (fun k e => by injection e with e; omega)⟩
end Go.Proofs.YtegibhjgldpndaaDoor
