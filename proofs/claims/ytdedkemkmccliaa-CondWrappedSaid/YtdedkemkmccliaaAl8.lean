/-
  AL, part 8: literals, append, slices of slices, calls; every operation is sound. General: no program in sight.
-/
import Derived.Test.YtdedkemkmccliaaAl7
set_option linter.unusedVariables false
set_option linter.unusedSimpArgs false
namespace Go.Al
open Go.RowKit

section
variable {P : Program} {X : Cx} {g : Gh} {w : World} {a : Act} {o : Oper} {st : S} {K : V → S → Prop} {KP : List PanicEntry → S → Prop}

theorem mapM_all {α β : Type} (f : α → Option β) (h : α → β) : ∀ (l : List α), (∀ x ∈ l, f x = some (h x)) → l.mapM f = some (l.map h)
  | [], _ => rfl
  | x :: r, hx => by
    simp only [List.mapM_cons, hx x (by simp), mapM_all f h r fun y hy => hx y (by simp [hy])]
    rfl

theorem aBuild_spec {t : TypeId} {ps : List (Nat × V)} {qs : List (Nat × Value)} {K : V → Prop} (h : aBuild P t ps K) (hp : Parts g w ps qs) :
    ∃ v u, K v ∧ RV g w v u ∧ (Instr.build t qs.toArray).run P w = .ok u w := by
  obtain ⟨h1, h⟩ := h
  split at h
  · rename_i cs hz
    split at h
    · rename_i cs' hf
      obtain ⟨z, hz', hr, hl⟩ := zeroC_spec (g := g) (w := w) hz
      obtain ⟨i, hi1, hi2⟩ := zeroOf_info hz'
      have hone : allOne cs := by
        unfold zeroC at hz
        rw [hz'] at hz
        simp only [Option.bind_some] at hz
        split at hz
        · rename_i ho
          injection hz with hz
          subst hz
          unfold allOne
          rw [List.all_eq_true]
          intro c hc
          obtain ⟨v, hv, rfl⟩ := List.mem_map.1 hc
          have := List.all_eq_true.1 ho v hv
          cases v <;> simp [one] at this <;> first | rfl | (unfold cV1; split <;> first | rfl | simp_all)
        · cases hz
      obtain ⟨us', q1, q2, q3⟩ := fillV_spec hp hone hr hf
      refine ⟨_, .agg us'.toArray, h, RV_agg_mk q2, ?_⟩
      refine run_build w t qs.toArray us'.toArray ?_
      unfold isStructT at h1
      split at h1
      · rename_i fds hu
        have hm : fds.toList.mapM (fun f => (P.info? f.type).map fun i => (f.offset, i.size)) = some (fds.toList.map fun f => (f.offset, P.cellsOf f.type)) :=
          mapM_all _ _ _ fun f hf => by
            obtain ⟨j, hj, hs, _⟩ := hasT_info (List.all_eq_true.1 h1 f hf)
            simp [hj, hs]
        unfold Program.built
        simp only [hi1, hu, hi2, hm]
        have hpl : (fun i => (fds.toList.map fun f => (f.offset, P.cellsOf f.type)).toArray[i]?) = placeOf P t := by
          funext j
          unfold placeOf fieldAt
          simp only [hu]
          cases hj : fds[j]? with
          | none => simp [hj]
          | some f =>
            have hfm : hasT P f.type = true := List.all_eq_true.1 h1 f (by simpa using Array.mem_of_getElem? hj)
            simp [hj, hfm]
        rw [hpl]
        simpa using q1
      · cases h1
    · cases h
  · cases h

theorem RV_cells {x : V} {u : Value} (h : RV g w x u) (h1 : allOne x.flat) : ∃ us, RC g w x us ∧ u.cells = us.toArray ∧ u = pack x us := by
  cases x with
  | any => simp [V.flat, allOne, V.isOne] at h1
  | tup vs => simp [V.flat, allOne, V.isOne] at h1
  | agg fs =>
    obtain ⟨us, h2, rfl⟩ := RV_agg h
    exact ⟨us, by simp only [RC]; exact h2, rfl, rfl⟩
  | _ =>
    obtain ⟨us, h2, h3⟩ := h
    obtain ⟨v, rfl⟩ := RC_single h2 rfl
    refine ⟨[v], h2, ?_, h3⟩
    have hv := RC_ones g w _ _ h2 v (by simp)
    have : u = v := h3
    subst this
    cases u <;> simp [Value.oneCell'] at hv <;> rfl

/-- A slice literal's cells. -/
theorem parts_raw : ∀ {ps : List (Nat × V)} {qs : List (Nat × Value)} (_ : Parts g w ps qs) (_ : ∀ p ∈ ps, allOne p.2.flat) {sz : Nat} (_ : elsOk sz (ps.map (·.2))) (k : Nat) (_ : inOrder k ps = true),
    ∃ us, RCs g w (ps.map (·.2)) us ∧ us.length = ps.length * sz ∧ 
      ∀ (cells : Array Value), k * sz + us.length ≤ cells.size → 
        Instr.fill (fun i => some (i * sz, sz)) cells qs = some (cells.toList.take (k * sz) ++ us ++ cells.toList.drop (k * sz + us.length)).toArray := by
  intro ps qs hp
  induction hp with
  | nil =>
    intro _ sz _ k _
    refine ⟨[], by simp [RCs], by simp, fun cells _ => ?_⟩
    simp [Instr.fill]
  | @cons i x u ps qs h hs ih =>
    intro h1 sz h2 k hk
    simp only [inOrder, Bool.and_eq_true, beq_iff_eq] at hk
    obtain ⟨rfl, hk⟩ := hk
    obtain ⟨us, q1, q2, q3⟩ := ih (fun p hp => h1 p (by simp [hp])) (fun y hy => h2 y (by simp only [List.map_cons, List.mem_cons]; exact .inr hy)) (i + 1) hk
    obtain ⟨vs, r1, r2, r3⟩ := RV_cells h (h1 (i, x) (by simp))
    have hvl : vs.length = sz := by
      rw [RC_length _ _ _ _ r1]
      exact h2 _ (by simp)
    refine ⟨vs ++ us, ?_, ?_, fun cells hc => ?_⟩
    · simp only [List.map_cons, RCs]; exact ⟨vs, us, rfl, r1, q1⟩
    · simp only [List.length_append, List.length_cons, q2, hvl, Nat.add_mul, Nat.one_mul]; omega
    · simp only [List.length_append] at hc ⊢
      simp only [Instr.fill, r2]
      have hb : (decide (vs.toArray.size ≠ sz) || decide (i * sz + vs.toArray.size > cells.size)) = false := by simp; omega
      simp only [hb, Bool.false_eq_true, if_false]
      have hz := zipIdx_foldl_set vs (i * sz) 0 cells (by omega)
      simp only [Nat.add_zero] at hz
      have hzz : (List.foldl (fun cs x => cs.setIfInBounds (i * sz + x.snd) x.fst) cells (vs.zipIdx 0)).size = cells.size := by
        rw [← Array.length_toList, hz]; simp; omega
      have := q3 ((vs.toArray.zipIdx 0).foldl (fun cs (c, j) => cs.setIfInBounds (i * sz + j) c) cells) (by simp [hzz]; rw [Nat.add_mul]; omega)
      rw [this]
      congr 2
      have hz' : ((vs.toArray.zipIdx 0).foldl (fun cs (c, j) => cs.setIfInBounds (i * sz + j) c) cells).toList = cells.toList.take (i * sz) ++ vs ++ cells.toList.drop (i * sz + vs.length) := by
        rw [← hz]; simp
      rw [hz', Nat.add_mul, Nat.one_mul]
      apply List.ext_getElem?
      intro j
      simp only [List.getElem?_append, List.length_append, List.length_take, List.getElem?_take, List.getElem?_drop, Array.length_toList]
      have m1 : min (i * sz) cells.size = i * sz := by omega
      simp only [m1, hvl]
      have m2 : min (i * sz + sz) (i * sz + sz + (cells.size - (i * sz + sz))) = i * sz + sz := by omega
      simp only [List.length_drop, Array.length_toList, m2]
      by_cases j1 : j < i * sz
      · simp [j1, show j < i * sz + sz by omega, show j < i * sz + sz + us.length by omega, show j < i * sz + (sz + us.length) by omega]
      · by_cases j2 : j < i * sz + sz
        · simp [j1, j2, show j < i * sz + sz + us.length by omega, show j < i * sz + (sz + us.length) by omega, show j - i * sz < sz by omega]
        · by_cases j3 : j < i * sz + sz + us.length
          · simp [j1, j2, j3, show j < i * sz + (sz + us.length) by omega, show ¬ (j - i * sz < sz) by omega]
            congr 1; omega
          · simp [j1, j2, j3, show ¬ (j < i * sz + (sz + us.length)) by omega, show ¬ (i * sz + sz + us.length + (j - (i * sz + sz + us.length)) < i * sz) by omega, show ¬ (i * sz + sz + us.length + (j - (i * sz + sz + us.length)) < i * sz + sz) by omega]
            congr 1; omega


theorem size_untag1 (x : V) : (untag1 x).size = x.size := by
  cases x with
  | lst tg es => cases tg <;> rfl
  | _ => rfl
theorem sizes_untag1 : ∀ xs : List V, sizes (xs.map untag1) = sizes xs
  | [] => rfl
  | x :: xs => by simp [sizes, size_untag1, sizes_untag1 xs]
theorem size_untag (x : V) : x.untag.size = x.size := by
  cases x with
  | agg fs => simp only [V.untag, V.size]; exact sizes_untag1 fs
  | lst tg es => exact size_untag1 (.lst tg es)
  | any => rfl

  | _ => rfl

theorem RCs_untag_bare : ∀ {xs : List V} {us : List Value}, RCs g w xs us → (∀ x ∈ xs, allOne x.flat) → RCs g.bare w (xs.map V.untag) us
  | [], us, h, _ => h
  | x :: xs, us, h, h1 => by
    simp only [RCs, List.map_cons] at h ⊢
    obtain ⟨u1, u2, rfl, h2, h3⟩ := h
    exact ⟨u1, u2, rfl, RC_untag_bare h2 (h1 x (by simp)), RCs_untag_bare h3 fun y hy => h1 y (by simp [hy])⟩

end
end Go.Al
