/-
  AL, part 17: operations may change places; A REGION WHOSE ORDER IS DRAWN. General: no program in sight.
-/
import Derived.Test.YtdedkemkmccliaaAl16
set_option linter.unusedVariables false
set_option linter.unusedSimpArgs false
namespace Go.Al
open Go.RowKit

section
variable {P : Program} {L : Pol} {X : Cx} {e : Env} {st : S} {KP : List PanicEntry → S → Prop}

theorem tag_spec {o : Oper} (hc : cls L o = 4) {K : V → S → Prop} (h : aop P L e st o K KP) : ∃ v st', st'.box = st.box ∧ K v st' ∧ ∀ K' KP', K' v st' → aop P L e st o K' KP' := by
  obtain ⟨dst, op, ty, pos, af, gd⟩ := o
  cases op <;> simp only [cls] at hc <;> try (first | omega | (split at hc <;> omega))
  case buildSlice t n ps =>
    split at hc
    · omega
    · rename_i h1
      split at hc
      · rename_i h2
        simp only [aop] at h ⊢
        unfold aBuildSlice at h ⊢
        split at h
        · cases h
        · obtain ⟨q1, q2, q3, q4, q5, q6, q7, q8, q9, q10⟩ := h
          rw [if_neg h1, if_pos h2] at q10
          exact ⟨_, ⟨st.box, st.nx :: st.tg, st.nx + 1⟩, rfl, q10, fun K' _ k => ⟨q1, q2, q3, q4, q5, q6, q7, q8, q9, by rw [if_neg h1, if_pos h2]; exact k⟩⟩
      · omega
  case call c =>
    obtain ⟨callee, args, ts⟩ := c
    cases callee with
    | invoke r m => simp at hc
    | value f => cases f <;> simp only at hc <;> first | omega | (split at hc <;> omega)
    | builtin b =>
      simp only [aop] at h hc ⊢
      unfold aBuiltin at h ⊢
      split at h
      · simp only at hc; omega
      · simp only at hc; omega
      · simp only at hc ⊢
        split at hc
        · omega
        · rename_i h1
          unfold aAppend at h ⊢
          split at h
          · obtain ⟨q1, q2, q3, q4, q5, q6⟩ := h
            split at q6
            · obtain ⟨r1, r2, r3⟩ := q6
              rw [if_neg h1] at r3
              exact ⟨_, ⟨st.box, st.nx :: st.tg, st.nx + 1⟩, rfl, r3, fun K' _ k => ⟨q1, q2, q3, q4, q5, r1, r2, by rw [if_neg h1]; exact k⟩⟩
            · obtain ⟨r1, r2, r3, r4, r5⟩ := q6
              exact ⟨_, ⟨st.box, st.nx :: st.tg.erase _, st.nx + 1⟩, rfl, r5, fun K' _ k => ⟨q1, q2, q3, q4, q5, r1, r2, r3, r4, k⟩⟩
            · split at q6
              · exact absurd q6.1 h1
              · cases q6
            · cases q6
          · exact absurd h.2.2.2.2.1 h1
          · cases h
      · cases h

theorem fnC_mono {f : FuncId} {args : List V} {Q Q' : Outc → S → Prop} (h : FnC P f args st Q) (hq : ∀ o s, Q o s → Q' o s) : FnC P f args st Q' := by
  intro B g w vs hi hv
  refine (h B g w vs hi hv).mono ?_
  rintro en w' ⟨g', st', h1, h2, h3⟩
  refine ⟨g', st', h1, h2, ?_⟩
  cases en with
  | returned v => obtain ⟨r, h4, h5⟩ := h3; exact ⟨r, h4, hq _ _ h5⟩
  | panicked c => exact hq _ _ h3
  | outgrown => exact h3

theorem aNew_mono {cs : List V} {K K' : V → S → Prop} (h : aNew st cs K) (hk : ∀ v s, K v s → K' v s) : aNew st cs K' := ⟨h.1, fun b hb => hk _ _ (h.2 b hb)⟩

theorem aAppend_mono {dst : Option Nat} {t t2 : TypeId} {s x : V} {K K' : V → S → Prop} (h : aAppend P L dst st t t2 s x K) (hk : ∀ v s, K v s → K' v s) : aAppend P L dst st t t2 s x K' := by
  unfold aAppend at *
  split at h
  · obtain ⟨q1, q2, q3, q4, q5, q6⟩ := h
    refine ⟨q1, q2, q3, q4, q5, ?_⟩
    split at q6
    · obtain ⟨r1, r2, r3⟩ := q6
      refine ⟨r1, r2, ?_⟩
      split at r3
      · rename_i hw
        rw [if_pos hw]
        exact ⟨r3.1, r3.2.1, fun b cap hb hc => hk _ _ (r3.2.2 b cap hb hc)⟩
      · rename_i hw
        rw [if_neg hw]
        exact hk _ _ r3
    · obtain ⟨r1, r2, r3, r4, r5⟩ := q6
      exact ⟨r1, r2, r3, r4, hk _ _ r5⟩
    · split at q6
      · obtain ⟨r0, r1, r2, r3, r4, r5, r6, r7⟩ := q6
        exact ⟨r0, r1, r2, r3, r4, r5, r6, fun b cap hb hc => hk _ _ (r7 b cap hb hc)⟩
      · cases q6
    · cases q6
  · obtain ⟨q1, q2, q3, q4, q5, q6⟩ := h
    refine ⟨q1, q2, q3, q4, q5, ?_⟩
    split at q6
    · cases q6
    · obtain ⟨q6, q7⟩ := q6
      refine ⟨q6, ?_⟩
      split at q7
      · obtain ⟨r1, r2, r3, r4⟩ := q7
        exact ⟨r1, r2, r3, fun b cap hb hc => hk _ _ (r4 b cap hb hc)⟩
      · split at q7
        · obtain ⟨r1, r2, r3, r4, r5, r7⟩ := q7
          exact ⟨r1, r2, r3, r4, r5, fun b cap hb hc => hk _ _ (r7 b cap hb hc)⟩
        · cases q7
      · cases q7
  · cases h

theorem aBuildSlice_mono {dst : Option Nat} {t : TypeId} {n : Nat} {ps : List (Nat × V)} {K K' : V → S → Prop} (h : aBuildSlice P L dst st t n ps K) (hk : ∀ v s, K v s → K' v s) : aBuildSlice P L dst st t n ps K' := by
  unfold aBuildSlice at *
  split at h
  · cases h
  · obtain ⟨q1, q2, q3, q4, q5, q6, q7, q8, q9, q10⟩ := h
    refine ⟨q1, q2, q3, q4, q5, q6, q7, q8, q9, ?_⟩
    split at q10
    · rename_i h1
      rw [if_pos h1]
      exact ⟨q10.1, fun b hb => hk _ _ (q10.2 b hb)⟩
    · rename_i h1
      rw [if_neg h1]
      split at q10
      · rename_i h2; rw [if_pos h2]; exact hk _ _ q10
      · rename_i h2; rw [if_neg h2]; exact hk _ _ q10

theorem aop_mono {o : Oper} {K K' : V → S → Prop} (h : aop P L e st o K KP) (hk : ∀ v s, K v s → K' v s) : aop P L e st o K' KP := by
  by_cases hc : cls L o ≤ 2
  · obtain ⟨v, h1, h2⟩ := low_spec hc h
    exact h2 st K' KP (hk _ _ h1)
  · obtain ⟨dst, op, ty, pos, af, gd⟩ := o
    cases op <;> simp only [cls] at hc <;> try (first | omega | (split at hc <;> omega))
    case load t x => obtain ⟨v, h1, h2⟩ := load_spec (o := ⟨dst, .load t x, ty, pos, af, gd⟩) rfl h; exact h2 st K' KP (More.of_eq rfl) (hk _ _ h1)
    case store t x y =>
      simp only [aop] at h ⊢
      unfold aStore at *
      split at h
      · split at h
        · obtain ⟨q1, q2, q3, q4, q5⟩ := h; exact ⟨q1, q2, q3, q4, hk _ _ q5⟩
        · cases h
      · cases h
    case alloc t =>
      simp only [aop] at h ⊢
      unfold aAlloc at *
      split at h
      · exact aNew_mono h hk
      · cases h
    case box t x => exact aNew_mono h hk
    case buildSlice t n ps => exact aBuildSlice_mono h hk
    case call c =>
      simp only [aop] at h ⊢
      split at h
      · unfold aCall at *
        split at h
        · obtain ⟨q1, q2, q3, q4⟩ := h
          refine ⟨q1, q2, q3, ?_⟩
          split at q4
          · rename_i hp; rw [if_pos hp]; obtain ⟨r1, r, r2, r3⟩ := q4; exact ⟨r1, r, r2, hk _ _ r3⟩
          · rename_i hp; rw [if_neg hp]
            exact q4.imp fun as q4 => ⟨q4.1, fnC_mono q4.2 fun oc s hq => by cases oc <;> first | exact hk _ _ hq | exact hq⟩
        · cases h
      · unfold aBuiltin at *
        split at h
        · obtain ⟨v, h1, h2⟩ := pt_aLen _ _ _ h; exact h2 _ (hk _ _ h1)
        · obtain ⟨v, h1, h2⟩ := pt_aMax _ _ _ h; exact h2 _ (hk _ _ h1)
        · exact aAppend_mono h hk
        · cases h
      · cases h
    all_goals first | exact h.elim | (simp only [aop] at h)

theorem look_none (l : List (Nat × List V × Nat)) : ∃ b, Go.Al.look l b = none := by
  have h : ∀ l : List (Nat × List V × Nat), ∃ n, ∀ b, n ≤ b → Go.Al.look l b = none := by
    intro l
    induction l with
    | nil => exact ⟨0, fun _ _ => rfl⟩
    | cons p r ih =>
      obtain ⟨n, hn⟩ := ih
      obtain ⟨k, c⟩ := p
      refine ⟨max n (k + 1), fun b hb => ?_⟩
      show (if k = b then some c else Go.Al.look r b) = none
      rw [if_neg (by omega), hn b (by omega)]
  obtain ⟨n, hn⟩ := h l
  exact ⟨n, hn n (Nat.le_refl _)⟩

/-- What writes goes on somehow. -/
theorem wr_const {o : Oper} (hc : wrB L o = true) {C : Prop} (h : aop P L e st o (fun _ _ => C) KP) : C := by
  obtain ⟨dst, op, ty, pos, af, gd⟩ := o
  have hnew : ∀ {cs : List V}, aNew st cs (fun _ _ => C) → C := fun h => by
    obtain ⟨b, hb⟩ := look_none st.box
    exact h.2 b hb
  cases op <;> simp only [wrB] at hc <;> try (simp at hc; done)
  case alloc t =>
    simp only [aop] at h
    unfold aAlloc at h
    split at h
    · exact hnew h
    · cases h
  case box t x => exact hnew h
  case store t x y =>
    simp only [aop] at h
    unfold aStore at h
    split at h
    · split at h
      · exact h.2.2.2.2
      · cases h
    · cases h
  case buildSlice t n ps =>
    simp only [aop] at h
    unfold aBuildSlice at h
    split at h
    · cases h
    · obtain ⟨q1, q2, q3, q4, q5, q6, q7, q8, q9, q10⟩ := h
      rw [if_pos hc] at q10
      obtain ⟨b, hb⟩ := look_none st.box
      exact q10.2 b hb
  case call c =>
    obtain ⟨callee, args, ts⟩ := c
    cases callee with
    | invoke r m => simp at hc
    | value f => simp at hc
    | builtin b =>
      cases b <;> simp only at hc <;> try (simp at hc; done)
      simp only [aop] at h
      unfold aBuiltin at h
      split at h
      · contradiction
      · contradiction
      · unfold aAppend at h
        split at h
        · obtain ⟨q1, q2, q3, q4, q5, q6⟩ := h
          split at q6
          · obtain ⟨r1, r2, r3⟩ := q6
            rw [if_pos hc] at r3
            obtain ⟨b, hb⟩ := look_none st.box
            exact r3.2.2 b _ hb (Nat.le_refl _)
          · exact q6.2.2.2.2
          · split at q6
            · obtain ⟨r0, r1, r2, r3, r4, r5, r6, r7⟩ := q6
              obtain ⟨b, hb⟩ := look_none (wipe st.box _)
              exact r7 b _ hb (Nat.le_refl _)
            · cases q6
          · cases q6
        · obtain ⟨q1, q2, q3, q4, q5, q6⟩ := h
          split at q6
          · cases q6
          · obtain ⟨q6, q7⟩ := q6
            split at q7
            · obtain ⟨r1, r2, r3, r4⟩ := q7
              obtain ⟨b, hb⟩ := look_none st.box
              exact r4 b _ hb (Nat.le_refl _)
            · split at q7
              · obtain ⟨r1, r2, r3, r4, r5, r7⟩ := q7
                obtain ⟨b, hb⟩ := look_none (wipe st.box _)
                exact r7 b _ hb (Nat.le_refl _)
              · cases q7
            · cases q7
        · cases h
      · cases h

/-- An address is one. -/
theorem adr_spec {o : Oper} (hc : adr o = true) {K : V → S → Prop} (h : aop P L e st o K KP) : ∃ v, ∀ st' K' KP', aop P L e st' o K' KP' ↔ K' v st' := by
  obtain ⟨dst, op, ty, pos, af, gd⟩ := o
  cases op <;> simp only [adr] at hc <;> try (simp at hc; done)
  case nilCheck x =>
    simp only [aop] at h ⊢
    unfold aNilCheck at *
    split at h
    · rename_i hx; simp only [hx]; exact ⟨_, fun _ _ _ => Iff.rfl⟩
    · rename_i hx; simp only [hx]; exact ⟨_, fun _ _ _ => Iff.rfl⟩
    · cases h
  case fieldAddr t x f =>
    simp only [aop] at h ⊢
    unfold aFieldAddr at *
    split at h
    · exact ⟨_, fun _ _ _ => ⟨fun q => q.2.2.2, fun q => ⟨h.1, h.2.1, h.2.2.1, q⟩⟩⟩
    · exact ⟨_, fun _ _ _ => ⟨fun q => q.2.2, fun q => ⟨h.1, h.2.1, q⟩⟩⟩
    · cases h

/-- What makes a box leaves the others. -/
theorem new_more {o : Oper} (hc : newB L o = true) {K : V → S → Prop} (h : aop P L e st o K KP) : aop P L e st o (fun v s => More st s ∧ K v s) KP := by
  have hlay : ∀ (b : Nat) (c : List V × Nat) (tg : List Nat) (n : Nat), Go.Al.look st.box b = none → More st ⟨lay st.box b c, tg, n⟩ := fun b c tg n hb b' c' hl => by
    show Go.Al.look (lay st.box b c) b' = some c'
    rw [look_lay]
    by_cases e1 : b = b'
    · subst e1; rw [hb] at hl; cases hl
    · rw [if_neg e1]; exact hl
  obtain ⟨dst, op, ty, pos, af, gd⟩ := o
  cases op <;> simp only [newB] at hc <;> try (simp at hc; done)
  case alloc t =>
    simp only [aop] at h ⊢
    unfold aAlloc at *
    split at h
    · exact ⟨h.1, fun b hb => ⟨hlay _ _ _ _ hb, h.2 b hb⟩⟩
    · cases h
  case box t x => exact ⟨h.1, fun b hb => ⟨hlay _ _ _ _ hb, h.2 b hb⟩⟩
  case buildSlice t n ps =>
    simp only [aop] at h ⊢
    unfold aBuildSlice at *
    split at h
    · cases h
    · obtain ⟨q1, q2, q3, q4, q5, q6, q7, q8, q9, q10⟩ := h
      rw [if_pos hc] at q10
      exact ⟨q1, q2, q3, q4, q5, q6, q7, q8, q9, by rw [if_pos hc]; exact ⟨q10.1, fun b hb => ⟨hlay _ _ _ _ hb, q10.2 b hb⟩⟩⟩

theorem aop_congr {o : Oper} {e' : Env} (h : ∀ x ∈ o.op.operands, e.ev x = e'.ev x) (K : V → S → Prop) : aop P L e st o K KP = aop P L e' st o K KP := by
  obtain ⟨dst, op, ty, pos, af, gd⟩ := o
  have pairs : ∀ ps : Array (Nat × Operand), (∀ x ∈ (ps.toList.map (·.2)).toArray, e.ev x = e'.ev x) → (ps.toList.map fun p => (p.1, e.ev p.2)) = ps.toList.map fun p => (p.1, e'.ev p.2) := fun ps hp =>
    List.map_congr_left fun p hm => by rw [hp p.2 (by simp only [List.mem_toArray, List.mem_map]; exact ⟨p, hm, rfl⟩)]
  cases op <;> simp only [Op.operands] at h <;> simp only [aop]
  case build t ps => rw [pairs ps h]
  case buildSlice t n ps => rw [pairs ps h]
  case slice t x lo hi mx =>
    have h1 := h x (by simp)
    have h2 : lo.map e.ev = lo.map e'.ev := by cases lo <;> simp_all
    have h3 : hi.map e.ev = hi.map e'.ev := by cases hi <;> simp_all
    rw [h1, h2, h3]
  case call c =>
    have hargs : c.args.toList.map e.ev = c.args.toList.map e'.ev := List.map_congr_left fun x hx => h x (by simp only [Call.operands, Array.mem_append]; exact .inr (by simpa using hx))
    cases hc : c.callee with
    | value f =>
      have hf : e.ev f = e'.ev f := h f (by simp [Call.operands, hc])
      simp only [hargs, hf]
    | invoke r m => rfl
    | builtin b => simp only [hargs]
  all_goals (first | rfl | (simp_all; done))

end
end Go.Al
