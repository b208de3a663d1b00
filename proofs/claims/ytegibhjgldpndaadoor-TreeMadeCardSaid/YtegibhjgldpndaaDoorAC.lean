/-
  AL, part 17: operations may change places; A REGION WHOSE ORDER IS DRAWN. General: no program in sight.
-/
import Derived.Test.YtegibhjgldpndaaDoorAB
import Derived.IntWalk
set_option linter.unusedVariables false
set_option linter.unusedSimpArgs false
namespace Go.Al
open Go.RowKit

section
variable {P : Program} {L : Pol} {X : Cx} {e : Env} {st : S} {KP : List PanicEntry → S → Prop}

theorem tag_spec {o : Oper} (hc : cls L o = 4) {K : V → S → Prop} (h : aop P L e st o K KP) : ∃ v st', st'.box = st.box ∧ K v st' ∧ ∀ K' KP', K' v st' → aop P L e st o K' KP' := by
  obtain ⟨dst, op, ty, pos, af, gd⟩ := o
  cases op <;> simp only [cls] at hc <;> try (first | omega | (split at hc <;> omega))
  case buildSlice t n ps =>
    split at hc
    · omega
    · rename_i h1
      split at hc
      · rename_i h2
        simp only [aop] at h ⊢
        unfold aBuildSlice at h ⊢
        split at h
        · cases h
        · obtain ⟨q1, q2, q3, q4, q5, q6, q7, q8, q9, q10⟩ := h
          rw [if_neg h1, if_pos h2] at q10
          exact ⟨_, ⟨st.box, st.nx :: st.tg, st.nx + 1⟩, rfl, q10, fun K' _ k => ⟨q1, q2, q3, q4, q5, q6, q7, q8, q9, by rw [if_neg h1, if_pos h2]; exact k⟩⟩
      · omega
  case call c =>
    obtain ⟨callee, args, ts⟩ := c
    cases callee with
    | invoke r m => simp at hc
    | value f => cases f <;> simp only at hc <;> first | omega | (split at hc <;> omega)
    | builtin b =>
      simp only [aop] at h hc ⊢
      unfold aBuiltin at h ⊢
      split at h
      · simp only at hc; omega
      · simp only at hc; omega
      · simp only at hc ⊢
        split at hc
        · omega
        · rename_i h1
          unfold aAppend at h ⊢
          split at h
          · obtain ⟨q1, q2, q3, q4, q5, q6⟩ := h
            split at q6
            · obtain ⟨r1, r2, r3⟩ := q6
              rw [if_neg h1] at r3
              exact ⟨_, ⟨st.box, st.nx :: st.tg, st.nx + 1⟩, rfl, r3, fun K' _ k => ⟨q1, q2, q3, q4, q5, r1, r2, by rw [if_neg h1]; exact k⟩⟩
            · obtain ⟨r1, r2, r3, r4, r5⟩ := q6
              exact ⟨_, ⟨st.box, st.nx :: st.tg.erase _, st.nx + 1⟩, rfl, r5, fun K' _ k => ⟨q1, q2, q3, q4, q5, r1, r2, r3, r4, k⟩⟩
            · split at q6
              · exact absurd q6.1 h1
              · cases q6
            · cases q6
          · exact absurd h.2.2.2.2.1 h1
          · cases h
      · cases h

theorem fnC_mono {f : FuncId} {args : List V} {Q Q' : Outc → S → Prop} (h : FnC P f args st Q) (hq : ∀ o s, Q o s → Q' o s) : FnC P f args st Q' := by
  intro B g w vs hi hgl hv
  refine (h B g w vs hi hgl hv).mono ?_
  rintro en w' ⟨g', st', h1, h2, h3⟩
  refine ⟨g', st', h1, h2, ?_⟩
  cases en with
  | returned v => obtain ⟨r, h4, h5⟩ := h3; exact ⟨r, h4, hq _ _ h5⟩
  | panicked c => exact hq _ _ h3
  | outgrown => exact h3

theorem aNew_mono {cs : List V} {K K' : V → S → Prop} (h : aNew st cs K) (hk : ∀ v s, K v s → K' v s) : aNew st cs K' := ⟨h.1, fun b hb => hk _ _ (h.2 b hb)⟩

theorem aAppend_mono {dst : Option Nat} {t t2 : TypeId} {s x : V} {K K' : V → S → Prop} (h : aAppend P L dst st t t2 s x K) (hk : ∀ v s, K v s → K' v s) : aAppend P L dst st t t2 s x K' := by
  unfold aAppend at *
  split at h
  · obtain ⟨q1, q2, q3, q4, q5, q6⟩ := h
    refine ⟨q1, q2, q3, q4, q5, ?_⟩
    split at q6
    · obtain ⟨r1, r2, r3⟩ := q6
      refine ⟨r1, r2, ?_⟩
      split at r3
      · rename_i hw
        rw [if_pos hw]
        exact ⟨r3.1, r3.2.1, fun b cap hb hc => hk _ _ (r3.2.2 b cap hb hc)⟩
      · rename_i hw
        rw [if_neg hw]
        exact hk _ _ r3
    · obtain ⟨r1, r2, r3, r4, r5⟩ := q6
      exact ⟨r1, r2, r3, r4, hk _ _ r5⟩
    · split at q6
      · obtain ⟨r0, r1, r2, r3, r4, r5, r6, r7⟩ := q6
        exact ⟨r0, r1, r2, r3, r4, r5, r6, fun b cap hb hc => hk _ _ (r7 b cap hb hc)⟩
      · cases q6
    · cases q6
  · obtain ⟨q1, q2, q3, q4, q5, q6⟩ := h
    refine ⟨q1, q2, q3, q4, q5, ?_⟩
    split at q6
    · cases q6
    · obtain ⟨q6, q7⟩ := q6
      refine ⟨q6, ?_⟩
      split at q7
      · obtain ⟨r1, r2, r3, r4⟩ := q7
        exact ⟨r1, r2, r3, fun b cap hb hc => hk _ _ (r4 b cap hb hc)⟩
      · split at q7
        · obtain ⟨r1, r2, r3, r4, r5, r7⟩ := q7
          exact ⟨r1, r2, r3, r4, r5, fun b cap hb hc => hk _ _ (r7 b cap hb hc)⟩
        · cases q7
      · cases q7
  · cases h

theorem aBuildSlice_mono {dst : Option Nat} {t : TypeId} {n : Nat} {ps : List (Nat × V)} {K K' : V → S → Prop} (h : aBuildSlice P L dst st t n ps K) (hk : ∀ v s, K v s → K' v s) : aBuildSlice P L dst st t n ps K' := by
  unfold aBuildSlice at *
  split at h
  · cases h
  · obtain ⟨q1, q2, q3, q4, q5, q6, q7, q8, q9, q10⟩ := h
    refine ⟨q1, q2, q3, q4, q5, q6, q7, q8, q9, ?_⟩
    split at q10
    · rename_i h1
      rw [if_pos h1]
      exact ⟨q10.1, fun b hb => hk _ _ (q10.2 b hb)⟩
    · rename_i h1
      rw [if_neg h1]
      split at q10
      · rename_i h2; rw [if_pos h2]; exact hk _ _ q10
      · rename_i h2; rw [if_neg h2]; exact hk _ _ q10

theorem aop_mono {o : Oper} {K K' : V → S → Prop} (h : aop P L e st o K KP) (hk : ∀ v s, K v s → K' v s) : aop P L e st o K' KP := by
  by_cases hc : cls L o ≤ 2
  · obtain ⟨v, h1, h2⟩ := low_spec hc h
    exact h2 st K' KP (hk _ _ h1)
  · obtain ⟨dst, op, ty, pos, af, gd⟩ := o
    cases op <;> simp only [cls] at hc <;> try (first | omega | (split at hc <;> omega))
    case load t x => obtain ⟨v, h1, h2⟩ := load_spec (o := ⟨dst, .load t x, ty, pos, af, gd⟩) rfl h; exact h2 st K' KP (More.of_eq rfl) (hk _ _ h1)
    case store t x y =>
      simp only [aop] at h ⊢
      unfold aStore at *
      split at h
      · split at h
        · obtain ⟨q1, q2, q3, q4, q5⟩ := h; exact ⟨q1, q2, q3, q4, hk _ _ q5⟩
        · cases h
      · cases h
    case alloc t =>
      simp only [aop] at h ⊢
      unfold aAlloc at *
      split at h
      · exact aNew_mono h hk
      · cases h
    case box t x => exact aNew_mono h hk
    case buildSlice t n ps => exact aBuildSlice_mono h hk
    case call c =>
      simp only [aop] at h ⊢
      split at h
      · unfold aCall at *
        split at h
        · obtain ⟨q1, q2, q3, q4⟩ := h
          refine ⟨q1, q2, q3, ?_⟩
          split at q4
          · rename_i hp; rw [if_pos hp]; obtain ⟨r1, r, r2, r3⟩ := q4; exact ⟨r1, r, r2, hk _ _ r3⟩
          · rename_i hp; rw [if_neg hp]
            exact q4.imp fun as q4 => ⟨q4.1, fnC_mono q4.2 fun oc s hq => by cases oc <;> first | exact hk _ _ hq | exact hq⟩
        · cases h
      · unfold aBuiltin at *
        split at h
        · obtain ⟨v, h1, h2⟩ := pt_aLen _ _ _ h; exact h2 _ (hk _ _ h1)
        · obtain ⟨v, h1, h2⟩ := pt_aMax _ _ _ h; exact h2 _ (hk _ _ h1)
        · exact aAppend_mono h hk
        · cases h
      · cases h
    all_goals first | exact h.elim | (simp only [aop] at h)

theorem look_none (l : List (Nat × List V × Nat)) : ∃ b, Go.Al.look l b = none := by
  have h : ∀ l : List (Nat × List V × Nat), ∃ n, ∀ b, n ≤ b → Go.Al.look l b = none := by
    intro l
    induction l with
    | nil => exact ⟨0, fun _ _ => rfl⟩
    | cons p r ih =>
      obtain ⟨n, hn⟩ := ih
      obtain ⟨k, c⟩ := p
      refine ⟨max n (k + 1), fun b hb => ?_⟩
      show (if k = b then some c else Go.Al.look r b) = none
      rw [if_neg (by omega), hn b (by omega)]
  obtain ⟨n, hn⟩ := h l
  exact ⟨n, hn n (Nat.le_refl _)⟩

/-- What writes goes on somehow. -/
theorem wr_const {o : Oper} (hc : wrB L o = true) {C : Prop} (h : aop P L e st o (fun _ _ => C) KP) : C := by
  obtain ⟨dst, op, ty, pos, af, gd⟩ := o
  have hnew : ∀ {cs : List V}, aNew st cs (fun _ _ => C) → C := fun h => by
    obtain ⟨b, hb⟩ := look_none st.box
    exact h.2 b hb
  cases op <;> simp only [wrB] at hc <;> try (simp at hc; done)
  case alloc t =>
    simp only [aop] at h
    unfold aAlloc at h
    split at h
    · exact hnew h
    · cases h
  case box t x => exact hnew h
  case store t x y =>
    simp only [aop] at h
    unfold aStore at h
    split at h
    · split at h
      · exact h.2.2.2.2
      · cases h
    · cases h
  case buildSlice t n ps =>
    simp only [aop] at h
    unfold aBuildSlice at h
    split at h
    · cases h
    · obtain ⟨q1, q2, q3, q4, q5, q6, q7, q8, q9, q10⟩ := h
      rw [if_pos hc] at q10
      obtain ⟨b, hb⟩ := look_none st.box
      exact q10.2 b hb
  case call c =>
    obtain ⟨callee, args, ts⟩ := c
    cases callee with
    | invoke r m => simp at hc
    | value f => simp at hc
    | builtin b =>
      cases b <;> simp only at hc <;> try (simp at hc; done)
      simp only [aop] at h
      unfold aBuiltin at h
      split at h
      · contradiction
      · contradiction
      · unfold aAppend at h
        split at h
        · obtain ⟨q1, q2, q3, q4, q5, q6⟩ := h
          split at q6
          · obtain ⟨r1, r2, r3⟩ := q6
            rw [if_pos hc] at r3
            obtain ⟨b, hb⟩ := look_none st.box
            exact r3.2.2 b _ hb (Nat.le_refl _)
          · exact q6.2.2.2.2
          · split at q6
            · obtain ⟨r0, r1, r2, r3, r4, r5, r6, r7⟩ := q6
              obtain ⟨b, hb⟩ := look_none (wipe st.box _)
              exact r7 b _ hb (Nat.le_refl _)
            · cases q6
          · cases q6
        · obtain ⟨q1, q2, q3, q4, q5, q6⟩ := h
          split at q6
          · cases q6
          · obtain ⟨q6, q7⟩ := q6
            split at q7
            · obtain ⟨r1, r2, r3, r4⟩ := q7
              obtain ⟨b, hb⟩ := look_none st.box
              exact r4 b _ hb (Nat.le_refl _)
            · split at q7
              · obtain ⟨r1, r2, r3, r4, r5, r7⟩ := q7
                obtain ⟨b, hb⟩ := look_none (wipe st.box _)
                exact r7 b _ hb (Nat.le_refl _)
              · cases q7
            · cases q7
        · cases h
      · cases h

/-- An address is one. -/
theorem adr_spec {o : Oper} (hc : adr o = true) {K : V → S → Prop} (h : aop P L e st o K KP) : ∃ v, ∀ st' K' KP', aop P L e st' o K' KP' ↔ K' v st' := by
  obtain ⟨dst, op, ty, pos, af, gd⟩ := o
  cases op <;> simp only [adr] at hc <;> try (simp at hc; done)
  case nilCheck x =>
    simp only [aop] at h ⊢
    unfold aNilCheck at *
    split at h
    · rename_i hx; simp only [hx]; exact ⟨_, fun _ _ _ => Iff.rfl⟩
    · rename_i hx; simp only [hx]; exact ⟨_, fun _ _ _ => Iff.rfl⟩
    · cases h
  case fieldAddr t x f =>
    simp only [aop] at h ⊢
    unfold aFieldAddr at *
    split at h
    · exact ⟨_, fun _ _ _ => ⟨fun q => q.2.2.2, fun q => ⟨h.1, h.2.1, h.2.2.1, q⟩⟩⟩
    · exact ⟨_, fun _ _ _ => ⟨fun q => q.2.2, fun q => ⟨h.1, h.2.1, q⟩⟩⟩
    · cases h

/-- What makes a box leaves the others. -/
theorem new_more {o : Oper} (hc : newB L o = true) {K : V → S → Prop} (h : aop P L e st o K KP) : aop P L e st o (fun v s => More st s ∧ K v s) KP := by
  have hlay : ∀ (b : Nat) (c : List V × Nat) (tg : List Nat) (n : Nat), Go.Al.look st.box b = none → More st ⟨lay st.box b c, tg, n⟩ := fun b c tg n hb b' c' hl => by
    show Go.Al.look (lay st.box b c) b' = some c'
    rw [look_lay]
    by_cases e1 : b = b'
    · subst e1; rw [hb] at hl; cases hl
    · rw [if_neg e1]; exact hl
  obtain ⟨dst, op, ty, pos, af, gd⟩ := o
  cases op <;> simp only [newB] at hc <;> try (simp at hc; done)
  case alloc t =>
    simp only [aop] at h ⊢
    unfold aAlloc at *
    split at h
    · exact ⟨h.1, fun b hb => ⟨hlay _ _ _ _ hb, h.2 b hb⟩⟩
    · cases h
  case box t x => exact ⟨h.1, fun b hb => ⟨hlay _ _ _ _ hb, h.2 b hb⟩⟩
  case buildSlice t n ps =>
    simp only [aop] at h ⊢
    unfold aBuildSlice at *
    split at h
    · cases h
    · obtain ⟨q1, q2, q3, q4, q5, q6, q7, q8, q9, q10⟩ := h
      rw [if_pos hc] at q10
      exact ⟨q1, q2, q3, q4, q5, q6, q7, q8, q9, by rw [if_pos hc]; exact ⟨q10.1, fun b hb => ⟨hlay _ _ _ _ hb, q10.2 b hb⟩⟩⟩

theorem aop_congr {o : Oper} {e' : Env} (h : ∀ x ∈ o.op.operands, e.ev x = e'.ev x) (K : V → S → Prop) : aop P L e st o K KP = aop P L e' st o K KP := by
  obtain ⟨dst, op, ty, pos, af, gd⟩ := o
  have pairs : ∀ ps : Array (Nat × Operand), (∀ x ∈ (ps.toList.map (·.2)).toArray, e.ev x = e'.ev x) → (ps.toList.map fun p => (p.1, e.ev p.2)) = ps.toList.map fun p => (p.1, e'.ev p.2) := fun ps hp =>
    List.map_congr_left fun p hm => by rw [hp p.2 (by simp only [List.mem_toArray, List.mem_map]; exact ⟨p, hm, rfl⟩)]
  cases op <;> simp only [Op.operands] at h <;> simp only [aop]
  case build t ps => rw [pairs ps h]
  case buildSlice t n ps => rw [pairs ps h]
  case slice t x lo hi mx =>
    have h1 := h x (by simp)
    have h2 : lo.map e.ev = lo.map e'.ev := by cases lo <;> simp_all
    have h3 : hi.map e.ev = hi.map e'.ev := by cases hi <;> simp_all
    rw [h1, h2, h3]
  case call c =>
    have hargs : c.args.toList.map e.ev = c.args.toList.map e'.ev := List.map_congr_left fun x hx => h x (by simp only [Call.operands, Array.mem_append]; exact .inr (by simpa using hx))
    cases hc : c.callee with
    | value f =>
      have hf : e.ev f = e'.ev f := h f (by simp [Call.operands, hc])
      simp only [hargs, hf]
    | invoke r m => rfl
    | builtin b => simp only [hargs]
  all_goals (first | rfl | (simp_all; done))

end
end Go.Al

/-
  AL, part 18: A REGION WHOSE ORDER IS DRAWN. General: no program in sight.
-/
namespace Go.Al
open Go.RowKit

section
variable {P : Program} {L : Pol} {X : Cx} {ops : Array Oper} {ds : List (Option Nat)} {e : Env} {st : S} {KP : List PanicEntry → S → Prop}

def Env.eqv (e e' : Env) : Prop := ∀ k, e.get k = e'.get k
def Resp (K : Env → S → Prop) : Prop := ∀ e e' s, e.eqv e' → K e s → K e' s

theorem ev_eqv {e e' : Env} (h : e.eqv e') (x : Operand) : e.ev x = e'.ev x := by
  cases x with
  | tmp t => exact h t
  | _ => rfl
theorem putO_eqv {e e' : Env} (h : e.eqv e') (d : Option Nat) (v : V) : (e.putO d v).eqv (e'.putO d v) := by
  intro k
  cases d with
  | none => exact h k
  | some d => simp only [Env.putO, Env.get_put]; rw [h k]
theorem awant_eqv {e e' : Env} (h : e.eqv e') (gd : Option (Nat × Bool)) : awant ds e gd = awant ds e' gd := by
  unfold awant
  cases gd with
  | none => rfl
  | some p => obtain ⟨j, b⟩ := p; simp only; cases ds.getD j none with
    | none => rfl
    | some d => simp only [h d]

theorem astep_mono {o : Oper} {K K' : Env → S → Prop} (h : astep P L ds KP o K e st) (hk : ∀ e s, K e s → K' e s) : astep P L ds KP o K' e st := by
  unfold astep at *
  split at h
  · exact h
  · split at h
    · rename_i hc; rw [if_pos hc]; exact aop_mono h fun _ _ q => hk _ _ q
    · rename_i hc; rw [if_neg hc]; exact hk _ _ h

theorem astep_resp {o : Oper} {K : Env → S → Prop} (hK : Resp K) : Resp (astep P L ds KP o K) := by
  intro e e' s h hh
  unfold astep at *
  rw [← awant_eqv h]
  split at hh
  · exact hh
  · split at hh
    · rename_i hc; rw [if_pos hc]
      rw [aop_congr (e' := e) (fun x _ => (ev_eqv h x).symm)]
      exact aop_mono hh fun v s q => hK _ _ _ (putO_eqv h _ _) q
    · rename_i hc; rw [if_neg hc]; exact hK _ _ _ (putO_eqv h _ _) hh

theorem ev_put {d : Option Nat} {v : V} {o : Oper} (h : ∀ t, d = some t → t ∉ o.looksAt ops) : ∀ x ∈ o.op.operands, (e.putO d v).ev x = e.ev x := by
  intro x hx
  cases d with
  | none => rfl
  | some t =>
    cases x with
    | tmp u =>
      have hne : t ≠ u := fun e1 => h t rfl (by subst e1; exact List.mem_append_left _ (List.mem_filterMap.2 ⟨.tmp t, by simpa using hx, rfl⟩))
      simp only [Env.putO, Env.ev, Env.get_put, if_neg hne]
    | _ => rfl

theorem awant_put (hds : ds = ops.toList.map (·.dst)) {d : Option Nat} {v : V} {o : Oper} (h : ∀ t, d = some t → t ∉ o.looksAt ops) : awant ds (e.putO d v) o.guard = awant ds e o.guard := by
  cases d with
  | none => rfl
  | some t =>
    unfold awant
    cases hg : o.guard with
    | none => rfl
    | some p =>
      obtain ⟨j, b⟩ := p
      simp only
      cases hd : ds.getD j none with
      | none => rfl
      | some u =>
        have hj : (ops[j]?).bind (·.dst) = some u := by
          subst hds
          simp only [List.getD_eq_getElem?_getD, List.getElem?_map, Array.getElem?_toList] at hd
          cases hq : ops[j]? with
          | none => simp [hq] at hd
          | some oj => simpa [hq] using hd
        have hne : t ≠ u := fun e1 => h t rfl (by subst e1; refine List.mem_append_right _ ?_; simp [hg, hj])
        simp only [Env.putO, Env.get_put, if_neg hne]

theorem put_comm {di dj : Option Nat} {vi vj : V} (h : ∀ t, di = some t → dj ≠ some t) : ((e.putO di vi).putO dj vj).eqv ((e.putO dj vj).putO di vi) := by
  intro k
  cases di with
  | none => cases dj <;> rfl
  | some t =>
    cases dj with
    | none => rfl
    | some u =>
      have hne : t ≠ u := fun e1 => h t rfl (by rw [e1])
      simp only [Env.putO, Env.get_put]
      by_cases h1 : u = k
      · by_cases h2 : t = k
        · exact absurd (h2.trans h1.symm) hne
        · simp [h1, h2]
      · simp [h1]

/-- A slot that o neither looks at nor writes is filled before or behind it. -/
theorem astep_put (hds : ds = ops.toList.map (·.dst)) {o : Oper} {d : Option Nat} {v : V} (h1 : ∀ t, d = some t → t ∉ o.looksAt ops) (h2 : ∀ t, d = some t → o.dst ≠ some t) {K : Env → S → Prop} (hK : Resp K)
    (h : astep P L ds KP o K (e.putO d v) st) : astep P L ds KP o (fun e' s => K (e'.putO d v) s) e st := by
  unfold astep at *
  rw [awant_put hds h1] at h
  split at h
  · exact h
  · split at h
    · rename_i hc
      rw [if_pos hc]
      rw [aop_congr (ev_put h1)] at h
      exact aop_mono h fun u s q => hK _ _ _ (put_comm h2) q
    · rename_i hc
      rw [if_neg hc]
      exact hK _ _ _ (put_comm h2) h

/-- What a step leaves: the frame with one slot more; and of the boxes, as the class says. -/
theorem astep_strong {o : Oper} {K : Env → S → Prop} (h : astep P L ds KP o K e st) : astep P L ds KP o (fun e' s => (∃ v, e' = e.putO o.dst v) ∧ (cls L o ≤ 4 ∨ newB L o = true → More st s) ∧ K e' s) e st := by
  unfold astep at *
  split at h
  · exact h
  · split at h
    · rename_i hc
      rw [if_pos hc]
      by_cases h2 : cls L o ≤ 2
      · obtain ⟨v, k1, k2⟩ := low_spec h2 h
        exact k2 _ _ _ ⟨⟨v, rfl⟩, fun _ => More.of_eq rfl, k1⟩
      · by_cases h3 : cls L o = 3
        · obtain ⟨v, k1, k2⟩ := load_spec h3 h
          exact k2 _ _ _ (More.of_eq rfl) ⟨⟨v, rfl⟩, fun _ => More.of_eq rfl, k1⟩
        · by_cases h4 : cls L o = 4
          · obtain ⟨v, st', k0, k1, k2⟩ := tag_spec h4 h
            exact k2 _ _ ⟨⟨v, rfl⟩, fun _ => More.of_eq k0, k1⟩
          · by_cases h6 : newB L o = true
            · exact aop_mono (new_more h6 h) fun v s q => ⟨⟨v, rfl⟩, fun _ => q.1, q.2⟩
            · exact aop_mono h fun v s q => ⟨⟨v, rfl⟩, fun h5 => h5.elim (fun h5 => by omega) (fun h5 => absurd h5 h6), q⟩
    · rename_i hc
      rw [if_neg hc]
      exact ⟨⟨_, rfl⟩, fun _ => More.of_eq rfl, h⟩

/-- What reads at most boxes does the same where names have turned. -/
theorem astep_quiet {o : Oper} (hc : cls L o ≤ 3) {st1 : S} (hb : st1.box = st.box) {K : Env → S → Prop} (h : astep P L ds KP o K e st1) : astep P L ds KP o (fun e' s => s = st ∧ K e' st1) e st := by
  unfold astep at *
  split at h
  · exact h
  · split at h
    · rename_i hw
      rw [if_pos hw]
      by_cases h2 : cls L o ≤ 2
      · obtain ⟨v, k1, k2⟩ := low_spec h2 h
        exact k2 _ _ _ ⟨rfl, k1⟩
      · obtain ⟨v, k1, k2⟩ := load_spec (by omega) h
        exact k2 _ _ _ (More.of_eq hb.symm) ⟨rfl, k1⟩
    · rename_i hw
      rw [if_neg hw]
      exact ⟨rfl, h⟩

/-- TWO OPERATIONS CHANGE PLACES. -/
theorem astep_swap (hds : ds = ops.toList.map (·.dst)) {oi oj : Oper} (hap : oi.apart ops oj = true) (hc : compatO L oi oj = true) {K : Env → S → Prop} (hK : Resp K)
    (H : astep P L ds KP oi (astep P L ds KP oj K) e st) : astep P L ds KP oj (astep P L ds KP oi K) e st := by
  obtain ⟨a1, a2, a3⟩ := Oper.apart_spec hap
  have hw : ∀ v, awant ds (e.putO oj.dst v) oi.guard = awant ds e oi.guard := fun v => awant_put hds a3
  have hcg : ∀ v s (K' : V → S → Prop), aop P L (e.putO oj.dst v) s oi K' KP = aop P L e s oi K' KP := fun v s K' => aop_congr (ev_put a3) K'
  cases hi : awant ds e oi.guard with
  | none => unfold astep at H; rw [hi] at H; exact H.elim
  | some c =>
    cases c with
    | false =>
      unfold astep at H
      rw [hi] at H
      simp only [Bool.false_eq_true, if_false] at H
      have H1 := astep_strong (astep_put hds a1 a2 hK H)
      refine astep_mono H1 ?_
      rintro e' s ⟨⟨v, rfl⟩, _, hk⟩
      unfold astep
      rw [hw v, hi]
      simpa using hk
    | true =>
      have H0 : aop P L e st oi (fun v st' => astep P L ds KP oj K (e.putO oi.dst v) st') KP := by
        unfold astep at H
        rw [hi] at H
        simp only [if_true] at H
        exact H
      have fin : ∀ v s, aop P L e s oi (fun u s' => K ((e.putO oj.dst v).putO oi.dst u) s') KP → astep P L ds KP oi K (e.putO oj.dst v) s := by
        intro v s h
        unfold astep
        rw [hw v, hi]
        simp only [if_true]
        rw [hcg]
        exact h
      by_cases c2 : cls L oi ≤ 2
      · obtain ⟨vi, k1, k2⟩ := low_spec c2 H0
        refine astep_mono (astep_strong (astep_put hds a1 a2 hK k1)) ?_
        rintro e' s ⟨⟨v, rfl⟩, _, hk⟩
        exact fin v s (k2 s _ _ hk)
      · by_cases c0 : cls L oj = 0
        · have hj0 : ∃ x, (∀ (e : Env) (s : S) (K' : V → S → Prop), aop P L e s oj K' KP = K' (e.ev x) s) ∧ x ∈ oj.op.operands ∧ oj.guard = none := by
            obtain ⟨dst, op, ty, pos, af, gd⟩ := oj
            cases op <;> simp only [cls] at c0 <;> try (first | omega | (split at c0 <;> omega))
            case move x => cases gd <;> simp at c0; exact ⟨x, fun _ _ _ => rfl, by simp [Op.operands], rfl⟩
            case assign x => cases gd <;> simp at c0; exact ⟨x, fun _ _ _ => rfl, by simp [Op.operands], rfl⟩
            case buildSlice t n ps => split at c0 <;> first | omega | (split at c0 <;> omega)
            case call c =>
              obtain ⟨callee, args, ts⟩ := c
              cases callee with
              | invoke r m => simp at c0
              | value f => cases f <;> simp only at c0 <;> first | omega | (split at c0 <;> omega)
              | builtin b => cases b <;> simp only at c0 <;> first | omega | (split at c0 <;> omega)
          obtain ⟨x, hx, hxm, hgn⟩ := hj0
          have hs : ∀ (K' : Env → S → Prop) (e : Env) (s : S), astep P L ds KP oj K' e s = K' (e.putO oj.dst (e.ev x)) s := by
            intro K' e s
            unfold astep
            rw [hgn]
            simp only [awant, if_true]
            rw [hx]
          rw [hs]
          refine fin _ _ (aop_mono H0 fun v s q => ?_)
          rw [hs] at q
          rw [ev_put a1 x hxm] at q
          exact hK _ _ _ (put_comm a2) q
        · simp only [compatO, compat, Bool.or_eq_true, Bool.and_eq_true, decide_eq_true_eq, beq_iff_eq] at hc
          have hload : cls L oi = 3 → cls L oj ≤ 4 ∨ newB L oj = true → astep P L ds KP oj (astep P L ds KP oi K) e st := by
            intro hc1 hc2
            obtain ⟨vi, k1, k2⟩ := load_spec hc1 H0
            refine astep_mono (astep_strong (astep_put hds a1 a2 hK k1)) ?_
            rintro e' s ⟨⟨v, rfl⟩, hb, hk⟩
            exact fin v s (k2 s _ _ (hb hc2) hk)
          rcases hc with (((((hc | hc) | hc) | hc) | hc) | hc)
          · exact absurd hc c2
          · exact absurd hc c0
          · exact hload hc.1 (.inl hc.2)
          · obtain ⟨vi, st1, k0, k1, k2⟩ := tag_spec hc.1 H0
            have q := astep_quiet (st := st) hc.2 k0 (astep_put hds a1 a2 hK k1)
            refine astep_mono (astep_strong q) ?_
            rintro e' s ⟨⟨v, rfl⟩, _, rfl, hk⟩
            exact fin v s (k2 _ _ hk)
          · exact hload hc.1 (.inr hc.2)
          · have H2 : aop P L e st oi (fun v st' => astep P L ds KP oj (fun e' s => K (e'.putO oi.dst v) s) e st') KP := aop_mono H0 fun v s q => astep_put hds a1 a2 hK q
            have hone : ∀ s (K' : Env → S → Prop), astep P L ds KP oj K' e s → ∃ v, ∀ s' K'', astep P L ds KP oj K'' e s' ↔ K'' (e.putO oj.dst v) s' := by
              intro s K' h
              unfold astep at h
              cases hj : awant ds e oj.guard with
              | none => rw [hj] at h; exact h.elim
              | some c =>
                rw [hj] at h
                cases c with
                | false =>
                  refine ⟨.tup [], fun s' K'' => ?_⟩
                  unfold astep
                  rw [hj]
                  simp
                | true =>
                  simp only [if_true] at h
                  obtain ⟨v, hv⟩ := adr_spec hc.2 h
                  refine ⟨v, fun s' K'' => ?_⟩
                  unfold astep
                  rw [hj]
                  simp only [if_true]
                  exact hv _ _ _
            have hex : ∃ v, ∀ s' K'', astep P L ds KP oj K'' e s' ↔ K'' (e.putO oj.dst v) s' :=
              wr_const hc.1 (aop_mono H2 fun v s q => hone s _ q)
            obtain ⟨v, hv⟩ := hex
            refine (hv _ _).2 (fin v st (aop_mono H2 fun u s q => (hv _ _).1 q))

/-- Every order that the edges allow. -/
def AnyA (P : Program) (L : Pol) (ds : List (Option Nat)) (KP : List PanicEntry → S → Prop) (ops : Array Oper) (K : Env → S → Prop) : Nat → Array Bool → Env → S → Prop
  | 0, listed, e, st => Region.ready .any ops listed = [] ∧ K e st
  | n + 1, listed, e, st => (Region.ready .any ops listed = [] → K e st) ∧ ∀ i ∈ Region.ready .any ops listed, ∀ o, ops[i]? = some o → astep P L ds KP o (AnyA P L ds KP ops K n (listed.setIfInBounds i true)) e st

theorem AnyA_resp {K : Env → S → Prop} (hK : Resp K) : ∀ n listed, Resp (AnyA P L ds KP ops K n listed)
  | 0, listed => fun e e' s h hh => ⟨hh.1, hK _ _ _ h hh.2⟩
  | n + 1, listed => fun e e' s h hh => ⟨fun h0 => hK _ _ _ h (hh.1 h0), fun i hi o ho => astep_resp (AnyA_resp hK n _) _ _ _ h (hh.2 i hi o ho)⟩

def left (ops : Array Oper) (listed : Array Bool) : List Nat := (List.range ops.size).filter fun k => !listed.getD k true

theorem left_set {ops : Array Oper} {listed : Array Bool} {j : Nat} (h : j ∈ left ops listed) : (left ops (listed.setIfInBounds j true)).length < (left ops listed).length := by
  unfold left at *
  rw [List.mem_filter] at h
  have e : ((List.range ops.size).filter fun k => !(listed.setIfInBounds j true).getD k true) = ((List.range ops.size).filter fun k => !listed.getD k true).filter fun k => k != j := by
    rw [List.filter_filter]
    refine List.filter_congr fun k _ => ?_
    by_cases hk : j = k
    · subst hk
      have hlt : j < listed.size := by
        rcases Nat.lt_or_ge j listed.size with h' | h'
        · exact h'
        · simp [Array.getElem?_eq_none h'] at h
      simp [hlt]
    · rw [getD_set_ne true hk]; simp [Ne.symm hk]
  rw [e]
  exact List.length_filter_lt_length_iff_exists.2 ⟨j, List.mem_filter.2 h, by simp⟩

theorem ready_left {ops : Array Oper} {listed : Array Bool} {j : Nat} (h : j ∈ Region.ready .any ops listed) : j ∈ left ops listed := by
  obtain ⟨h1, o, h2, _⟩ := mem_ready.1 h
  unfold left
  rw [List.mem_filter]
  exact ⟨List.mem_range.2 (Array.getElem?_eq_some_iff.1 h2).1, by rw [h1]; rfl⟩

/-- j waits for i, by way of others. -/
def bef (ops : Array Oper) : Nat → Nat → Nat → Bool
  | 0, _, _ => false
  | n + 1, i, j => match ops[j]? with
    | some o => o.after.any fun ed => Region.binds .any ed && (ed.on == i || bef ops n i ed.on)
    | none => false

/-- With an operation all that it waits for is listed. -/
def PC (ops : Array Oper) (listed : Array Bool) : Prop := ∀ k ok, ops[k]? = some ok → listed.getD k false = true → ∀ ed ∈ ok.after, Region.binds .any ed = true → listed.getD ed.on false = true

theorem getD_set_same {listed : Array Bool} {j : Nat} (h : j < listed.size) (d : Bool) : (listed.setIfInBounds j true).getD j d = true := by simp [h]

theorem ready_lt {listed : Array Bool} {j : Nat} (h : listed.getD j true = false) : j < listed.size := by
  rcases Nat.lt_or_ge j listed.size with h' | h'
  · exact h'
  · simp [Array.getElem?_eq_none h'] at h

theorem set_keeps {listed : Array Bool} {j k : Nat} (h : listed.getD k false = true) : (listed.setIfInBounds j true).getD k false = true := by
  by_cases e1 : j = k
  · subst e1
    refine getD_set_same ?_ _
    rcases Nat.lt_or_ge j listed.size with h' | h'
    · exact h'
    · simp [Array.getElem?_eq_none h'] at h
  · rw [getD_set_ne false e1]; exact h

theorem ready_pre {listed : Array Bool} {j : Nat} {oj : Oper} (hj : j ∈ Region.ready .any ops listed) (ho : ops[j]? = some oj) : ∀ ed ∈ oj.after, Region.binds .any ed = true → listed.getD ed.on false = true := by
  obtain ⟨_, oj', hoj', hall⟩ := mem_ready.1 hj
  rw [ho] at hoj'
  injection hoj' with h
  subst h
  exact hall

theorem PC_set {listed : Array Bool} {j : Nat} (hj : j ∈ Region.ready .any ops listed) (h : PC ops listed) : PC ops (listed.setIfInBounds j true) := by
  intro k ok hk hl ed he hb
  by_cases e1 : j = k
  · subst e1
    exact set_keeps (ready_pre hj hk ed he hb)
  · rw [getD_set_ne false e1] at hl
    exact set_keeps (h k ok hk hl ed he hb)

theorem bef_listed {listed : Array Bool} (h : PC ops listed) {i : Nat} (hi : listed.getD i true = false) : ∀ (n j : Nat), listed.getD j false = true → bef ops n i j = false
  | 0, _, _ => rfl
  | n + 1, j, hj => by
    unfold bef
    cases ho : ops[j]? with
    | none => rfl
    | some oj =>
      simp only
      rw [Bool.eq_false_iff]
      intro hc
      obtain ⟨ed, he, hc⟩ := Array.any_eq_true'.1 hc
      simp only [Bool.and_eq_true, Bool.or_eq_true, beq_iff_eq] at hc
      have hl := h j oj ho hj ed he hc.1
      rcases hc.2 with h1 | h1
      · rw [h1] at hl
        have := ready_lt hi
        simp [this] at hi hl
        rw [hi] at hl; cases hl
      · rw [bef_listed h hi n ed.on hl] at h1; cases h1

theorem bef_ready {listed : Array Bool} (h : PC ops listed) {i j : Nat} (hi : listed.getD i true = false) (hj : j ∈ Region.ready .any ops listed) (n : Nat) : bef ops n i j = false := by
  cases n with
  | zero => rfl
  | succ n =>
    unfold bef
    cases ho : ops[j]? with
    | none => rfl
    | some oj =>
      simp only
      rw [Bool.eq_false_iff]
      intro hc
      obtain ⟨ed, he, hc⟩ := Array.any_eq_true'.1 hc
      simp only [Bool.and_eq_true, Bool.or_eq_true, beq_iff_eq] at hc
      have hl := ready_pre hj ho ed he hc.1
      rcases hc.2 with h1 | h1
      · rw [h1] at hl
        have := ready_lt hi
        simp [this] at hi hl
        rw [hi] at hl; cases hl
      · rw [bef_listed h hi n ed.on hl] at h1; cases h1

theorem anyA_first (hds : ds = ops.toList.map (·.dst)) {K : Env → S → Prop} (hK : Resp K) {i : Nat} {oi : Oper} (hi : ops[i]? = some oi) :
    ∀ (fuel : Nat) (listed : Array Bool) (e : Env) (st : S), (left ops listed).length ≤ fuel + 1 →
      (∀ j oj, ops[j]? = some oj → j ≠ i → listed.getD j true = false → (∀ ed ∈ oj.after, Region.binds .any ed = true → ed.on ≠ i) → bef ops ops.size i j = false → oi.apart ops oj = true ∧ compatO L oi oj = true) → PC ops listed →
      i ∈ Region.ready .any ops listed →
      astep P L ds KP oi (AnyA P L ds KP ops K fuel (listed.setIfInBounds i true)) e st → AnyA P L ds KP ops K (fuel + 1) listed e st := by
  intro fuel
  induction fuel with
  | zero =>
    intro listed e st hcount _ _ hr H
    refine ⟨fun h => (by rw [h] at hr; cases hr), fun j hj o ho => ?_⟩
    by_cases hji : j = i
    · subst hji; rw [hi] at ho; injection ho with ho; subst ho; exact H
    · exfalso
      have h1 := left_set (ready_left hr)
      have h2 := ready_left (ready_mono hj hji)
      have h3 : (left ops (listed.setIfInBounds i true)).length = 0 := by omega
      rw [List.eq_nil_of_length_eq_zero h3] at h2
      cases h2
  | succ fuel ih =>
    intro listed e st hcount hfree hpc hr H
    refine ⟨fun h => (by rw [h] at hr; cases hr), fun j hj oj hoj => ?_⟩
    by_cases hji : j = i
    · subst hji; rw [hi] at hoj; injection hoj with hoj; subst hoj; exact H
    · obtain ⟨hjun, oj', hoj', hall⟩ := mem_ready.1 hj
      have e1 : oj' = oj := by rw [hoj] at hoj'; injection hoj' with h; exact h.symm
      subst e1
      have hnot : ∀ ed ∈ oj'.after, Region.binds .any ed = true → ed.on ≠ i := fun ed he hb heq => by
        have h1 := hall ed he hb
        have h0 := (mem_ready.1 hr).1
        rw [heq] at h1
        rcases Nat.lt_or_ge i listed.size with h' | h'
        · simp [h'] at h0 h1; rw [h0] at h1; cases h1
        · simp [Array.getElem?_eq_none h'] at h1
      have hfr := hfree j oj' hoj hji hjun hnot (bef_ready hpc (mem_ready.1 hr).1 hj _)
      have h1 : astep P L ds KP oi (astep P L ds KP oj' (AnyA P L ds KP ops K fuel ((listed.setIfInBounds i true).setIfInBounds j true))) e st :=
        astep_mono H fun e' s q => q.2 j (ready_mono hj hji) oj' hoj
      have h2 := astep_swap hds hfr.1 hfr.2 (AnyA_resp hK fuel _) h1
      have hfree' : ∀ k ok, ops[k]? = some ok → k ≠ i → (listed.setIfInBounds j true).getD k true = false →
          (∀ ed ∈ ok.after, Region.binds .any ed = true → ed.on ≠ i) → bef ops ops.size i k = false → oi.apart ops ok = true ∧ compatO L oi ok = true := fun k ok hk hki hun hno hbf => by
        refine hfree k ok hk hki ?_ hno hbf
        by_cases hjk : j = k
        · subst hjk; exact hjun
        · rw [getD_set_ne true hjk] at hun; exact hun
      refine astep_mono h2 fun e' s h3 => ih (listed.setIfInBounds j true) e' s (by have := left_set (ready_left hj); omega) hfree' (PC_set hj hpc) (ready_mono hr (Ne.symm hji)) ?_
      rw [Array.setIfInBounds_comm _ _ hji]
      exact h3

/-- Each operation that does not wait for an earlier one may change places with it. -/
def drawOk (L : Pol) (l : List Oper) : Bool :=
  (List.range l.length).all fun i => (List.range l.length).all fun j =>
    match l[i]?, l[j]? with
    | some oi, some oj => !decide (i < j) || compatO L oi oj || bef l.toArray l.length i j
    | _, _ => true

theorem drawOk_spec {l : List Oper} (h : drawOk L l = true) {i j : Nat} {oi oj : Oper} (hi : l[i]? = some oi) (hj : l[j]? = some oj) (hlt : i < j) (hno : bef l.toArray l.length i j = false) :
    compatO L oi oj = true := by
  have h1 := List.all_eq_true.1 h i (List.mem_range.2 (List.getElem?_eq_some_iff.1 hi).1)
  have h2 := List.all_eq_true.1 h1 j (List.mem_range.2 (List.getElem?_eq_some_iff.1 hj).1)
  simpa [hi, hj, hlt, hno] using h2

theorem anyA_lex (hds : ds = ops.toList.map (·.dst)) (hd : drawOk L ops.toList = true) {K : Env → S → Prop} (hK : Resp K) : ∀ (l : List Oper) (k : Nat) (listed : Array Bool) (e : Env) (st : S), (∀ j, l[j]? = ops[k + j]?) →
    (∀ j, j < k → listed.getD j true = true) → (left ops listed).length ≤ l.length → PC ops listed →
    Region.lexFrom .any ops l.length k listed = true → AL P L ds KP l K e st → AnyA P L ds KP ops K l.length listed e st
  | [], _, _, _, _, _, _, _, _, hB, h => ⟨by simpa [Region.lexFrom] using hB, h⟩
  | o :: l, k, listed, e, st, hl, hbel, hcount, hpc, hB, h => by
    have h0 : ops[k]? = some o := by simpa using (hl 0).symm
    simp only [List.length_cons, Region.lexFrom, Bool.and_eq_true] at hB
    obtain ⟨⟨hr, hf⟩, hB'⟩ := hB
    have hr' : k ∈ Region.ready .any ops listed := by simpa using hr
    refine anyA_first hds hK h0 l.length listed e st hcount ?_ hpc hr' ?_
    · intro j oj hj hne hun hno hbf
      refine ⟨Region.free_spec h0 hf j oj hj hne hun hno, drawOk_spec hd (by simpa using h0) (by simpa using hj) ?_ (by simpa using hbf)⟩
      rcases Nat.lt_or_ge k j with h1 | h1
      · exact h1
      · have := hbel j (by omega)
        rw [this] at hun; cases hun
    · refine astep_mono (h : astep P L ds KP o (AL P L ds KP l K) e st) fun e' s q => ?_
      refine anyA_lex hds hd hK l (k + 1) _ e' s (fun j => by have := hl (j + 1); simpa [Nat.add_assoc, Nat.add_comm 1 j] using this) (fun j hj => ?_) (by have := left_set (ready_left hr'); simp only [List.length_cons] at hcount; omega) (PC_set hr' hpc) hB' q
      by_cases e1 : j = k
      · subst e1
        rcases Nat.lt_or_ge j listed.size with h' | h'
        · simp [h']
        · simp [Array.getElem?_eq_none h']
      · rw [getD_set_ne true (Ne.symm e1)]; exact hbel j (by omega)

theorem anyA_sound (hds : ds = ops.toList.map (·.dst)) (hdst : ∀ o ∈ ops.toList, ∀ t, o.dst = some t → t < X.N) {Q : Exit → Env → S → Prop} (hQ : ∀ c s, KP c s → Q (.panic c) [] s) {K : Env → S → Prop} {g0 : Gh} {w0 : World}
    (hKQ : ∀ g e s a w, K e s → Step X.B g0 w0 g w → Rel X g e s a w → Goes X g0 w0 Q .normal a w) :
    ∀ (n : Nat) (listed : Array Bool) (e : Env) (st : S) (g : Gh) (a : Act) (w : World), AnyA P L ds KP ops K n listed e st → Step X.B g0 w0 g w → Rel X g e st a w → wpAny P .any ops (Goes X g0 w0 Q) n listed a w
  | 0, _, e, st, g, a, w, h, hs, hr => ⟨h.1, hKQ g e st a w h.2 hs hr⟩
  | n + 1, listed, e, st, g, a, w, h, hs, hr => ⟨fun h0 => hKQ g e st a w (h.1 h0) hs hr, fun i hi => by
      obtain ⟨_, o, ho, _⟩ := mem_ready.1 hi
      have hm : o ∈ ops.toList := by simpa using Array.mem_of_getElem? ho
      refine wpOp_mono ?_ (astep_sound hds hQ ho (hdst o hm) (h.2 i hi o ho) hs hr)
      rintro a' w' ⟨g', e', st', k1, k2, k3⟩
      exact anyA_sound hds hdst hQ hKQ n _ e' st' g' a' w' k3 k1 k2⟩

end

section
variable {P : Program} {L : Pol} {X : Cx} {e : Env} {st : S}

/-- The frame, cut down to some slots. -/
def keepE (ks : List Nat) (e : Env) : Env := ks.map fun k => (k, e.get k)

theorem keepE_sub (ks : List Nat) (e : Env) : e.sub (keepE ks e) := Env.sub_of e _ fun p hp => by
  obtain ⟨k, _, rfl⟩ := List.mem_map.1 hp
  rfl

/-- A REGION IN THE ORDER OF THE TEXT; behind it the named slots are known. -/
theorem awp_reg {Q : Exit → Env → S → Prop} {id : Nat} {l : List Oper} (L : Pol) (kf : Nat → List Nat) (ds : List (Option Nat)) (hds : l.map (·.dst) = ds) (hd : dstsIn X.N l = true)
    (h : AL P L ds (fun c s => Q (.panic c) [] s) l (fun e' s' => Q .normal (keepE (kf id) e') s') e st) : awp P X (.region id l.toArray false) Q e st := by
  intro g a w hr
  generalize kf id = ks at h
  have h1 := awp_region (X := X) (P := P) (L := L) (Q := fun ex e' s' => match ex with | .normal => Q .normal (keepE ks e') s' | .panic c => Q (.panic c) [] s' | _ => False) (id := id) (l := l) ds hds hd h g a w hr
  refine wpIn_mono h1 ?_
  rintro ex a' w' ⟨g', e', st', k1, k2, k3⟩
  cases ex with
  | normal => exact ⟨g', _, st', k1, k2.weaken (keepE_sub ks e') (S.sub_refl _), k3⟩
  | panic c => exact ⟨g', [], st', k1, ⟨k2.inv, fun _ => trivial, k2.size, k2.df, k2.gl⟩, k3⟩
  | exit id => exact k3.elim
  | goto l => exact k3.elim
  | ret => exact k3.elim
  | outgrown => exact k3.elim

/-- A REGION WHOSE ORDER IS DRAWN. -/
theorem awp_draw {Q : Exit → Env → S → Prop} {id : Nat} {l : List Oper} (L : Pol) (hm : P.follows .mixedOrders = true) (kf : Nat → List Nat) (ds : List (Option Nat)) (hds : l.map (·.dst) = ds) (hd : dstsIn X.N l = true) (hB : Region.lexB .any l.toArray = true) (hO : drawOk L l = true)
    (h : AL P L ds (fun c s => Q (.panic c) [] s) l (fun e' s' => Q .normal (keepE (kf id) e') s') e st) : awp P X (.region id l.toArray true) Q e st := by
  intro g a w hr
  generalize kf id = ks at h
  simp only [Region.lexB, Bool.and_eq_true] at hB
  have hnd : ∀ o ∈ l.toArray.toList, ∀ c, o.op ≠ .defer c := fun o ho => dsts_nodefer hd (by simpa using ho)
  refine wpIn_mono (Q := Goes X g w (inQ Q)) (wpIn_region_draw fun t => wpOps_in hnd (goes_lets fun _ _ k => k) _ a _ ?_) goes_inQ
  simp only [Region.schedule, hm, Bool.true_or, if_true]
  refine wpAny_sound _ t _ a _ ?_
  have hdr := out_drew hr.inv (w.drawn + 1)
  have hrel : Rel X g e st a { w with drawn := w.drawn + 1 } := ⟨hdr.inv, fun k => (hr.env k).later hdr.step.later, hr.size, hr.df, hr.gl.below hdr.step.below⟩
  have hresp : Resp (fun e' s' => Q .normal (keepE ks e') s') := fun e1 e2 s h1 h2 => by
    have : keepE ks e1 = keepE ks e2 := by unfold keepE; exact List.map_congr_left fun k _ => by rw [h1 k]
    show Q .normal (keepE ks e2) s
    rw [← this]; exact h2
  have hA := anyA_lex (P := P) (L := L) (ops := l.toArray) (ds := ds) (KP := fun c s => Q (.panic c) [] s) (by simpa using hds.symm) (by simpa using hO) hresp l 0 (Array.replicate l.toArray.size false) e st (by simp) (fun j hj => by omega)
    (by unfold left; exact Nat.le_trans (List.length_filter_le _ _) (by simp)) (fun k ok hk hl => by
      exfalso
      rw [Array.getD_eq_getD_getElem?, Array.getElem?_replicate] at hl
      split at hl <;> simp at hl) (by simpa using hB.2) h
  have := anyA_sound (X := X) (Q := inQ Q) (ops := l.toArray) (ds := ds) (by simpa using hds.symm) (fun o ho => dst_lt hd (by simpa using ho)) (fun _ _ k => k) (g0 := g) (w0 := w)
    (fun g' e' s' a' w' k1 k2 k3 => ⟨g', _, s', k2, k3.weaken (keepE_sub ks e') (S.sub_refl _), k1⟩) l.length _ e st g a { w with drawn := w.drawn + 1 } hA hdr.step hrel
  exact this

end
end Go.Al

/-
  AL, part 19: small equations for a walk. General: no program in sight.
-/
namespace Go.Al

theorem thenE_normal (next : Env → S → Prop) (Q : Exit → Env → S → Prop) (e : Env) (s : S) : thenE next Q .normal e s = next e s := rfl
theorem thenE_exit (next : Env → S → Prop) (Q : Exit → Env → S → Prop) (e : Env) (s : S) (id : Nat) : thenE next Q (.exit id) e s = Q (.exit id) e s := rfl
theorem thenE_ret (next : Env → S → Prop) (Q : Exit → Env → S → Prop) (e : Env) (s : S) : thenE next Q .ret e s = Q .ret e s := rfl
theorem thenE_panic (next : Env → S → Prop) (Q : Exit → Env → S → Prop) (e : Env) (s : S) (c : List PanicEntry) : thenE next Q (.panic c) e s = Q (.panic c) e s := rfl
theorem blockE_normal (id : Nat) (Q : Exit → Env → S → Prop) (e : Env) (s : S) : blockE id Q .normal e s = Q .normal e s := rfl
theorem blockE_exit (id id' : Nat) (Q : Exit → Env → S → Prop) (e : Env) (s : S) : blockE id Q (.exit id') e s = if id' = id then Q .normal e s else Q (.exit id') e s := rfl
theorem blockE_ret (id : Nat) (Q : Exit → Env → S → Prop) (e : Env) (s : S) : blockE id Q .ret e s = Q .ret e s := rfl
theorem blockE_panic (id : Nat) (Q : Exit → Env → S → Prop) (e : Env) (s : S) (c : List PanicEntry) : blockE id Q (.panic c) e s = Q (.panic c) e s := rfl
theorem retE_normal (P : Program) (rs : List ResultVar) (Q : Outc → S → Prop) (e : Env) (s : S) : retE P rs Q .normal e s = aResults P rs e s fun xs => Q (.ret (finV xs)) s := rfl
theorem retE_ret (P : Program) (rs : List ResultVar) (Q : Outc → S → Prop) (e : Env) (s : S) : retE P rs Q .ret e s = aResults P rs e s fun xs => Q (.ret (finV xs)) s := rfl
theorem retE_panic (P : Program) (rs : List ResultVar) (Q : Outc → S → Prop) (e : Env) (s : S) (c : List PanicEntry) : retE P rs Q (.panic c) e s = Q (.pan c) s := rfl

theorem putO_some (e : Env) (d : Nat) (x : V) (j : Nat) : (e.putO (some d) x).get j = if d = j then x else e.get j := Env.get_put e d x j
theorem putO_none (e : Env) (x : V) : e.putO none x = e := rfl
theorem get_cons (k : Nat) (x : V) (r : Env) (j : Nat) : Env.get ((k, x) :: r) j = if k = j then x else Env.get r j := rfl
theorem get_nil (j : Nat) : Env.get [] j = .any := rfl
theorem ev_tmp (e : Env) (t : Nat) : e.ev (.tmp t) = e.get t := rfl
theorem ev_const (e : Env) (v : Value) : e.ev (.const v) = cV v := rfl
theorem ev_func (e : Env) (f : Nat) : e.ev (.func f) = .clo (.func f) [] := rfl
theorem cV_int (k : IntKind) (n : Int) : cV (.int k n) = .at (.int k n) := rfl
theorem cV_bool (b : Bool) : cV (.bool b) = .at (.bool b) := rfl
theorem cV_string (s : ByteArray) : cV (.string s) = .at (.string s) := rfl
theorem cV_nil : cV (.slice none 0 0) = .lst .nil [] := rfl
theorem cV_ptr : cV (.pointer none) = .at (.pointer none) := rfl
theorem keepE_cons (k : Nat) (ks : List Nat) (e : Env) : keepE (k :: ks) e = (k, e.get k) :: keepE ks e := rfl
theorem keepE_nil (e : Env) : keepE [] e = [] := rfl

theorem aBin_int (P : Program) (op : BinOp) (t : TypeId) (k : IntKind) (a b : Int) (K : V → Prop) : aBin P op t (.at (.int k a)) (.at (.int k b)) K = aInt op k a b K := by simp [aBin]
theorem aBin_bool (P : Program) (op : BinOp) (t : TypeId) (a b : Bool) (K : V → Prop) : aBin P op t (.at (.bool a)) (.at (.bool b)) K = (isBoolT P t = true ∧ aBool op a b K) := rfl
theorem aBin_str (P : Program) (op : BinOp) (t : TypeId) (a b : ByteArray) (K : V → Prop) : aBin P op t (.at (.string a)) (.at (.string b)) K = aStr op a b K := rfl
theorem aBin_nil (P : Program) (op : BinOp) (t : TypeId) (tg : Tag) (es : List V) (K : V → Prop) : aBin P op t (.lst tg es) (.lst .nil []) K = ((elT P t).isSome = true ∧ aBool op (nilB tg es) true K) := rfl
theorem aInt_add (k : IntKind) (a b : Int) (K : V → Prop) : aInt .add k a b K = K (.at (.int k (k.wrap (a + b)))) := rfl
theorem aInt_sub (k : IntKind) (a b : Int) (K : V → Prop) : aInt .sub k a b K = K (.at (.int k (k.wrap (a - b)))) := rfl
theorem aInt_mul (k : IntKind) (a b : Int) (K : V → Prop) : aInt .mul k a b K = K (.at (.int k (k.wrap (a * b)))) := rfl
theorem aInt_eql (k : IntKind) (a b : Int) (K : V → Prop) : aInt .eql k a b K = K (.at (.bool (a == b))) := rfl
theorem aInt_neq (k : IntKind) (a b : Int) (K : V → Prop) : aInt .neq k a b K = K (.at (.bool (a != b))) := rfl
theorem aInt_lss (k : IntKind) (a b : Int) (K : V → Prop) : aInt .lss k a b K = K (.at (.bool (decide (a < b)))) := rfl
theorem aInt_leq (k : IntKind) (a b : Int) (K : V → Prop) : aInt .leq k a b K = K (.at (.bool (decide (a ≤ b)))) := rfl
theorem aInt_gtr (k : IntKind) (a b : Int) (K : V → Prop) : aInt .gtr k a b K = K (.at (.bool (decide (a > b)))) := rfl
theorem aInt_geq (k : IntKind) (a b : Int) (K : V → Prop) : aInt .geq k a b K = K (.at (.bool (decide (a ≥ b)))) := rfl
theorem aBool_eql (a b : Bool) (K : V → Prop) : aBool .eql a b K = K (.at (.bool (a == b))) := rfl
theorem aBool_neq (a b : Bool) (K : V → Prop) : aBool .neq a b K = K (.at (.bool (!(a == b)))) := rfl
theorem aUn_not (b : Bool) (K : V → Prop) : aUn .not (.at (.bool b)) K = K (.at (.bool !b)) := rfl
theorem aUn_neg (k : IntKind) (n : Int) (K : V → Prop) : aUn .neg (.at (.int k n)) K = K (.at (.int k (k.wrap (0 - n)))) := rfl
theorem aLen_lst (P : Program) (t : TypeId) (tg : Tag) (es : List V) (K : V → Prop) : aLen P t (.lst tg es) K = ((elT P t).isSome = true ∧ K (.at (.int .i64 (es.length : Int)))) := rfl
theorem aLen_slice (P : Program) (t : TypeId) (a : Option Addr) (n c : Nat) (K : V → Prop) : aLen P t (.at (.slice a n c)) K = ((elT P t).isSome = true ∧ K (.at (.int .i64 (n : Int)))) := rfl
theorem aLen_str (P : Program) (t : TypeId) (s : ByteArray) (K : V → Prop) : aLen P t (.at (.string s)) K = (isStrT P t = true ∧ K (.at (.int .i64 (s.size : Int)))) := rfl
theorem aMax_int (k : IntKind) (x y : Int) (K : V → Prop) : aMax (.at (.int k x)) (.at (.int k y)) K = K (.at (.int k (if y > x then y else x))) := rfl
theorem aPick_bool (t : Bool) (a b : V) (K : V → Prop) : aPick (.at (.bool t)) a b K = K (if t then a else b) := rfl
theorem aExtract_tup (vs : List V) (i : Nat) (K : V → Prop) : aExtract (.tup vs) i K = (i < vs.length ∧ K (vs.getD i .any)) := rfl
theorem aNilCheck_rptr (y : V) (K : V → Prop) : aNilCheck (.rptr y) K = K (.rptr y) := rfl
theorem aNilCheck_ptr (a : Addr) (K : V → Prop) : aNilCheck (.at (.pointer (some a))) K = K (.at (.pointer (some a))) := rfl
theorem aLoad_rptr (P : Program) (st : S) (t : TypeId) (y : V) (K : V → Prop) : aLoad P st t (.rptr y) K = (fits P t y ∧ K y) := rfl
theorem aIndex_str (P : Program) (t : TypeId) (s : ByteArray) (k : IntKind) (n : Int) (K : V → Prop) : aIndex P t (.at (.string s)) (.at (.int k n)) K = (isStrT P t = true ∧ (0 ≤ n ∧ n < (s.size : Int)) ∧ K (.at (.int .u8 ((s.data.getD n.toNat 0).toNat : Int)))) := rfl
/- In two steps: first what the type's table says, then the rest. -/
def sLoad (P : Program) (t o : Nat) (q : Option (List V × Nat)) (K : V → Prop) : Prop :=
  match q with
  | some (cs, _) => partOk P t cs o ∧ K (partV P t cs o)
  | none => False
theorem aLoad_ptr (P : Program) (st : S) (t : TypeId) (b o : Nat) (K : V → Prop) : aLoad P st t (.at (.pointer (some ⟨b, o, none⟩))) K = sLoad P t o (look st.box b) K := by
  unfold aLoad sLoad; rfl
theorem sLoad_some (P : Program) (t o : Nat) (cs : List V) (k : Nat) (K : V → Prop) : sLoad P t o (some (cs, k)) K = (partOk P t cs o ∧ K (partV P t cs o)) := rfl
theorem sLoad_congr (P : Program) (t o : Nat) {q q' : Option (List V × Nat)} (h : q = q') (K : V → Prop) : sLoad P t o q K = sLoad P t o q' K := by rw [h]

def sStore (P : Program) (t b o : Nat) (y : V) (st : S) (q : Option (List V × Nat)) (K : S → Prop) : Prop :=
  match q with
  | some (cs, k) => hasT P t = true ∧ y.flat.length = P.cellsOf t ∧ allOne y.flat ∧ o + y.flat.length ≤ cs.length ∧ K ⟨lay st.box b (spl cs o y.flat, k), st.tg, st.nx⟩
  | none => False
theorem aStore_ptr (P : Program) (st : S) (t : TypeId) (y : V) (b o : Nat) (K : S → Prop) : aStore P st t (.at (.pointer (some ⟨b, o, none⟩))) y K = sStore P t b o y st (look st.box b) K := by
  unfold aStore sStore; rfl
theorem sStore_some (P : Program) (t b o : Nat) (y : V) (st : S) (cs : List V) (k : Nat) (K : S → Prop) : sStore P t b o y st (some (cs, k)) K =
    (hasT P t = true ∧ y.flat.length = P.cellsOf t ∧ allOne y.flat ∧ o + y.flat.length ≤ cs.length ∧ K ⟨lay st.box b (spl cs o y.flat, k), st.tg, st.nx⟩) := rfl
theorem sStore_congr (P : Program) (t b o : Nat) (y : V) (st : S) {q q' : Option (List V × Nat)} (h : q = q') (K : S → Prop) : sStore P t b o y st q K = sStore P t b o y st q' K := by rw [h]

def sFieldR (P : Program) (fs : List V) (q : Option (Nat × TypeId)) (K : V → Prop) : Prop :=
  match q with
  | some (off, ft) => allOne fs ∧ partOk P ft fs off ∧ 0 < P.cellsOf ft ∧ K (.rptr (partV P ft fs off))
  | none => False
theorem aFieldAddr_rptr (P : Program) (t : TypeId) (fs : List V) (f : Nat) (K : V → Prop) : aFieldAddr P t (.rptr (.agg fs)) f K = sFieldR P fs (fieldAt P t f) K := by
  unfold aFieldAddr sFieldR; cases fieldAt P t f <;> rfl
theorem sFieldR_some (P : Program) (fs : List V) (off : Nat) (ft : TypeId) (K : V → Prop) : sFieldR P fs (some (off, ft)) K = (allOne fs ∧ partOk P ft fs off ∧ 0 < P.cellsOf ft ∧ K (.rptr (partV P ft fs off))) := rfl
theorem sFieldR_congr (P : Program) (fs : List V) {q q' : Option (Nat × TypeId)} (h : q = q') (K : V → Prop) : sFieldR P fs q K = sFieldR P fs q' K := by rw [h]

def sFieldP (P : Program) (b o : Nat) (q : Option (Nat × TypeId)) (K : V → Prop) : Prop :=
  match q with
  | some (off, ft) => hasT P ft = true ∧ 0 < P.cellsOf ft ∧ K (.at (.pointer (some ⟨b, o + off, none⟩)))
  | none => False
theorem aFieldAddr_ptr (P : Program) (t : TypeId) (b o : Nat) (f : Nat) (K : V → Prop) : aFieldAddr P t (.at (.pointer (some ⟨b, o, none⟩))) f K = sFieldP P b o (fieldAt P t f) K := by
  unfold aFieldAddr sFieldP; cases fieldAt P t f <;> rfl
theorem sFieldP_some (P : Program) (b o off : Nat) (ft : TypeId) (K : V → Prop) : sFieldP P b o (some (off, ft)) K = (hasT P ft = true ∧ 0 < P.cellsOf ft ∧ K (.at (.pointer (some ⟨b, o + off, none⟩)))) := rfl
theorem sFieldP_congr (P : Program) (b o : Nat) {q q' : Option (Nat × TypeId)} (h : q = q') (K : V → Prop) : sFieldP P b o q K = sFieldP P b o q' K := by rw [h]

def sField (P : Program) (fs : List V) (q : Option (Nat × TypeId)) (K : V → Prop) : Prop :=
  match q with
  | some (off, ft) => allOne fs ∧ partOk P ft fs off ∧ K (partV P ft fs off)
  | none => False
theorem aField_agg (P : Program) (t : TypeId) (fs : List V) (f : Nat) (K : V → Prop) : aField P t (.agg fs) f K = sField P fs (fieldAt P t f) K := by
  unfold aField sField; cases fieldAt P t f <;> rfl
theorem sField_some (P : Program) (fs : List V) (off : Nat) (ft : TypeId) (K : V → Prop) : sField P fs (some (off, ft)) K = (allOne fs ∧ partOk P ft fs off ∧ K (partV P ft fs off)) := rfl
theorem sField_congr (P : Program) (fs : List V) {q q' : Option (Nat × TypeId)} (h : q = q') (K : V → Prop) : sField P fs q K = sField P fs q' K := by rw [h]

def sIndex (P : Program) (es : List V) (n : Int) (q : Option TypeId) (K : V → Prop) : Prop :=
  match q with
  | some el => hasT P el = true ∧ (0 ≤ n ∧ n < (es.length : Int)) ∧ (es.getD n.toNat .any).size = P.cellsOf el ∧ K (.rptr (es.getD n.toNat .any))
  | none => False
theorem aIndexAddr_lst (P : Program) (t : TypeId) (tg : Tag) (es : List V) (k : IntKind) (n : Int) (K : V → Prop) : aIndexAddr P t (.lst tg es) (.at (.int k n)) K = sIndex P es n (elT P t) K := by
  unfold aIndexAddr sIndex; cases elT P t <;> rfl
theorem sIndex_some (P : Program) (es : List V) (n : Int) (el : TypeId) (K : V → Prop) : sIndex P es n (some el) K =
    (hasT P el = true ∧ (0 ≤ n ∧ n < (es.length : Int)) ∧ (es.getD n.toNat .any).size = P.cellsOf el ∧ K (.rptr (es.getD n.toNat .any))) := rfl
theorem sIndex_congr (P : Program) {es es' : List V} (h1 : es = es') {n n' : Int} (h2 : n = n') {q q' : Option TypeId} (h : q = q') (K : V → Prop) : sIndex P es n q K = sIndex P es' n' q' K := by rw [h1, h2, h]

def sIndexM (P : Program) (b o len : Nat) (n : Int) (q : Option TypeId) (K : V → Prop) : Prop :=
  match q with
  | some el => hasT P el = true ∧ (0 ≤ n ∧ n < (len : Int)) ∧ K (.at (.pointer (some ⟨b, o + n.toNat * P.cellsOf el, none⟩)))
  | none => False
theorem aIndexAddr_slice (P : Program) (t : TypeId) (b o len cap : Nat) (k : IntKind) (n : Int) (K : V → Prop) : aIndexAddr P t (.at (.slice (some ⟨b, o, none⟩) len cap)) (.at (.int k n)) K = sIndexM P b o len n (elT P t) K := by
  unfold aIndexAddr sIndexM; cases elT P t <;> rfl
theorem sIndexM_some (P : Program) (b o len : Nat) (n : Int) (el : TypeId) (K : V → Prop) : sIndexM P b o len n (some el) K = (hasT P el = true ∧ (0 ≤ n ∧ n < (len : Int)) ∧ K (.at (.pointer (some ⟨b, o + n.toNat * P.cellsOf el, none⟩)))) := rfl
theorem sIndexM_congr (P : Program) (b o len : Nat) {n n' : Int} (h2 : n = n') {q q' : Option TypeId} (h : q = q') (K : V → Prop) : sIndexM P b o len n q K = sIndexM P b o len n' q' K := by rw [h2, h]

def sAlloc (st : S) (q : Option (List V)) (K : V → S → Prop) : Prop :=
  match q with
  | some cs => aNew st cs K
  | none => False
theorem aAlloc_eq (P : Program) (st : S) (t : TypeId) (K : V → S → Prop) : aAlloc P st t K = sAlloc st (zeroC P t) K := by unfold aAlloc sAlloc; rfl
theorem sAlloc_some (st : S) (cs : List V) (K : V → S → Prop) : sAlloc st (some cs) K = aNew st cs K := rfl
theorem sAlloc_congr (st : S) {q q' : Option (List V)} (h : q = q') (K : V → S → Prop) : sAlloc st q K = sAlloc st q' K := by rw [h]

def sBuild2 (q : Option (List V)) (K : V → Prop) : Prop :=
  match q with
  | some cs => K (.agg cs)
  | none => False
def sBuild (P : Program) (t : TypeId) (ps : List (Nat × V)) (q : Option (List V)) (K : V → Prop) : Prop :=
  match q with
  | some cs => sBuild2 (fillV (placeOf P t) cs ps) K
  | none => False
theorem aBuild_eq (P : Program) (t : TypeId) (ps : List (Nat × V)) (K : V → Prop) : aBuild P t ps K = (isStructT P t = true ∧ sBuild P t ps (zeroC P t) K) := by
  unfold aBuild sBuild sBuild2
  cases zeroC P t <;> rfl
theorem sBuild_some (P : Program) (t : TypeId) (ps : List (Nat × V)) (cs : List V) (K : V → Prop) : sBuild P t ps (some cs) K = sBuild2 (fillV (placeOf P t) cs ps) K := rfl
theorem sBuild2_some (cs : List V) (K : V → Prop) : sBuild2 (some cs) K = K (.agg cs) := rfl
theorem sBuild_congr (P : Program) (t : TypeId) (ps : List (Nat × V)) {q q' : Option (List V)} (h : q = q') (K : V → Prop) : sBuild P t ps q K = sBuild P t ps q' K := by rw [h]
theorem sBuild2_congr {q q' : Option (List V)} (h : q = q') (K : V → Prop) : sBuild2 q K = sBuild2 q' K := by rw [h]
theorem fillV_nil (place : Nat → Option (Nat × Nat)) (cs : List V) : fillV place cs [] = some cs := rfl
def sFill (place : Nat → Option (Nat × Nat)) (cs : List V) (x : V) (r : List (Nat × V)) (q : Option (Nat × Nat)) : Option (List V) :=
  match q with
  | none => none
  | some (off, size) => if x.flat.length = size ∧ off + size ≤ cs.length ∧ x.flat.all V.isOne = true then fillV place (spl cs off x.flat) r else none
theorem fillV_cons (place : Nat → Option (Nat × Nat)) (cs : List V) (i : Nat) (x : V) (r : List (Nat × V)) : fillV place cs ((i, x) :: r) = sFill place cs x r (place i) := by
  unfold sFill
  rw [fillV]
  cases place i with
  | none => rfl
  | some p => obtain ⟨off, size⟩ := p; rfl
theorem sFill_some (place : Nat → Option (Nat × Nat)) (cs : List V) (x : V) (r : List (Nat × V)) (off size : Nat) : sFill place cs x r (some (off, size)) = if x.flat.length = size ∧ off + size ≤ cs.length ∧ x.flat.all V.isOne = true then fillV place (spl cs off x.flat) r else none := rfl
def sPlace (P : Program) (q : Option (Nat × TypeId)) : Option (Nat × Nat) :=
  match q with
  | none => none
  | some (o, t) => if hasT P t = true then some (o, P.cellsOf t) else none
theorem placeOf_eq (P : Program) (t : TypeId) (i : Nat) : placeOf P t i = sPlace P (fieldAt P t i) := by
  unfold placeOf sPlace; cases fieldAt P t i with
  | none => rfl
  | some p => obtain ⟨o, t⟩ := p; rfl
theorem sPlace_some (P : Program) (o t : Nat) : sPlace P (some (o, t)) = if hasT P t = true then some (o, P.cellsOf t) else none := rfl

def sBS (P : Program) (L : Pol) (dst : Option Nat) (st : S) (n : Nat) (parts : List (Nat × V)) (q : Option TypeId) (K : V → S → Prop) : Prop :=
  match q with
  | none => False
  | some el =>
    hasT P el = true ∧ (zeroC P el).isSome = true ∧ ((zeroC P el).map List.length = some (P.cellsOf el)) ∧ n * P.cellsOf el ≤ 2 ^ 24 ∧ n ≤ maxLen ∧ parts.length = n ∧ inOrder 0 parts = true ∧ elsOk (P.cellsOf el) (parts.map fun p => p.2.untag) ∧ (parts.all fun p => p.2.flat.all V.isOne) = true ∧
    (if (dst.map L.wr).getD false = true then
      allOne (flats (parts.map fun p => p.2)) ∧ ∀ b, look st.box b = none → K (.at (.slice (some ⟨b, 0, none⟩) n n)) ⟨lay st.box b (flats (parts.map fun p => p.2), n * P.cellsOf el), st.tg, st.nx⟩
    else if (dst.map L.own).getD false = true then
      K (.lst (.own st.nx false (P.cellsOf el)) (parts.map fun p => p.2.untag)) ⟨st.box, st.nx :: st.tg, st.nx + 1⟩
    else K (.lst .no (parts.map fun p => p.2.untag)) st)
theorem aBuildSlice_eq (P : Program) (L : Pol) (dst : Option Nat) (st : S) (t : TypeId) (n : Nat) (parts : List (Nat × V)) (K : V → S → Prop) : aBuildSlice P L dst st t n parts K = sBS P L dst st n parts (elT P t) K := by
  unfold aBuildSlice sBS; cases elT P t <;> rfl
theorem sBS_congr (P : Program) (L : Pol) (dst : Option Nat) (st : S) (n : Nat) {parts parts' : List (Nat × V)} (h1 : parts = parts') {q q' : Option TypeId} (h : q = q') (K : V → S → Prop) : sBS P L dst st n parts q K = sBS P L dst st n parts' q' K := by rw [h, h1]
/-- By what the policy says of the slot. -/
def sBSk (P : Program) (st : S) (n : Nat) (parts : List (Nat × V)) (el : TypeId) (w o : Bool) (K : V → S → Prop) : Prop :=
  hasT P el = true ∧ (zeroC P el).isSome = true ∧ ((zeroC P el).map List.length = some (P.cellsOf el)) ∧ n * P.cellsOf el ≤ 2 ^ 24 ∧ n ≤ maxLen ∧ parts.length = n ∧ inOrder 0 parts = true ∧ elsOk (P.cellsOf el) (parts.map fun p => p.2.untag) ∧ (parts.all fun p => p.2.flat.all V.isOne) = true ∧
    (if w = true then
      allOne (flats (parts.map fun p => p.2)) ∧ ∀ b, look st.box b = none → K (.at (.slice (some ⟨b, 0, none⟩) n n)) ⟨lay st.box b (flats (parts.map fun p => p.2), n * P.cellsOf el), st.tg, st.nx⟩
    else if o = true then
      K (.lst (.own st.nx false (P.cellsOf el)) (parts.map fun p => p.2.untag)) ⟨st.box, st.nx :: st.tg, st.nx + 1⟩
    else K (.lst .no (parts.map fun p => p.2.untag)) st)
theorem sBS_some (P : Program) (L : Pol) (d : Nat) (st : S) (n : Nat) (parts : List (Nat × V)) (el : TypeId) (K : V → S → Prop) : sBS P L (some d) st n parts (some el) K = sBSk P st n parts el (L.wr d) (L.own d) K := rfl
theorem sBSk_congr (P : Program) (st : S) (n : Nat) (parts : List (Nat × V)) (el : TypeId) {w w' o o' : Bool} (h1 : w = w') (h2 : o = o') (K : V → S → Prop) : sBSk P st n parts el w o K = sBSk P st n parts el w' o' K := by rw [h1, h2]
theorem sBSk_ff (P : Program) (st : S) (n : Nat) (parts : List (Nat × V)) (el : TypeId) (K : V → S → Prop) : sBSk P st n parts el false false K =
    (hasT P el = true ∧ (zeroC P el).isSome = true ∧ ((zeroC P el).map List.length = some (P.cellsOf el)) ∧ n * P.cellsOf el ≤ 2 ^ 24 ∧ n ≤ maxLen ∧ parts.length = n ∧ inOrder 0 parts = true ∧ elsOk (P.cellsOf el) (parts.map fun p => p.2.untag) ∧ (parts.all fun p => p.2.flat.all V.isOne) = true ∧
      K (.lst .no (parts.map fun p => p.2.untag)) st) := rfl
theorem sBSk_ft (P : Program) (st : S) (n : Nat) (parts : List (Nat × V)) (el : TypeId) (K : V → S → Prop) : sBSk P st n parts el false true K =
    (hasT P el = true ∧ (zeroC P el).isSome = true ∧ ((zeroC P el).map List.length = some (P.cellsOf el)) ∧ n * P.cellsOf el ≤ 2 ^ 24 ∧ n ≤ maxLen ∧ parts.length = n ∧ inOrder 0 parts = true ∧ elsOk (P.cellsOf el) (parts.map fun p => p.2.untag) ∧ (parts.all fun p => p.2.flat.all V.isOne) = true ∧
      K (.lst (.own st.nx false (P.cellsOf el)) (parts.map fun p => p.2.untag)) ⟨st.box, st.nx :: st.tg, st.nx + 1⟩) := rfl
theorem sBSk_t (P : Program) (st : S) (n : Nat) (parts : List (Nat × V)) (el : TypeId) (o : Bool) (K : V → S → Prop) : sBSk P st n parts el true o K =
    (hasT P el = true ∧ (zeroC P el).isSome = true ∧ ((zeroC P el).map List.length = some (P.cellsOf el)) ∧ n * P.cellsOf el ≤ 2 ^ 24 ∧ n ≤ maxLen ∧ parts.length = n ∧ inOrder 0 parts = true ∧ elsOk (P.cellsOf el) (parts.map fun p => p.2.untag) ∧ (parts.all fun p => p.2.flat.all V.isOne) = true ∧
      allOne (flats (parts.map fun p => p.2)) ∧ ∀ b, look st.box b = none → K (.at (.slice (some ⟨b, 0, none⟩) n n)) ⟨lay st.box b (flats (parts.map fun p => p.2), n * P.cellsOf el), st.tg, st.nx⟩) := rfl
theorem all_one {p : Nat × V → Prop} (x : Nat × V) : (∀ q ∈ [x], p q) = p x := by simp
theorem all_two {p : Nat × V → Prop} (x y : Nat × V) : (∀ q ∈ [x, y], p q) = (p x ∧ p y) := by simp
theorem all_nil {p : Nat × V → Prop} : (∀ q ∈ ([] : List (Nat × V)), p q) = True := by simp
theorem elsOk_nil (sz : Nat) : elsOk sz [] = True := by simp [elsOk]
theorem elsOk_cons (sz : Nat) (x : V) (r : List V) : elsOk sz (x :: r) = (x.size = sz ∧ elsOk sz r) := by simp [elsOk]
theorem pow24 : (2 : Nat) ^ 24 = 16777216 := by decide
theorem one_le_maxLen : 1 ≤ maxLen := by simp [maxLen]
theorem two_le_maxLen : 2 ≤ maxLen := by simp [maxLen]
theorem zero_le_maxLen : 0 ≤ maxLen := Nat.zero_le _

theorem getD_map {α : Type} (l : List α) (f : α → V) (i : Nat) (h : i < l.length) : (l.map f).getD i .any = f l[i] := by simp [h]

/-- It is one of int's numbers. -/
theorem wrap_small (n : Int) (h1 : -9223372036854775808 ≤ n) (h2 : n ≤ 9223372036854775807) : IntKind.i64.wrap n = n := IntWalk.i64_in n (by omega) 

end Go.Al

/-
  AL, part 20: append in a walk; a nil slice that is to grow. General: no program in sight.
-/
namespace Go.Al
open Go.RowKit

/-- What an append of ys wants of the element type. -/
def appOk (P : Program) (el : TypeId) (n : Nat) (ys : List V) : Prop :=
  hasT P el = true ∧ ((zeroC P el).map List.length = some (P.cellsOf el)) ∧ 0 < P.cellsOf el ∧ elsOk (P.cellsOf el) ys ∧ (n + ys.length) * P.bytesOf el ≤ 140737488355328 ∧ n + ys.length ≤ maxLen

def sApp (P : Program) (L : Pol) (dst : Option Nat) (st : S) (t t2 : TypeId) (s : V) (ys : List V) (q : Option TypeId) (K : V → S → Prop) : Prop :=
  match q with
  | none => False
  | some el => t2 = t ∧ hasT P el = true ∧ ((zeroC P el).map List.length = some (P.cellsOf el)) ∧ 0 < P.cellsOf el ∧ elsOk (P.cellsOf el) ys ∧
    (match s with
     | .lst .nil [] => ys.length * P.bytesOf el ≤ 140737488355328 ∧ ys.length ≤ maxLen ∧
        (if (dst.map L.wr).getD false = true then
          ys ≠ [] ∧ allOne (flats ys) ∧ ∀ b cap, look st.box b = none → ys.length ≤ cap → K (.at (.slice (some ⟨b, 0, none⟩) ys.length cap)) ⟨lay st.box b (flats ys, cap * P.cellsOf el), st.tg, st.nx⟩
        else K (.lst (.own st.nx true (P.cellsOf el)) ys) ⟨st.box, st.nx :: st.tg, st.nx + 1⟩)
     | .lst (.own g nb sz) es => g ∈ st.tg ∧ sz = P.cellsOf el ∧ (es.length + ys.length) * P.bytesOf el ≤ 140737488355328 ∧ es.length + ys.length ≤ maxLen ∧
        K (.lst (.own st.nx nb sz) (es ++ ys)) ⟨st.box, st.nx :: st.tg.erase g, st.nx + 1⟩
     | .at (.slice (some ⟨b, 0, none⟩) len cap) =>
        (match look st.box b with
         | some (cs, k) => (dst.map L.wr).getD false = true ∧ k = cap * P.cellsOf el ∧ len ≤ cap ∧ len * P.cellsOf el ≤ cs.length ∧ (len + ys.length) * P.bytesOf el ≤ 140737488355328 ∧ len + ys.length ≤ maxLen ∧ allOne (flats ys) ∧
            ∀ b' cap', look (wipe st.box b) b' = none → len + ys.length ≤ cap' →
              K (.at (.slice (some ⟨b', 0, none⟩) (len + ys.length) cap')) ⟨lay (wipe st.box b) b' (cs.take (len * P.cellsOf el) ++ flats ys, cap' * P.cellsOf el), st.tg, st.nx⟩
         | none => False)
     | _ => False)

theorem aAppend_eq (P : Program) (L : Pol) (dst : Option Nat) (st : S) (t t2 : TypeId) (s : V) (tg : Tag) (ys : List V) (K : V → S → Prop) : aAppend P L dst st t t2 s (.lst tg ys) K = sApp P L dst st t t2 s ys (elT P t) K := by
  unfold aAppend sApp
  cases elT P t <;> rfl
theorem sApp_congr (P : Program) (L : Pol) (dst : Option Nat) (st : S) (t t2 : TypeId) {s s' : V} (h1 : s = s') {ys ys' : List V} (h2 : ys = ys') {q q' : Option TypeId} (h : q = q') (K : V → S → Prop) : sApp P L dst st t t2 s ys q K = sApp P L dst st t t2 s' ys' q' K := by
  rw [h1, h2, h]

def sAppN (P : Program) (st : S) (ys : List V) (el : TypeId) (w : Bool) (K : V → S → Prop) : Prop :=
  appOk P el 0 ys ∧ (if w = true then
          ys ≠ [] ∧ allOne (flats ys) ∧ ∀ b cap, look st.box b = none → ys.length ≤ cap → K (.at (.slice (some ⟨b, 0, none⟩) ys.length cap)) ⟨lay st.box b (flats ys, cap * P.cellsOf el), st.tg, st.nx⟩
        else K (.lst (.own st.nx true (P.cellsOf el)) ys) ⟨st.box, st.nx :: st.tg, st.nx + 1⟩)
theorem sApp_nil (P : Program) (L : Pol) (d : Nat) (st : S) (t : TypeId) (ys : List V) (el : TypeId) (K : V → S → Prop) : sApp P L (some d) st t t (.lst .nil []) ys (some el) K = sAppN P st ys el (L.wr d) K := by
  unfold sApp sAppN appOk
  simp [and_assoc]
theorem sAppN_congr (P : Program) (st : S) (ys : List V) (el : TypeId) {w w' : Bool} (h1 : w = w') (K : V → S → Prop) : sAppN P st ys el w K = sAppN P st ys el w' K := by rw [h1]
theorem sAppN_f (P : Program) (st : S) (ys : List V) (el : TypeId) (K : V → S → Prop) : sAppN P st ys el false K = (appOk P el 0 ys ∧ K (.lst (.own st.nx true (P.cellsOf el)) ys) ⟨st.box, st.nx :: st.tg, st.nx + 1⟩) := rfl
theorem sAppN_t (P : Program) (st : S) (ys : List V) (el : TypeId) (K : V → S → Prop) : sAppN P st ys el true K =
  (appOk P el 0 ys ∧ ys ≠ [] ∧ allOne (flats ys) ∧ ∀ b cap, look st.box b = none → ys.length ≤ cap → K (.at (.slice (some ⟨b, 0, none⟩) ys.length cap)) ⟨lay st.box b (flats ys, cap * P.cellsOf el), st.tg, st.nx⟩) := rfl
theorem sApp_own (P : Program) (L : Pol) (d : Nat) (st : S) (t : TypeId) (g : Nat) (nb : Bool) (sz : Nat) (es ys : List V) (el : TypeId) (K : V → S → Prop) : sApp P L (some d) st t t (.lst (.own g nb sz) es) ys (some el) K =
    (appOk P el es.length ys ∧ g ∈ st.tg ∧ sz = P.cellsOf el ∧ K (.lst (.own st.nx nb sz) (es ++ ys)) ⟨st.box, st.nx :: st.tg.erase g, st.nx + 1⟩) := by
  unfold sApp appOk
  simp only [true_and, and_assoc]
  refine propext ⟨fun ⟨a, b, c, d, e, f, g, h, i⟩ => ⟨a, b, c, d, g, h, e, f, i⟩, fun ⟨a, b, c, d, g, h, e, f, i⟩ => ⟨a, b, c, d, e, f, g, h, i⟩⟩

theorem untag_tagOf (es : List V) : V.untag (.lst (tagOf es) es) = .lst (tagOf es) es := by
  cases es <;> rfl
theorem untag_at (v : Value) : V.untag (.at v) = .at v := rfl
theorem untag_rptr (x : V) : V.untag (.rptr x) = .rptr x := rfl
theorem untag_own (t sz : Nat) (es : List V) : V.untag (.lst (.own t true sz) es) = .lst (tagOf es) es := rfl
theorem untag_ownf (t sz : Nat) (es : List V) : V.untag (.lst (.own t false sz) es) = .lst .no es := rfl
theorem untag_no (es : List V) : V.untag (.lst .no es) = .lst .no es := rfl
theorem untag_nil (es : List V) : V.untag (.lst .nil es) = .lst .nil es := rfl
theorem untag_agg (fs : List V) : V.untag (.agg fs) = .agg (fs.map untag1) := rfl
theorem untag1_tagOf (es : List V) : untag1 (.lst (tagOf es) es) = .lst (tagOf es) es := by
  cases es <;> rfl
theorem untag1_at (v : Value) : untag1 (.at v) = .at v := rfl
theorem untag1_own (t sz : Nat) (es : List V) : untag1 (.lst (.own t true sz) es) = .lst (tagOf es) es := rfl
theorem untag1_no (es : List V) : untag1 (.lst .no es) = .lst .no es := rfl
theorem untag1_nil (es : List V) : untag1 (.lst .nil es) = .lst .nil es := rfl
theorem flat_one_at (v : Value) : (V.flat (.at v)).all V.isOne = true := rfl
theorem flat_one_lst (tg : Tag) (es : List V) : (V.flat (.lst tg es)).all V.isOne = true := rfl
theorem flat_one_rptr (x : V) : (V.flat (.rptr x)).all V.isOne = true := rfl
theorem flat_one_agg (fs : List V) : (V.flat (.agg fs)).all V.isOne = fs.all V.isOne := rfl

section
variable {P : Program} {L : Pol} {ds : List (Option Nat)} {KP : List PanicEntry → S → Prop} {os : List Oper} {K : Env → S → Prop} {e : Env} {st : S}
variable {d : Option Nat} {ty : TypeId} {pos : String} {af : Array Edge}
/-- A call by a contract without memory. -/
theorem AL_callp {f : FuncId} {xs : List Operand} {ts : Array TypeId} {as : List V} {r : V} (hp : PureF P f as r) (hL : L.pf f = true) (hc : isCode P f = true) (hu : (xs.map e.ev).map V.untag = as) (ha : ((xs.map e.ev).all fun x => x.flat.all V.isOne) = true)
    (h : AL P L ds KP os K (e.putO d r) st) : AL P L ds KP (⟨d, .call ⟨.value (.func f), xs.toArray, ts⟩, ty, pos, af, none⟩ :: os) K e st := by
  subst hu
  exact AL_call r hL hc ha hp h
end

theorem look_append (l r : List (Nat × List V × Nat)) (b : Nat) : look (l ++ r) b = (look l b).or (look r b) := by
  induction l with
  | nil => rfl
  | cons p q ih =>
    obtain ⟨k, c⟩ := p
    simp only [List.cons_append, look]
    split
    · rfl
    · exact ih
/-- Boxes of no more use are let go. -/
theorem S.sub_front (l r : List (Nat × List V × Nat)) (tg : List Nat) (n : Nat) : S.sub ⟨l ++ r, tg, n⟩ ⟨l, tg, n⟩ := by
  refine ⟨fun b c h => ?_, fun _ h => h, fun h => h, fun b h => ?_, Nat.le_refl _⟩
  · show look (l ++ r) b = some c
    rw [look_append]
    replace h : look l b = some c := h
    rw [h]; rfl
  · replace h : look (l ++ r) b = none := h
    rw [look_append] at h
    show look l b = none
    cases hq : look l b with
    | none => rfl
    | some c => rw [hq] at h; cases h
theorem S.sub_one (x : Nat × List V × Nat) (r : List (Nat × List V × Nat)) (tg : List Nat) (n : Nat) : S.sub ⟨x :: r, tg, n⟩ ⟨[x], tg, n⟩ := S.sub_front [x] r tg n
theorem S.sub_none (r : List (Nat × List V × Nat)) (tg : List Nat) (n : Nat) : S.sub ⟨r, tg, n⟩ ⟨[], tg, n⟩ := S.sub_front [] r tg n
theorem elsOk_map {α : Type} (sz : Nat) (f : α → V) (h : ∀ x, (f x).size = sz) (l : List α) : elsOk sz (l.map f) := fun x hx => by
  obtain ⟨y, _, rfl⟩ := List.mem_map.1 hx
  exact h y

/-- The slots hold these. -/
def Env.has (e : Env) : List (Nat × V) → Prop
  | [] => True
  | (k, x) :: r => e.get k = x ∧ Env.has e r
theorem Env.sub_has (e : Env) (l : List (Nat × V)) (h : e.has l) : e.sub l := by
  refine Env.sub_of e l ?_
  induction l with
  | nil => intro p hp; cases hp
  | cons q r ih =>
    obtain ⟨k, x⟩ := q
    intro p hp
    rcases List.mem_cons.1 hp with rfl | hp
    · exact h.1
    · exact ih h.2 p hp
/-- Two slices of numbers. -/
theorem int_succ (i : Nat) (h : i < 9223372036854775807) : V.at (.int .i64 (IntKind.i64.wrap ((i : Int) + 1))) = V.at (.int .i64 ((i + 1 : Nat) : Int)) := by
  rw [wrap_small _ (by omega) (by omega)]; rfl

section
variable {P : Program} {X : Cx} {Q : Exit → Env → S → Prop} {e : Env} {st : S}

/-- A ghost step: a nil slice gets a name to grow under. -/
theorem awp_mkown {c : Code} (k sz : Nat) (h0 : e.get k = .lst .nil []) (hk : decide (k < X.N) = true) (h : awp P X c Q (e.put k (.lst (.own st.nx true sz) [])) ⟨st.box, st.nx :: st.tg, st.nx + 1⟩) : awp P X c Q e st := by
  intro g a w hr
  obtain ⟨i2, l2⟩ := hr.inv.addTag rfl none (fun _ _ _ _ e => by cases e)
  have h1 := hr.env k
  rw [h0] at h1
  have h2 := RV_nil h1
  have hs : Step X.B g w ⟨g.wm, fun j => if j = st.nx then some none else g.tb j⟩ w := ⟨l2, .refl _ _, .refl _, fun _ _ => rfl⟩
  have hrel : Rel X ⟨g.wm, fun j => if j = st.nx then some none else g.tb j⟩ (e.put k (.lst (.own st.nx true sz) [])) ⟨st.box, st.nx :: st.tg, st.nx + 1⟩ a w := by
    refine ⟨i2, fun j => ?_, hr.size, hr.df, hr.gl⟩
    rw [Env.get_put]
    split
    · rename_i e1
      subst e1
      rw [h2]
      refine RV_lst_mk ?_
      simp only [RC]
      exact .inl ⟨trivial, trivial, if_pos rfl, rfl⟩
    · exact (hr.env j).later l2
  refine wpIn_mono (h _ a w hrel) ?_
  rintro ex a' w' ⟨g', e', st', k1, k2, k3⟩
  exact ⟨g', e', st', hs.trans k1, k2, k3⟩

end
end Go.Al

/-
  AL, part 21: what was written is only read from now on. General: no program in sight.
-/
namespace Go.Al
open Go.RowKit

/-- append onto a row that is written. -/
def sAppW (P : Program) (st : S) (b len cap : Nat) (ys : List V) (w : Bool) (el : TypeId) (q : Option (List V × Nat)) (K : V → S → Prop) : Prop :=
  match q with
  | none => False
  | some (cs, k) => appOk P el len ys ∧ w = true ∧ k = cap * P.cellsOf el ∧ len ≤ cap ∧ len * P.cellsOf el ≤ cs.length ∧ allOne (flats ys) ∧
    ∀ b' cap', look (wipe st.box b) b' = none → len + ys.length ≤ cap' →
      K (.at (.slice (some ⟨b', 0, none⟩) (len + ys.length) cap')) ⟨lay (wipe st.box b) b' (cs.take (len * P.cellsOf el) ++ flats ys, cap' * P.cellsOf el), st.tg, st.nx⟩
theorem sApp_box (P : Program) (L : Pol) (d : Nat) (st : S) (t : TypeId) (b len cap : Nat) (ys : List V) (el : TypeId) (K : V → S → Prop) :
    sApp P L (some d) st t t (.at (.slice (some ⟨b, 0, none⟩) len cap)) ys (some el) K = sAppW P st b len cap ys (L.wr d) el (look st.box b) K := by
  unfold sApp sAppW appOk
  simp only [true_and]
  cases look st.box b with
  | none => simp
  | some p =>
    obtain ⟨cs, k⟩ := p
    simp only [Option.map_some, Option.getD_some]
    refine propext ⟨fun ⟨a, b, c, d, e, f, g, h, i, j, k, l⟩ => ⟨⟨a, b, c, d, i, j⟩, e, f, g, h, k, l⟩, fun ⟨⟨a, b, c, d, i, j⟩, e, f, g, h, k, l⟩ => ⟨a, b, c, d, e, f, g, h, i, j, k, l⟩⟩
theorem sAppW_congr (P : Program) (st : S) (b len cap : Nat) (ys : List V) {w w' : Bool} (h1 : w = w') (el : TypeId) {q q' : Option (List V × Nat)} (h : q = q') (K : V → S → Prop) : sAppW P st b len cap ys w el q K = sAppW P st b len cap ys w' el q' K := by rw [h, h1]
theorem sAppW_some (P : Program) (st : S) (b len cap : Nat) (ys : List V) (el : TypeId) (cs : List V) (k : Nat) (K : V → S → Prop) : sAppW P st b len cap ys true el (some (cs, k)) K =
    (appOk P el len ys ∧ k = cap * P.cellsOf el ∧ len ≤ cap ∧ len * P.cellsOf el ≤ cs.length ∧ allOne (flats ys) ∧
    ∀ b' cap', look (wipe st.box b) b' = none → len + ys.length ≤ cap' →
      K (.at (.slice (some ⟨b', 0, none⟩) (len + ys.length) cap')) ⟨lay (wipe st.box b) b' (cs.take (len * P.cellsOf el) ++ flats ys, cap' * P.cellsOf el), st.tg, st.nx⟩) := by
  simp only [sAppW, true_and]

/-- append of a row that is written. -/
def appOkB (P : Program) (el : TypeId) (n m : Nat) : Prop :=
  hasT P el = true ∧ ((zeroC P el).map List.length = some (P.cellsOf el)) ∧ 0 < P.cellsOf el ∧ (n + m) * P.bytesOf el ≤ 140737488355328 ∧ n + m ≤ maxLen
def sAppS (P : Program) (st : S) (s : V) (m : Nat) (w : Bool) (q : Option TypeId) (q2 : Option (List V × Nat)) (K : V → S → Prop) : Prop :=
  match q, q2 with
  | some el, some (css, _) => hasT P el = true ∧ ((zeroC P el).map List.length = some (P.cellsOf el)) ∧ 0 < P.cellsOf el ∧ w = true ∧ m * P.cellsOf el ≤ css.length ∧
      (match s with
       | .lst .nil [] => m * P.bytesOf el ≤ 140737488355328 ∧ m ≤ maxLen ∧ m ≠ 0 ∧
          ∀ b cap, look st.box b = none → m ≤ cap → K (.at (.slice (some ⟨b, 0, none⟩) m cap)) ⟨lay st.box b (css.take (m * P.cellsOf el), cap * P.cellsOf el), st.tg, st.nx⟩
       | .at (.slice (some ⟨b, 0, none⟩) len cap) =>
          (match look st.box b with
           | some (cs, k) => k = cap * P.cellsOf el ∧ len ≤ cap ∧ len * P.cellsOf el ≤ cs.length ∧ (len + m) * P.bytesOf el ≤ 140737488355328 ∧ len + m ≤ maxLen ∧
              ∀ b' cap', look (wipe st.box b) b' = none → len + m ≤ cap' →
                K (.at (.slice (some ⟨b', 0, none⟩) (len + m) cap')) ⟨lay (wipe st.box b) b' (cs.take (len * P.cellsOf el) ++ css.take (m * P.cellsOf el), cap' * P.cellsOf el), st.tg, st.nx⟩
           | none => False)
       | _ => False)
  | _, _ => False
theorem aAppend_at (P : Program) (L : Pol) (d : Nat) (st : S) (t : TypeId) (s : V) (bs m cp : Nat) (K : V → S → Prop) :
    aAppend P L (some d) st t t s (.at (.slice (some ⟨bs, 0, none⟩) m cp)) K = sAppS P st s m (L.wr d) (elT P t) (look st.box bs) K := by
  unfold aAppend sAppS
  cases elT P t with
  | none => rfl
  | some el =>
    simp only [true_and]
    cases look st.box bs with
    | none => simp
    | some p => rfl
theorem sAppS_congr (P : Program) (st : S) {s s' : V} (h0 : s = s') (m : Nat) {w w' : Bool} (h1 : w = w') {q q' : Option TypeId} (h2 : q = q') {r r' : Option (List V × Nat)} (h3 : r = r') (K : V → S → Prop) : sAppS P st s m w q r K = sAppS P st s' m w' q' r' K := by
  rw [h0, h1, h2, h3]
theorem sAppS_nil (P : Program) (st : S) (m : Nat) (el : TypeId) (css : List V) (kk : Nat) (K : V → S → Prop) : sAppS P st (.lst .nil []) m true (some el) (some (css, kk)) K =
    (appOkB P el 0 m ∧ m * P.cellsOf el ≤ css.length ∧ m ≠ 0 ∧
      ∀ b cap, look st.box b = none → m ≤ cap → K (.at (.slice (some ⟨b, 0, none⟩) m cap)) ⟨lay st.box b (css.take (m * P.cellsOf el), cap * P.cellsOf el), st.tg, st.nx⟩) := by
  simp only [sAppS, appOkB, true_and, Nat.zero_add]
  refine propext ⟨fun ⟨a, b, c, d, e, f, g, h⟩ => ⟨⟨a, b, c, e, f⟩, d, g, h⟩, fun ⟨⟨a, b, c, e, f⟩, d, g, h⟩ => ⟨a, b, c, d, e, f, g, h⟩⟩
def sAppS2 (P : Program) (st : S) (b len cap m : Nat) (el : TypeId) (css : List V) (q : Option (List V × Nat)) (K : V → S → Prop) : Prop :=
  match q with
  | some (cs, k) => appOkB P el len m ∧ m * P.cellsOf el ≤ css.length ∧ k = cap * P.cellsOf el ∧ len ≤ cap ∧ len * P.cellsOf el ≤ cs.length ∧
              ∀ b' cap', look (wipe st.box b) b' = none → len + m ≤ cap' →
                K (.at (.slice (some ⟨b', 0, none⟩) (len + m) cap')) ⟨lay (wipe st.box b) b' (cs.take (len * P.cellsOf el) ++ css.take (m * P.cellsOf el), cap' * P.cellsOf el), st.tg, st.nx⟩
  | none => False
theorem sAppS_box (P : Program) (st : S) (b len cap m : Nat) (el : TypeId) (css : List V) (kk : Nat) (K : V → S → Prop) : sAppS P st (.at (.slice (some ⟨b, 0, none⟩) len cap)) m true (some el) (some (css, kk)) K =
    sAppS2 P st b len cap m el css (look st.box b) K := by
  simp only [sAppS, sAppS2, appOkB, true_and]
  cases look st.box b with
  | none => simp
  | some p =>
    obtain ⟨cs, k⟩ := p
    simp only
    refine propext ⟨fun ⟨a, b, c, d, e, f, g, h, i, j⟩ => ⟨⟨a, b, c, h, i⟩, d, e, f, g, j⟩, fun ⟨⟨a, b, c, h, i⟩, d, e, f, g, j⟩ => ⟨a, b, c, d, e, f, g, h, i, j⟩⟩
theorem sAppS2_congr (P : Program) (st : S) (b len cap m : Nat) (el : TypeId) (css : List V) {q q' : Option (List V × Nat)} (h : q = q') (K : V → S → Prop) : sAppS2 P st b len cap m el css q K = sAppS2 P st b len cap m el css q' K := by rw [h]
theorem sAppS2_some (P : Program) (st : S) (b len cap m : Nat) (el : TypeId) (css cs : List V) (k : Nat) (K : V → S → Prop) : sAppS2 P st b len cap m el css (some (cs, k)) K =
    (appOkB P el len m ∧ m * P.cellsOf el ≤ css.length ∧ k = cap * P.cellsOf el ∧ len ≤ cap ∧ len * P.cellsOf el ≤ cs.length ∧
              ∀ b' cap', look (wipe st.box b) b' = none → len + m ≤ cap' →
                K (.at (.slice (some ⟨b', 0, none⟩) (len + m) cap')) ⟨lay (wipe st.box b) b' (cs.take (len * P.cellsOf el) ++ css.take (m * P.cellsOf el), cap' * P.cellsOf el), st.tg, st.nx⟩) := rfl

theorem retER_normal (P : Program) (rs : List ResultVar) (Q : Outc → S → Prop) (e : Env) (s : S) : retER P rs Q .normal e s = aResultsR P rs e s fun xs => ∃ s0, s.sub s0 ∧ Q (.ret (finV xs)) s0 := rfl
theorem retER_ret (P : Program) (rs : List ResultVar) (Q : Outc → S → Prop) (e : Env) (s : S) : retER P rs Q .ret e s = aResultsR P rs e s fun xs => ∃ s0, s.sub s0 ∧ Q (.ret (finV xs)) s0 := rfl
theorem look_self {α : Type} (a : Nat) (x y : α) : (if a = a then x else y) = x := if_pos rfl
theorem Sub.drop' {x y : V} {xs ys : List V} (e : x.untag = y) (h : Sub xs ys) : Sub (x :: xs) (y :: ys) := by subst e; exact .drop h
section
variable {P : Program} {L : Pol} {ds : List (Option Nat)} {KP : List PanicEntry → S → Prop} {os : List Oper} {K : Env → S → Prop} {e : Env} {st : S}
variable {d : Option Nat} {ty : TypeId} {pos : String} {af : Array Edge}
/-- A guarded operation: by the slot of its guard. -/
def aGuardD (q : Option Nat) (e : Env) (b : Bool) (A B : Prop) : Prop :=
  match q with
  | some t => aGuard (e.get t) b A B
  | none => False
theorem AL_guardD (op : Op) (j : Nat) (b : Bool) : AL P L ds KP (⟨d, op, ty, pos, af, some (j, b)⟩ :: os) K e st =
    aGuardD (ds.getD j none) e b (AL P L ds KP (⟨d, op, ty, pos, af, none⟩ :: os) K e st) (AL P L ds KP os K (e.putO d (.tup [])) st) := by
  cases hj : ds.getD j none with
  | some t => exact AL_guard op j b t hj
  | none =>
    show astep P L ds KP ⟨d, op, ty, pos, af, some (j, b)⟩ (AL P L ds KP os K) e st = False
    unfold astep awant
    simp only [hj]
theorem aGuardD_congr {q q' : Option Nat} (h : q = q') (e : Env) (b : Bool) (A B : Prop) : aGuardD q e b A B = aGuardD q' e b A B := by rw [h]
theorem aGuardD_some (t : Nat) (e : Env) (b : Bool) (A B : Prop) : aGuardD (some t) e b A B = aGuard (e.get t) b A B := rfl
end
def sSliceB (P : Program) (b o cap : Nat) (h : Int) (q : Option TypeId) (K : V → Prop) : Prop :=
  match q with
  | some el => hasT P el = true ∧ (0 ≤ h ∧ h ≤ (cap : Int)) ∧ K (.at (.slice (some ⟨b, o, none⟩) h.toNat cap))
  | none => False
theorem aSlice_box_hi (P : Program) (t : TypeId) (b o len cap : Nat) (k : IntKind) (h : Int) (K : V → Prop) : aSlice P t (.at (.slice (some ⟨b, o, none⟩) len cap)) none (some (.at (.int k h))) K = sSliceB P b o cap h (elT P t) K := by
  unfold aSlice sSliceB
  cases elT P t with
  | none => rfl
  | some el =>
    have e1 : (if (cap : Int) = 0 then o else o + (0 : Int).toNat * P.cellsOf el) = o := by split <;> simp
    simp only [boundV, Int.toNat_zero, Nat.sub_zero, Int.le_refl, true_and]
    rw [Int.toNat_zero] at e1
    rw [e1]
theorem sSliceB_some (P : Program) (b o cap : Nat) (h : Int) (el : TypeId) (K : V → Prop) : sSliceB P b o cap h (some el) K = (hasT P el = true ∧ (0 ≤ h ∧ h ≤ (cap : Int)) ∧ K (.at (.slice (some ⟨b, o, none⟩) h.toNat cap))) := rfl
theorem sSliceB_congr (P : Program) (b o cap : Nat) {h h' : Int} (e : h = h') {q q' : Option TypeId} (e2 : q = q') (K : V → Prop) : sSliceB P b o cap h q K = sSliceB P b o cap h' q' K := by rw [e, e2]

theorem S.sub_look {bx bx' : List (Nat × List V × Nat)} {tg : List Nat} {n : Nat} (h : ∀ b, look bx b = look bx' b) : S.sub ⟨bx, tg, n⟩ ⟨bx', tg, n⟩ :=
  ⟨fun b c hl => (h b).trans hl, fun _ hm => hm, fun hn => hn, fun b hl => (h b).symm.trans hl, Nat.le_refl _⟩
theorem S.sub_less {bx bx' : List (Nat × List V × Nat)} {tg : List Nat} {n : Nat} (h : ∀ b, look bx' b = look bx b ∨ look bx' b = none) : S.sub ⟨bx, tg, n⟩ ⟨bx', tg, n⟩ := by
  refine ⟨fun b c hl => ?_, fun _ hm => hm, fun hn => hn, fun b hl => ?_, Nat.le_refl _⟩
  · rcases h b with h | h
    · rw [← h]; exact hl
    · replace hl : look bx' b = some c := hl
      rw [h] at hl; cases hl
  · rcases h b with h | h
    · exact h.trans hl
    · exact h

section
variable {P : Program} {X : Cx} {Q : Exit → Env → S → Prop} {e : Env} {st : S} {g : Gh} {w : World}

theorem RCs_set_at {v : Value} {x : V} (hx : RC g w x [v]) : ∀ {cs : List V} {us : List Value} {j : Nat}, cs[j]? = some (.at v) → RCs g w cs us → RCs g w (cs.set j x) us
  | [], us, j, hj, _ => by simp at hj
  | c :: r, us, 0, hj, h => by
    simp only [RCs] at h
    obtain ⟨u1, u2, rfl, h1, h2⟩ := h
    simp only [List.getElem?_cons_zero, Option.some.injEq] at hj
    subst hj
    simp only [RC] at h1
    simp only [List.set_cons_zero, RCs]
    exact ⟨u1, u2, rfl, by rw [h1.1]; exact hx, h2⟩
  | c :: r, us, j + 1, hj, h => by
    simp only [RCs] at h
    obtain ⟨u1, u2, rfl, h1, h2⟩ := h
    simp only [List.getElem?_cons_succ] at hj
    simp only [List.set_cons_succ, RCs]
    exact ⟨u1, u2, rfl, h1, RCs_set_at hx hj h2⟩

theorem RC_of_flat {x : V} {us : List Value} (h1 : allOne x.flat) (h : RCs g w x.flat us) : RC g w x us := by
  cases x with
  | any => simp [V.flat, allOne, V.isOne] at h1
  | tup vs => simp [V.flat, allOne, V.isOne] at h1
  | agg fs => simpa only [RC, V.flat] using h
  | _ =>
    simp only [V.flat, RCs] at h
    obtain ⟨u1, u2, rfl, h2, rfl⟩ := h
    simpa using h2

theorem RCs_part : ∀ {xs ys : List V} {us : List Value}, RCs g w (xs ++ ys) us → ∃ u1 u2, us = u1 ++ u2 ∧ RCs g w xs u1 ∧ RCs g w ys u2
  | [], ys, us, h => ⟨[], us, rfl, by simp [RCs], h⟩
  | x :: xs, ys, us, h => by
    simp only [List.cons_append, RCs] at h
    obtain ⟨u1, u2, rfl, h1, h2⟩ := h
    obtain ⟨v1, v2, rfl, h3, h4⟩ := RCs_part h2
    exact ⟨u1 ++ v1, v2, by simp, by simp only [RCs]; exact ⟨u1, v1, rfl, h1, h3⟩, h4⟩

theorem RCs_of_flats : ∀ {es : List V} {us : List Value}, (∀ x ∈ es, allOne x.flat) → RCs g w (flats es) us → RCs g w es us
  | [], us, _, h => h
  | x :: xs, us, h1, h => by
    obtain ⟨u1, u2, rfl, h2, h3⟩ := RCs_part (xs := x.flat) (ys := flats xs) h
    simp only [RCs]
    exact ⟨u1, u2, rfl, RC_of_flat (h1 x (by simp)) h2, RCs_of_flats (fun y hy => h1 y (by simp [hy])) h3⟩

/-- What is known in between. -/
theorem awp_cut {c c2 : Code} (E1 : Env) (S1 : S) (h1 : awp P X c (fun ex e' s' => ex = .normal ∧ e'.sub E1 ∧ s'.sub S1) e st) (h2 : awp P X c2 Q E1 S1) : awp P X c (thenE (awp P X c2 Q) Q) e st := by
  intro g a w hr
  refine wpIn_mono (h1 g a w hr) ?_
  rintro ex a' w' ⟨g', e', st', k1, k2, rfl, k3, k4⟩
  exact ⟨g', e', st', k1, k2, fun g2 a2 w2 hr2 => h2 g2 a2 w2 (hr2.weaken k3 k4)⟩

/-- A GHOST STEP: a row that was written, and that a box holds, is only read from now on. -/
theorem awp_freeze {c : Code} (b9 bb j n cap sz : Nat) (es : List V) {cs css : List V} {k kk : Nat} (h9 : look st.box b9 = some (cs, k)) (hj : cs[j]? = some (.at (.slice (some ⟨bb, 0, none⟩) n cap)))
    (hb : look st.box bb = some (css, kk)) (hne : ¬ b9 = bb) (hn : es.length = n) (hcap : n ≤ cap) (hes : css.take (n * sz) = flats es) (hlen : n * sz ≤ css.length) (hsz : elsOk sz es) (h1 : ∀ x ∈ es, allOne x.flat) (hu : es.map V.untag = es)
    (h : awp P X c Q e ⟨lay (wipe st.box bb) b9 (cs.set j (.lst .no es), k), st.tg, st.nx⟩) : awp P X c Q e st := by
  intro g a w hr
  have hi := hr.inv
  obtain ⟨p1, p2, p3, p4, arr, el, us, p5, p6, p7, p8⟩ := hi.box bb css kk hb
  obtain ⟨q1, q2, q3, q4, arr9, el9, us9, q5, q6, q7, q8⟩ := hi.box b9 cs k h9
  have hlt : bb < w.heap.size := (Array.getElem?_eq_some_iff.1 p5).1
  have hone : allOne css := by unfold allOne; rw [List.all_eq_true]; exact p4
  have hul := RCs_length g w css us p7
  rw [sizes_one hone] at hul
  have hla : Later g w ⟨fun i => if i = bb then n * sz else g.wm i, g.tb⟩ w := ⟨fun i => by
    show g.wm i ≤ if i = bb then n * sz else g.wm i
    split
    · rename_i e1; subst e1; rw [p2]; exact Nat.zero_le _
    · exact Nat.le_refl _, fun _ _ e1 => e1, fun _ _ _ => rfl⟩
  have hs : Step X.B g w ⟨fun i => if i = bb then n * sz else g.wm i, g.tb⟩ w := ⟨hla, .refl _ _, .refl _, fun i hi' => if_neg (by omega)⟩
  have hi1 : Inv X.B ⟨fun i => if i = bb then n * sz else g.wm i, g.tb⟩ ⟨wipe st.box bb, st.tg, st.nx⟩ w := by
    refine ⟨hi.base, ?_, hi.tag, ?_, hi.dist, hi.nodup, fun i hi' => ?_, hi.names⟩
    · intro b' cs' k' hl
      simp only [look_wipe] at hl
      split at hl
      · cases hl
      · rename_i e1
        obtain ⟨r1, r2, r3, r4, arr', el', us', r5, r6, r7, r8⟩ := hi.box b' cs' k' hl
        exact ⟨r1, by show (if b' = bb then _ else g.wm b') = 0; rw [if_neg (fun e2 => e1 e2.symm)]; exact r2, r3, r4, arr', el', us', r5, r6, RCs_later hla _ _ r7, r8⟩
    · intro t ht b' cap' n' sz' hb'
      obtain ⟨r1, r2, r3, r4, r5, r6⟩ := hi.own t ht b' cap' n' sz' hb'
      have e1 : b' ≠ bb := fun e1 => by subst e1; rw [hb] at r5; cases r5
      exact ⟨r1, by show (if b' = bb then _ else g.wm b') = _; rw [if_neg e1]; exact r2, r3, r4, by rw [look_wipe]; split <;> first | rfl | exact r5, r6⟩
    · show (if i = bb then _ else g.wm i) = 0
      rw [if_neg (by omega)]
      exact hi.fresh i hi'
  have hds : RCs g.bare w es (us.take (n * sz)) := by
    have h2 := (RCs_take_drop hone p7 (n * sz)).1
    rw [hes] at h2
    have h3 := RCs_untag_bare (RCs_of_flats h1 h2) h1
    rwa [hu] at h3
  have hlst : RC ⟨fun i => if i = bb then n * sz else g.wm i, g.tb⟩ w (.lst .no es) [.slice (some ⟨bb, 0, none⟩) n cap] := by
    simp only [RC]
    refine .inr ⟨bb, 0, cap, us.take (n * sz), by rw [hn], by omega, trivial, RCs_later hla.bare _ _ hds, ⟨sz, hsz, fun _ _ _ e1 => by cases e1⟩, ?_⟩
    intro i u hiu
    rw [List.getElem?_take] at hiu
    split at hiu
    · rename_i hlt2
      refine ⟨?_, ?_⟩
      · rw [Nat.zero_add, cell_of_row w bb i arr el (0, 0) p5]
        rw [← p8, List.getElem?_take] at hiu
        split at hiu
        · simpa using hiu
        · cases hiu
      · show 0 + i < if bb = bb then n * sz else g.wm bb
        rw [if_pos rfl]; omega
    · cases hiu
  have hfin : Inv X.B ⟨fun i => if i = bb then n * sz else g.wm i, g.tb⟩ ⟨lay (wipe st.box bb) b9 (cs.set j (.lst .no es), k), st.tg, st.nx⟩ w := by
    have := hi1.addBox (b := b9) (arr := arr9) (el := el9) (cs := cs.set j (.lst .no es)) (us := us9) q1 (by show (if b9 = bb then _ else g.wm b9) = 0; rw [if_neg hne]; exact q2) q5 (by simp; omega)
      (fun c hc => by
        rcases List.mem_or_eq_of_mem_set hc with h2 | h2
        · exact q4 c h2
        · subst h2; rfl)
      (RCs_set_at hlst hj (RCs_later hla _ _ q7)) (by simpa using q8) (fun t ht d hd => by
        obtain ⟨cap', n', sz'⟩ := d
        obtain ⟨r1, r2, r3, r4, r5, r6⟩ := hi.own t ht b9 cap' n' sz' hd
        rw [h9] at r5; cases r5)
    rw [q6] at this
    exact this
  refine wpIn_mono (h _ a w ⟨hfin, fun i => (hr.env i).later hla, hr.size, hr.df, hr.gl⟩) ?_
  rintro ex a' w' ⟨g', e', st', k1, k2, k3⟩
  exact ⟨g', e', st', hs.trans k1, k2, k3⟩

end
end Go.Al
