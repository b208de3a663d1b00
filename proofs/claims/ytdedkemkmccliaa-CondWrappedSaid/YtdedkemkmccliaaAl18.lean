/-
  AL, part 18: A REGION WHOSE ORDER IS DRAWN. General: no program in sight.
-/
import Derived.Test.YtdedkemkmccliaaAl17
set_option linter.unusedVariables false
set_option linter.unusedSimpArgs false
namespace Go.Al
open Go.RowKit

section
variable {P : Program} {L : Pol} {X : Cx} {ops : Array Oper} {ds : List (Option Nat)} {e : Env} {st : S} {KP : List PanicEntry → S → Prop}

def Env.eqv (e e' : Env) : Prop := ∀ k, e.get k = e'.get k
def Resp (K : Env → S → Prop) : Prop := ∀ e e' s, e.eqv e' → K e s → K e' s

theorem ev_eqv {e e' : Env} (h : e.eqv e') (x : Operand) : e.ev x = e'.ev x := by
  cases x with
  | tmp t => exact h t
  | _ => rfl
theorem putO_eqv {e e' : Env} (h : e.eqv e') (d : Option Nat) (v : V) : (e.putO d v).eqv (e'.putO d v) := by
  intro k
  cases d with
  | none => exact h k
  | some d => simp only [Env.putO, Env.get_put]; rw [h k]
theorem awant_eqv {e e' : Env} (h : e.eqv e') (gd : Option (Nat × Bool)) : awant ds e gd = awant ds e' gd := by
  unfold awant
  cases gd with
  | none => rfl
  | some p => obtain ⟨j, b⟩ := p; simp only; cases ds.getD j none with
    | none => rfl
    | some d => simp only [h d]

theorem astep_mono {o : Oper} {K K' : Env → S → Prop} (h : astep P L ds KP o K e st) (hk : ∀ e s, K e s → K' e s) : astep P L ds KP o K' e st := by
  unfold astep at *
  split at h
  · exact h
  · split at h
    · rename_i hc; rw [if_pos hc]; exact aop_mono h fun _ _ q => hk _ _ q
    · rename_i hc; rw [if_neg hc]; exact hk _ _ h

theorem astep_resp {o : Oper} {K : Env → S → Prop} (hK : Resp K) : Resp (astep P L ds KP o K) := by
  intro e e' s h hh
  unfold astep at *
  rw [← awant_eqv h]
  split at hh
  · exact hh
  · split at hh
    · rename_i hc; rw [if_pos hc]
      rw [aop_congr (e' := e) (fun x _ => (ev_eqv h x).symm)]
      exact aop_mono hh fun v s q => hK _ _ _ (putO_eqv h _ _) q
    · rename_i hc; rw [if_neg hc]; exact hK _ _ _ (putO_eqv h _ _) hh

theorem ev_put {d : Option Nat} {v : V} {o : Oper} (h : ∀ t, d = some t → t ∉ o.looksAt ops) : ∀ x ∈ o.op.operands, (e.putO d v).ev x = e.ev x := by
  intro x hx
  cases d with
  | none => rfl
  | some t =>
    cases x with
    | tmp u =>
      have hne : t ≠ u := fun e1 => h t rfl (by subst e1; exact List.mem_append_left _ (List.mem_filterMap.2 ⟨.tmp t, by simpa using hx, rfl⟩))
      simp only [Env.putO, Env.ev, Env.get_put, if_neg hne]
    | _ => rfl

theorem awant_put (hds : ds = ops.toList.map (·.dst)) {d : Option Nat} {v : V} {o : Oper} (h : ∀ t, d = some t → t ∉ o.looksAt ops) : awant ds (e.putO d v) o.guard = awant ds e o.guard := by
  cases d with
  | none => rfl
  | some t =>
    unfold awant
    cases hg : o.guard with
    | none => rfl
    | some p =>
      obtain ⟨j, b⟩ := p
      simp only
      cases hd : ds.getD j none with
      | none => rfl
      | some u =>
        have hj : (ops[j]?).bind (·.dst) = some u := by
          subst hds
          simp only [List.getD_eq_getElem?_getD, List.getElem?_map, Array.getElem?_toList] at hd
          cases hq : ops[j]? with
          | none => simp [hq] at hd
          | some oj => simpa [hq] using hd
        have hne : t ≠ u := fun e1 => h t rfl (by subst e1; refine List.mem_append_right _ ?_; simp [hg, hj])
        simp only [Env.putO, Env.get_put, if_neg hne]

theorem put_comm {di dj : Option Nat} {vi vj : V} (h : ∀ t, di = some t → dj ≠ some t) : ((e.putO di vi).putO dj vj).eqv ((e.putO dj vj).putO di vi) := by
  intro k
  cases di with
  | none => cases dj <;> rfl
  | some t =>
    cases dj with
    | none => rfl
    | some u =>
      have hne : t ≠ u := fun e1 => h t rfl (by rw [e1])
      simp only [Env.putO, Env.get_put]
      by_cases h1 : u = k
      · by_cases h2 : t = k
        · exact absurd (h2.trans h1.symm) hne
        · simp [h1, h2]
      · simp [h1]

/-- A slot that o neither looks at nor writes is filled before or behind it. -/
theorem astep_put (hds : ds = ops.toList.map (·.dst)) {o : Oper} {d : Option Nat} {v : V} (h1 : ∀ t, d = some t → t ∉ o.looksAt ops) (h2 : ∀ t, d = some t → o.dst ≠ some t) {K : Env → S → Prop} (hK : Resp K)
    (h : astep P L ds KP o K (e.putO d v) st) : astep P L ds KP o (fun e' s => K (e'.putO d v) s) e st := by
  unfold astep at *
  rw [awant_put hds h1] at h
  split at h
  · exact h
  · split at h
    · rename_i hc
      rw [if_pos hc]
      rw [aop_congr (ev_put h1)] at h
      exact aop_mono h fun u s q => hK _ _ _ (put_comm h2) q
    · rename_i hc
      rw [if_neg hc]
      exact hK _ _ _ (put_comm h2) h

/-- What a step leaves: the frame with one slot more; and of the boxes, as the class says. -/
theorem astep_strong {o : Oper} {K : Env → S → Prop} (h : astep P L ds KP o K e st) : astep P L ds KP o (fun e' s => (∃ v, e' = e.putO o.dst v) ∧ (cls L o ≤ 4 ∨ newB L o = true → More st s) ∧ K e' s) e st := by
  unfold astep at *
  split at h
  · exact h
  · split at h
    · rename_i hc
      rw [if_pos hc]
      by_cases h2 : cls L o ≤ 2
      · obtain ⟨v, k1, k2⟩ := low_spec h2 h
        exact k2 _ _ _ ⟨⟨v, rfl⟩, fun _ => More.of_eq rfl, k1⟩
      · by_cases h3 : cls L o = 3
        · obtain ⟨v, k1, k2⟩ := load_spec h3 h
          exact k2 _ _ _ (More.of_eq rfl) ⟨⟨v, rfl⟩, fun _ => More.of_eq rfl, k1⟩
        · by_cases h4 : cls L o = 4
          · obtain ⟨v, st', k0, k1, k2⟩ := tag_spec h4 h
            exact k2 _ _ ⟨⟨v, rfl⟩, fun _ => More.of_eq k0, k1⟩
          · by_cases h6 : newB L o = true
            · exact aop_mono (new_more h6 h) fun v s q => ⟨⟨v, rfl⟩, fun _ => q.1, q.2⟩
            · exact aop_mono h fun v s q => ⟨⟨v, rfl⟩, fun h5 => h5.elim (fun h5 => by omega) (fun h5 => absurd h5 h6), q⟩
    · rename_i hc
      rw [if_neg hc]
      exact ⟨⟨_, rfl⟩, fun _ => More.of_eq rfl, h⟩

/-- What reads at most boxes does the same where names have turned. -/
theorem astep_quiet {o : Oper} (hc : cls L o ≤ 3) {st1 : S} (hb : st1.box = st.box) {K : Env → S → Prop} (h : astep P L ds KP o K e st1) : astep P L ds KP o (fun e' s => s = st ∧ K e' st1) e st := by
  unfold astep at *
  split at h
  · exact h
  · split at h
    · rename_i hw
      rw [if_pos hw]
      by_cases h2 : cls L o ≤ 2
      · obtain ⟨v, k1, k2⟩ := low_spec h2 h
        exact k2 _ _ _ ⟨rfl, k1⟩
      · obtain ⟨v, k1, k2⟩ := load_spec (by omega) h
        exact k2 _ _ _ (More.of_eq hb.symm) ⟨rfl, k1⟩
    · rename_i hw
      rw [if_neg hw]
      exact ⟨rfl, h⟩

/-- TWO OPERATIONS CHANGE PLACES. -/
theorem astep_swap (hds : ds = ops.toList.map (·.dst)) {oi oj : Oper} (hap : oi.apart ops oj = true) (hc : compatO L oi oj = true) {K : Env → S → Prop} (hK : Resp K)
    (H : astep P L ds KP oi (astep P L ds KP oj K) e st) : astep P L ds KP oj (astep P L ds KP oi K) e st := by
  obtain ⟨a1, a2, a3⟩ := Oper.apart_spec hap
  have hw : ∀ v, awant ds (e.putO oj.dst v) oi.guard = awant ds e oi.guard := fun v => awant_put hds a3
  have hcg : ∀ v s (K' : V → S → Prop), aop P L (e.putO oj.dst v) s oi K' KP = aop P L e s oi K' KP := fun v s K' => aop_congr (ev_put a3) K'
  cases hi : awant ds e oi.guard with
  | none => unfold astep at H; rw [hi] at H; exact H.elim
  | some c =>
    cases c with
    | false =>
      unfold astep at H
      rw [hi] at H
      simp only [Bool.false_eq_true, if_false] at H
      have H1 := astep_strong (astep_put hds a1 a2 hK H)
      refine astep_mono H1 ?_
      rintro e' s ⟨⟨v, rfl⟩, _, hk⟩
      unfold astep
      rw [hw v, hi]
      simpa using hk
    | true =>
      have H0 : aop P L e st oi (fun v st' => astep P L ds KP oj K (e.putO oi.dst v) st') KP := by
        unfold astep at H
        rw [hi] at H
        simp only [if_true] at H
        exact H
      have fin : ∀ v s, aop P L e s oi (fun u s' => K ((e.putO oj.dst v).putO oi.dst u) s') KP → astep P L ds KP oi K (e.putO oj.dst v) s := by
        intro v s h
        unfold astep
        rw [hw v, hi]
        simp only [if_true]
        rw [hcg]
        exact h
      by_cases c2 : cls L oi ≤ 2
      · obtain ⟨vi, k1, k2⟩ := low_spec c2 H0
        refine astep_mono (astep_strong (astep_put hds a1 a2 hK k1)) ?_
        rintro e' s ⟨⟨v, rfl⟩, _, hk⟩
        exact fin v s (k2 s _ _ hk)
      · by_cases c0 : cls L oj = 0
        · have hj0 : ∃ x, (∀ (e : Env) (s : S) (K' : V → S → Prop), aop P L e s oj K' KP = K' (e.ev x) s) ∧ x ∈ oj.op.operands ∧ oj.guard = none := by
            obtain ⟨dst, op, ty, pos, af, gd⟩ := oj
            cases op <;> simp only [cls] at c0 <;> try (first | omega | (split at c0 <;> omega))
            case move x => cases gd <;> simp at c0; exact ⟨x, fun _ _ _ => rfl, by simp [Op.operands], rfl⟩
            case assign x => cases gd <;> simp at c0; exact ⟨x, fun _ _ _ => rfl, by simp [Op.operands], rfl⟩
            case buildSlice t n ps => split at c0 <;> first | omega | (split at c0 <;> omega)
            case call c =>
              obtain ⟨callee, args, ts⟩ := c
              cases callee with
              | invoke r m => simp at c0
              | value f => cases f <;> simp only at c0 <;> first | omega | (split at c0 <;> omega)
              | builtin b => cases b <;> simp only at c0 <;> first | omega | (split at c0 <;> omega)
          obtain ⟨x, hx, hxm, hgn⟩ := hj0
          have hs : ∀ (K' : Env → S → Prop) (e : Env) (s : S), astep P L ds KP oj K' e s = K' (e.putO oj.dst (e.ev x)) s := by
            intro K' e s
            unfold astep
            rw [hgn]
            simp only [awant, if_true]
            rw [hx]
          rw [hs]
          refine fin _ _ (aop_mono H0 fun v s q => ?_)
          rw [hs] at q
          rw [ev_put a1 x hxm] at q
          exact hK _ _ _ (put_comm a2) q
        · simp only [compatO, compat, Bool.or_eq_true, Bool.and_eq_true, decide_eq_true_eq, beq_iff_eq] at hc
          have hload : cls L oi = 3 → cls L oj ≤ 4 ∨ newB L oj = true → astep P L ds KP oj (astep P L ds KP oi K) e st := by
            intro hc1 hc2
            obtain ⟨vi, k1, k2⟩ := load_spec hc1 H0
            refine astep_mono (astep_strong (astep_put hds a1 a2 hK k1)) ?_
            rintro e' s ⟨⟨v, rfl⟩, hb, hk⟩
            exact fin v s (k2 s _ _ (hb hc2) hk)
          rcases hc with (((((hc | hc) | hc) | hc) | hc) | hc)
          · exact absurd hc c2
          · exact absurd hc c0
          · exact hload hc.1 (.inl hc.2)
          · obtain ⟨vi, st1, k0, k1, k2⟩ := tag_spec hc.1 H0
            have q := astep_quiet (st := st) hc.2 k0 (astep_put hds a1 a2 hK k1)
            refine astep_mono (astep_strong q) ?_
            rintro e' s ⟨⟨v, rfl⟩, _, rfl, hk⟩
            exact fin v s (k2 _ _ hk)
          · exact hload hc.1 (.inr hc.2)
          · have H2 : aop P L e st oi (fun v st' => astep P L ds KP oj (fun e' s => K (e'.putO oi.dst v) s) e st') KP := aop_mono H0 fun v s q => astep_put hds a1 a2 hK q
            have hone : ∀ s (K' : Env → S → Prop), astep P L ds KP oj K' e s → ∃ v, ∀ s' K'', astep P L ds KP oj K'' e s' ↔ K'' (e.putO oj.dst v) s' := by
              intro s K' h
              unfold astep at h
              cases hj : awant ds e oj.guard with
              | none => rw [hj] at h; exact h.elim
              | some c =>
                rw [hj] at h
                cases c with
                | false =>
                  refine ⟨.tup [], fun s' K'' => ?_⟩
                  unfold astep
                  rw [hj]
                  simp
                | true =>
                  simp only [if_true] at h
                  obtain ⟨v, hv⟩ := adr_spec hc.2 h
                  refine ⟨v, fun s' K'' => ?_⟩
                  unfold astep
                  rw [hj]
                  simp only [if_true]
                  exact hv _ _ _
            have hex : ∃ v, ∀ s' K'', astep P L ds KP oj K'' e s' ↔ K'' (e.putO oj.dst v) s' :=
              wr_const hc.1 (aop_mono H2 fun v s q => hone s _ q)
            obtain ⟨v, hv⟩ := hex
            refine (hv _ _).2 (fin v st (aop_mono H2 fun u s q => (hv _ _).1 q))

/-- Every order that the edges allow. -/
def AnyA (P : Program) (L : Pol) (ds : List (Option Nat)) (KP : List PanicEntry → S → Prop) (ops : Array Oper) (K : Env → S → Prop) : Nat → Array Bool → Env → S → Prop
  | 0, listed, e, st => Region.ready .any ops listed = [] ∧ K e st
  | n + 1, listed, e, st => (Region.ready .any ops listed = [] → K e st) ∧ ∀ i ∈ Region.ready .any ops listed, ∀ o, ops[i]? = some o → astep P L ds KP o (AnyA P L ds KP ops K n (listed.setIfInBounds i true)) e st

theorem AnyA_resp {K : Env → S → Prop} (hK : Resp K) : ∀ n listed, Resp (AnyA P L ds KP ops K n listed)
  | 0, listed => fun e e' s h hh => ⟨hh.1, hK _ _ _ h hh.2⟩
  | n + 1, listed => fun e e' s h hh => ⟨fun h0 => hK _ _ _ h (hh.1 h0), fun i hi o ho => astep_resp (AnyA_resp hK n _) _ _ _ h (hh.2 i hi o ho)⟩

def left (ops : Array Oper) (listed : Array Bool) : List Nat := (List.range ops.size).filter fun k => !listed.getD k true

theorem left_set {ops : Array Oper} {listed : Array Bool} {j : Nat} (h : j ∈ left ops listed) : (left ops (listed.setIfInBounds j true)).length < (left ops listed).length := by
  unfold left at *
  rw [List.mem_filter] at h
  have e : ((List.range ops.size).filter fun k => !(listed.setIfInBounds j true).getD k true) = ((List.range ops.size).filter fun k => !listed.getD k true).filter fun k => k != j := by
    rw [List.filter_filter]
    refine List.filter_congr fun k _ => ?_
    by_cases hk : j = k
    · subst hk
      have hlt : j < listed.size := by
        rcases Nat.lt_or_ge j listed.size with h' | h'
        · exact h'
        · simp [Array.getElem?_eq_none h'] at h
      simp [hlt]
    · rw [getD_set_ne true hk]; simp [Ne.symm hk]
  rw [e]
  exact List.length_filter_lt_length_iff_exists.2 ⟨j, List.mem_filter.2 h, by simp⟩

theorem ready_left {ops : Array Oper} {listed : Array Bool} {j : Nat} (h : j ∈ Region.ready .any ops listed) : j ∈ left ops listed := by
  obtain ⟨h1, o, h2, _⟩ := mem_ready.1 h
  unfold left
  rw [List.mem_filter]
  exact ⟨List.mem_range.2 (Array.getElem?_eq_some_iff.1 h2).1, by rw [h1]; rfl⟩

/-- j waits for i, by way of others. -/
def bef (ops : Array Oper) : Nat → Nat → Nat → Bool
  | 0, _, _ => false
  | n + 1, i, j => match ops[j]? with
    | some o => o.after.any fun ed => Region.binds .any ed && (ed.on == i || bef ops n i ed.on)
    | none => false

/-- With an operation all that it waits for is listed. -/
def PC (ops : Array Oper) (listed : Array Bool) : Prop := ∀ k ok, ops[k]? = some ok → listed.getD k false = true → ∀ ed ∈ ok.after, Region.binds .any ed = true → listed.getD ed.on false = true

theorem getD_set_same {listed : Array Bool} {j : Nat} (h : j < listed.size) (d : Bool) : (listed.setIfInBounds j true).getD j d = true := by simp [h]

theorem ready_lt {listed : Array Bool} {j : Nat} (h : listed.getD j true = false) : j < listed.size := by
  rcases Nat.lt_or_ge j listed.size with h' | h'
  · exact h'
  · simp [Array.getElem?_eq_none h'] at h

theorem set_keeps {listed : Array Bool} {j k : Nat} (h : listed.getD k false = true) : (listed.setIfInBounds j true).getD k false = true := by
  by_cases e1 : j = k
  · subst e1
    refine getD_set_same ?_ _
    rcases Nat.lt_or_ge j listed.size with h' | h'
    · exact h'
    · simp [Array.getElem?_eq_none h'] at h
  · rw [getD_set_ne false e1]; exact h

theorem ready_pre {listed : Array Bool} {j : Nat} {oj : Oper} (hj : j ∈ Region.ready .any ops listed) (ho : ops[j]? = some oj) : ∀ ed ∈ oj.after, Region.binds .any ed = true → listed.getD ed.on false = true := by
  obtain ⟨_, oj', hoj', hall⟩ := mem_ready.1 hj
  rw [ho] at hoj'
  injection hoj' with h
  subst h
  exact hall

theorem PC_set {listed : Array Bool} {j : Nat} (hj : j ∈ Region.ready .any ops listed) (h : PC ops listed) : PC ops (listed.setIfInBounds j true) := by
  intro k ok hk hl ed he hb
  by_cases e1 : j = k
  · subst e1
    exact set_keeps (ready_pre hj hk ed he hb)
  · rw [getD_set_ne false e1] at hl
    exact set_keeps (h k ok hk hl ed he hb)

theorem bef_listed {listed : Array Bool} (h : PC ops listed) {i : Nat} (hi : listed.getD i true = false) : ∀ (n j : Nat), listed.getD j false = true → bef ops n i j = false
  | 0, _, _ => rfl
  | n + 1, j, hj => by
    unfold bef
    cases ho : ops[j]? with
    | none => rfl
    | some oj =>
      simp only
      rw [Bool.eq_false_iff]
      intro hc
      obtain ⟨ed, he, hc⟩ := Array.any_eq_true'.1 hc
      simp only [Bool.and_eq_true, Bool.or_eq_true, beq_iff_eq] at hc
      have hl := h j oj ho hj ed he hc.1
      rcases hc.2 with h1 | h1
      · rw [h1] at hl
        have := ready_lt hi
        simp [this] at hi hl
        rw [hi] at hl; cases hl
      · rw [bef_listed h hi n ed.on hl] at h1; cases h1

theorem bef_ready {listed : Array Bool} (h : PC ops listed) {i j : Nat} (hi : listed.getD i true = false) (hj : j ∈ Region.ready .any ops listed) (n : Nat) : bef ops n i j = false := by
  cases n with
  | zero => rfl
  | succ n =>
    unfold bef
    cases ho : ops[j]? with
    | none => rfl
    | some oj =>
      simp only
      rw [Bool.eq_false_iff]
      intro hc
      obtain ⟨ed, he, hc⟩ := Array.any_eq_true'.1 hc
      simp only [Bool.and_eq_true, Bool.or_eq_true, beq_iff_eq] at hc
      have hl := ready_pre hj ho ed he hc.1
      rcases hc.2 with h1 | h1
      · rw [h1] at hl
        have := ready_lt hi
        simp [this] at hi hl
        rw [hi] at hl; cases hl
      · rw [bef_listed h hi n ed.on hl] at h1; cases h1

theorem anyA_first (hds : ds = ops.toList.map (·.dst)) {K : Env → S → Prop} (hK : Resp K) {i : Nat} {oi : Oper} (hi : ops[i]? = some oi) :
    ∀ (fuel : Nat) (listed : Array Bool) (e : Env) (st : S), (left ops listed).length ≤ fuel + 1 →
      (∀ j oj, ops[j]? = some oj → j ≠ i → listed.getD j true = false → (∀ ed ∈ oj.after, Region.binds .any ed = true → ed.on ≠ i) → bef ops ops.size i j = false → oi.apart ops oj = true ∧ compatO L oi oj = true) → PC ops listed →
      i ∈ Region.ready .any ops listed →
      astep P L ds KP oi (AnyA P L ds KP ops K fuel (listed.setIfInBounds i true)) e st → AnyA P L ds KP ops K (fuel + 1) listed e st := by
  intro fuel
  induction fuel with
  | zero =>
    intro listed e st hcount _ _ hr H
    refine ⟨fun h => (by rw [h] at hr; cases hr), fun j hj o ho => ?_⟩
    by_cases hji : j = i
    · subst hji; rw [hi] at ho; injection ho with ho; subst ho; exact H
    · exfalso
      have h1 := left_set (ready_left hr)
      have h2 := ready_left (ready_mono hj hji)
      have h3 : (left ops (listed.setIfInBounds i true)).length = 0 := by omega
      rw [List.eq_nil_of_length_eq_zero h3] at h2
      cases h2
  | succ fuel ih =>
    intro listed e st hcount hfree hpc hr H
    refine ⟨fun h => (by rw [h] at hr; cases hr), fun j hj oj hoj => ?_⟩
    by_cases hji : j = i
    · subst hji; rw [hi] at hoj; injection hoj with hoj; subst hoj; exact H
    · obtain ⟨hjun, oj', hoj', hall⟩ := mem_ready.1 hj
      have e1 : oj' = oj := by rw [hoj] at hoj'; injection hoj' with h; exact h.symm
      subst e1
      have hnot : ∀ ed ∈ oj'.after, Region.binds .any ed = true → ed.on ≠ i := fun ed he hb heq => by
        have h1 := hall ed he hb
        have h0 := (mem_ready.1 hr).1
        rw [heq] at h1
        rcases Nat.lt_or_ge i listed.size with h' | h'
        · simp [h'] at h0 h1; rw [h0] at h1; cases h1
        · simp [Array.getElem?_eq_none h'] at h1
      have hfr := hfree j oj' hoj hji hjun hnot (bef_ready hpc (mem_ready.1 hr).1 hj _)
      have h1 : astep P L ds KP oi (astep P L ds KP oj' (AnyA P L ds KP ops K fuel ((listed.setIfInBounds i true).setIfInBounds j true))) e st :=
        astep_mono H fun e' s q => q.2 j (ready_mono hj hji) oj' hoj
      have h2 := astep_swap hds hfr.1 hfr.2 (AnyA_resp hK fuel _) h1
      have hfree' : ∀ k ok, ops[k]? = some ok → k ≠ i → (listed.setIfInBounds j true).getD k true = false →
          (∀ ed ∈ ok.after, Region.binds .any ed = true → ed.on ≠ i) → bef ops ops.size i k = false → oi.apart ops ok = true ∧ compatO L oi ok = true := fun k ok hk hki hun hno hbf => by
        refine hfree k ok hk hki ?_ hno hbf
        by_cases hjk : j = k
        · subst hjk; exact hjun
        · rw [getD_set_ne true hjk] at hun; exact hun
      refine astep_mono h2 fun e' s h3 => ih (listed.setIfInBounds j true) e' s (by have := left_set (ready_left hj); omega) hfree' (PC_set hj hpc) (ready_mono hr (Ne.symm hji)) ?_
      rw [Array.setIfInBounds_comm _ _ hji]
      exact h3

/-- Each operation that does not wait for an earlier one may change places with it. -/
def drawOk (L : Pol) (l : List Oper) : Bool :=
  (List.range l.length).all fun i => (List.range l.length).all fun j =>
    match l[i]?, l[j]? with
    | some oi, some oj => !decide (i < j) || compatO L oi oj || bef l.toArray l.length i j
    | _, _ => true

theorem drawOk_spec {l : List Oper} (h : drawOk L l = true) {i j : Nat} {oi oj : Oper} (hi : l[i]? = some oi) (hj : l[j]? = some oj) (hlt : i < j) (hno : bef l.toArray l.length i j = false) :
    compatO L oi oj = true := by
  have h1 := List.all_eq_true.1 h i (List.mem_range.2 (List.getElem?_eq_some_iff.1 hi).1)
  have h2 := List.all_eq_true.1 h1 j (List.mem_range.2 (List.getElem?_eq_some_iff.1 hj).1)
  simpa [hi, hj, hlt, hno] using h2

theorem anyA_lex (hds : ds = ops.toList.map (·.dst)) (hd : drawOk L ops.toList = true) {K : Env → S → Prop} (hK : Resp K) : ∀ (l : List Oper) (k : Nat) (listed : Array Bool) (e : Env) (st : S), (∀ j, l[j]? = ops[k + j]?) →
    (∀ j, j < k → listed.getD j true = true) → (left ops listed).length ≤ l.length → PC ops listed →
    Region.lexFrom .any ops l.length k listed = true → AL P L ds KP l K e st → AnyA P L ds KP ops K l.length listed e st
  | [], _, _, _, _, _, _, _, _, hB, h => ⟨by simpa [Region.lexFrom] using hB, h⟩
  | o :: l, k, listed, e, st, hl, hbel, hcount, hpc, hB, h => by
    have h0 : ops[k]? = some o := by simpa using (hl 0).symm
    simp only [List.length_cons, Region.lexFrom, Bool.and_eq_true] at hB
    obtain ⟨⟨hr, hf⟩, hB'⟩ := hB
    have hr' : k ∈ Region.ready .any ops listed := by simpa using hr
    refine anyA_first hds hK h0 l.length listed e st hcount ?_ hpc hr' ?_
    · intro j oj hj hne hun hno hbf
      refine ⟨Region.free_spec h0 hf j oj hj hne hun hno, drawOk_spec hd (by simpa using h0) (by simpa using hj) ?_ (by simpa using hbf)⟩
      rcases Nat.lt_or_ge k j with h1 | h1
      · exact h1
      · have := hbel j (by omega)
        rw [this] at hun; cases hun
    · refine astep_mono (h : astep P L ds KP o (AL P L ds KP l K) e st) fun e' s q => ?_
      refine anyA_lex hds hd hK l (k + 1) _ e' s (fun j => by have := hl (j + 1); simpa [Nat.add_assoc, Nat.add_comm 1 j] using this) (fun j hj => ?_) (by have := left_set (ready_left hr'); simp only [List.length_cons] at hcount; omega) (PC_set hr' hpc) hB' q
      by_cases e1 : j = k
      · subst e1
        rcases Nat.lt_or_ge j listed.size with h' | h'
        · simp [h']
        · simp [Array.getElem?_eq_none h']
      · rw [getD_set_ne true (Ne.symm e1)]; exact hbel j (by omega)

theorem anyA_sound (hds : ds = ops.toList.map (·.dst)) (hdst : ∀ o ∈ ops.toList, ∀ t, o.dst = some t → t < X.N) {Q : Exit → Env → S → Prop} (hQ : ∀ c s, KP c s → Q (.panic c) [] s) {K : Env → S → Prop} {g0 : Gh} {w0 : World}
    (hKQ : ∀ g e s a w, K e s → Step X.B g0 w0 g w → Rel X g e s a w → Goes X g0 w0 Q .normal a w) :
    ∀ (n : Nat) (listed : Array Bool) (e : Env) (st : S) (g : Gh) (a : Act) (w : World), AnyA P L ds KP ops K n listed e st → Step X.B g0 w0 g w → Rel X g e st a w → wpAny P .any ops (Goes X g0 w0 Q) n listed a w
  | 0, _, e, st, g, a, w, h, hs, hr => ⟨h.1, hKQ g e st a w h.2 hs hr⟩
  | n + 1, listed, e, st, g, a, w, h, hs, hr => ⟨fun h0 => hKQ g e st a w (h.1 h0) hs hr, fun i hi => by
      obtain ⟨_, o, ho, _⟩ := mem_ready.1 hi
      have hm : o ∈ ops.toList := by simpa using Array.mem_of_getElem? ho
      refine wpOp_mono ?_ (astep_sound hds hQ ho (hdst o hm) (h.2 i hi o ho) hs hr)
      rintro a' w' ⟨g', e', st', k1, k2, k3⟩
      exact anyA_sound hds hdst hQ hKQ n _ e' st' g' a' w' k3 k1 k2⟩

end

section
variable {P : Program} {L : Pol} {X : Cx} {e : Env} {st : S}

/-- The frame, cut down to some slots. -/
def keepE (ks : List Nat) (e : Env) : Env := ks.map fun k => (k, e.get k)

theorem keepE_sub (ks : List Nat) (e : Env) : e.sub (keepE ks e) := Env.sub_of e _ fun p hp => by
  obtain ⟨k, _, rfl⟩ := List.mem_map.1 hp
  rfl

/-- A REGION IN THE ORDER OF THE TEXT; behind it the named slots are known. -/
theorem awp_reg {Q : Exit → Env → S → Prop} {id : Nat} {l : List Oper} (L : Pol) (kf : Nat → List Nat) (ds : List (Option Nat)) (hds : l.map (·.dst) = ds) (hd : dstsIn X.N l = true)
    (h : AL P L ds (fun c s => Q (.panic c) [] s) l (fun e' s' => Q .normal (keepE (kf id) e') s') e st) : awp P X (.region id l.toArray false) Q e st := by
  intro g a w hr
  generalize kf id = ks at h
  have h1 := awp_region (X := X) (P := P) (L := L) (Q := fun ex e' s' => match ex with | .normal => Q .normal (keepE ks e') s' | .panic c => Q (.panic c) [] s' | _ => False) (id := id) (l := l) ds hds hd h g a w hr
  refine wp_mono h1 ?_
  rintro ex a' w' ⟨g', e', st', k1, k2, k3⟩
  cases ex with
  | normal => exact ⟨g', _, st', k1, k2.weaken (keepE_sub ks e') (S.sub_refl _), k3⟩
  | panic c => exact ⟨g', [], st', k1, ⟨k2.inv, fun _ => trivial, k2.size, k2.df⟩, k3⟩
  | exit id => exact k3.elim
  | goto l => exact k3.elim
  | ret => exact k3.elim
  | outgrown => exact k3.elim

/-- A REGION WHOSE ORDER IS DRAWN. -/
theorem awp_draw {Q : Exit → Env → S → Prop} {id : Nat} {l : List Oper} (L : Pol) (hm : P.follows .mixedOrders = true) (kf : Nat → List Nat) (ds : List (Option Nat)) (hds : l.map (·.dst) = ds) (hd : dstsIn X.N l = true) (hB : Region.lexB .any l.toArray = true) (hO : drawOk L l = true)
    (h : AL P L ds (fun c s => Q (.panic c) [] s) l (fun e' s' => Q .normal (keepE (kf id) e') s') e st) : awp P X (.region id l.toArray true) Q e st := by
  intro g a w hr
  generalize kf id = ks at h
  simp only [Region.lexB, Bool.and_eq_true] at hB
  refine wp_region_any hm ?_
  have hdr := out_drew hr.inv (w.drawn + 1)
  have hrel : Rel X g e st a { w with drawn := w.drawn + 1 } := ⟨hdr.inv, fun k => (hr.env k).later hdr.step.later, hr.size, hr.df⟩
  have hresp : Resp (fun e' s' => Q .normal (keepE ks e') s') := fun e1 e2 s h1 h2 => by
    have : keepE ks e1 = keepE ks e2 := by unfold keepE; exact List.map_congr_left fun k _ => by rw [h1 k]
    show Q .normal (keepE ks e2) s
    rw [← this]; exact h2
  have hA := anyA_lex (P := P) (L := L) (ops := l.toArray) (ds := ds) (KP := fun c s => Q (.panic c) [] s) (by simpa using hds.symm) (by simpa using hO) hresp l 0 (Array.replicate l.toArray.size false) e st (by simp) (fun j hj => by omega)
    (by unfold left; exact Nat.le_trans (List.length_filter_le _ _) (by simp)) (fun k ok hk hl => by
      exfalso
      rw [Array.getD_eq_getD_getElem?, Array.getElem?_replicate] at hl
      split at hl <;> simp at hl) (by simpa using hB.2) h
  have := anyA_sound (X := X) (Q := Q) (ops := l.toArray) (ds := ds) (by simpa using hds.symm) (fun o ho => dst_lt hd (by simpa using ho)) (fun _ _ k => k) (g0 := g) (w0 := w)
    (fun g' e' s' a' w' k1 k2 k3 => ⟨g', _, s', k2, k3.weaken (keepE_sub ks e') (S.sub_refl _), k1⟩) l.length _ e st g a { w with drawn := w.drawn + 1 } hA hdr.step hrel
  exact this

end
end Go.Al
