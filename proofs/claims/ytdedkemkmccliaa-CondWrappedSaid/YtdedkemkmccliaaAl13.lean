/-
  AL, part 13: regions: in the order of the text; and where the order is drawn, by one walk of the order of the text. General: no program in sight.
-/
import Derived.Test.YtdedkemkmccliaaAl12
import Derived.Still
set_option linter.unusedVariables false
set_option linter.unusedSimpArgs false
namespace Go.Al
open Go.RowKit

section
variable {P : Program} {L : Pol} {X : Cx} {g : Gh} {w : World} {a : Act} {o : Oper} {e : Env} {st : S} {KP : List PanicEntry → S → Prop}

/-- Is the operation carried out? -/
def awant (ds : List (Option Nat)) (e : Env) (gd : Option (Nat × Bool)) : Option Bool :=
  match gd with
  | none => some true
  | some (j, b) =>
    match ds.getD j none with
    | none => none
    | some d => match e.get d with
      | .at (.bool t) => some (t == b)
      | .tup [] => some false
      | _ => none

def astep (P : Program) (L : Pol) (ds : List (Option Nat)) (KP : List PanicEntry → S → Prop) (o : Oper) (K : Env → S → Prop) (e : Env) (st : S) : Prop :=
  match awant ds e o.guard with
  | none => False
  | some c => if c = true then aop P L e st o (fun v st' => K (e.putO o.dst v) st') KP else K (e.putO o.dst (.tup [])) st

/-- A walk over operations. -/
def AL (P : Program) (L : Pol) (ds : List (Option Nat)) (KP : List PanicEntry → S → Prop) : List Oper → (Env → S → Prop) → Env → S → Prop
  | [], K, e, st => K e st
  | o :: os, K, e, st => astep P L ds KP o (AL P L ds KP os K) e st

def dstsIn (N : Nat) (l : List Oper) : Bool := l.all fun o => match o.dst with | some d => decide (d < N) | none => true

theorem awant_spec {ops : Array Oper} {ds : List (Option Nat)} (hds : ds = ops.toList.map (·.dst)) (hr : Rel X g e st a w) {c : Bool} (h : awant ds e o.guard = some c) : Region.wanted o (yielded ops a.tmps) = c := by
  unfold awant at h
  unfold Region.wanted
  cases hg : o.guard with
  | none => rw [hg] at h; injection h with h; 
  | some p =>
    obtain ⟨j, b⟩ := p
    rw [hg] at h
    simp only at h ⊢
    cases hd : ds.getD j none with
    | none => rw [hd] at h; cases h
    | some d =>
      rw [hd] at h
      simp only at h
      split at h
      · rename_i t ht
        injection h with h
        have hj : (ops[j]?).bind (·.dst) = some d := by
          subst hds
          simp only [List.getD_eq_getElem?_getD, List.getElem?_map, Array.getElem?_toList] at hd
          cases hq : ops[j]? with
          | none => simp [hq] at hd
          | some oj => simpa [hq] using hd
        have h1 := hr.env d
        rw [ht] at h1
        have h2 := RV_at h1
        have h3 : a.tmps[d]? = some (.bool t) := by
          rw [Array.getD_eq_getD_getElem?] at h2
          cases hq : a.tmps[d]? with
          | none => rw [hq] at h2; simp [undef] at h2
          | some v => rw [hq] at h2; simpa using h2
        have : yielded ops a.tmps j = some t := by unfold yielded; rw [hj]; simp [h3]
        rw [this, ← h]
        cases t <;> cases b <;> rfl
      · rename_i ht
        injection h with h
        have hj : (ops[j]?).bind (·.dst) = some d := by
          subst hds
          simp only [List.getD_eq_getElem?_getD, List.getElem?_map, Array.getElem?_toList] at hd
          cases hq : ops[j]? with
          | none => simp [hq] at hd
          | some oj => simpa [hq] using hd
        have h1 := hr.env d
        rw [ht] at h1
        obtain ⟨us, h2, h3⟩ := h1
        cases h2
        have : yielded ops a.tmps j = none := by
          unfold yielded
          rw [hj]
          rw [Array.getD_eq_getD_getElem?] at h3
          cases hq : a.tmps[d]? with
          | none => simp [hq]
          | some v => rw [hq] at h3; simp at h3; simp [hq, h3]
        rw [this, ← h]
        rfl
      · cases h

theorem dst_lt {N : Nat} {l : List Oper} (h : dstsIn N l = true) (ho : o ∈ l) : ∀ t, o.dst = some t → t < N := by
  intro t ht
  have := List.all_eq_true.1 h o ho
  rw [ht] at this
  simpa using this

/-- Where one goes. -/
def Goes (X : Cx) (g : Gh) (w : World) (Q : Exit → Env → S → Prop) : Exit → Act → World → Prop :=
  fun ex a' w' => ∃ g' e' st', Step X.B g w g' w' ∧ Rel X g' e' st' a' w' ∧ Q ex e' st'

/-- One operation: what the abstract step says holds of the real one. -/
theorem astep_sound {ops : Array Oper} {ds : List (Option Nat)} (hds : ds = ops.toList.map (·.dst)) {Q : Exit → Env → S → Prop} (hQ : ∀ c s, KP c s → Q (.panic c) [] s)
    {i : Nat} (ho : ops[i]? = some o) (hdst : ∀ t, o.dst = some t → t < X.N) {K : Env → S → Prop} (h : astep P L ds KP o K e st) {g0 : Gh} {w0 : World} (hs : Step X.B g0 w0 g w) (hr : Rel X g e st a w) :
    wpOp P ops (Goes X g0 w0 Q) i (fun a' w' => ∃ g' e' st', Step X.B g0 w0 g' w' ∧ Rel X g' e' st' a' w' ∧ K e' st') a w := by
  unfold astep at h
  unfold wpOp
  simp only [ho]
  cases hw : awant ds e o.guard with
  | none => rw [hw] at h; exact h.elim
  | some c =>
    rw [hw] at h
    simp only at h
    rw [awant_spec hds hr hw]
    cases c with
    | false =>
      simp only [Bool.false_eq_true, if_false] at h ⊢
      exact ⟨g, _, st, hs, hr.put (x := .tup []) (u := undef) (Later.refl _ _) hr.inv ⟨[], .nil, rfl⟩ _ hdst, h⟩
    | true =>
      simp only [if_true] at h ⊢
      have h1 := aop_sound h hr
      refine .inl ?_
      have key : ∀ (r : Result Next), o.upon P a (OpOut X g w o a fun v st' => K (e.putO o.dst v) st') (OpPan X g w a KP) r →
          o.upon P a (fun a' w' => ∃ g' e' st', Step X.B g0 w0 g' w' ∧ Rel X g' e' st' a' w' ∧ K e' st') (Goes X g0 w0 Q) r := by
        have hk : ∀ a' w', OpOut X g w o a (fun v st' => K (e.putO o.dst v) st') a' w' → ∃ g' e' st', Step X.B g0 w0 g' w' ∧ Rel X g' e' st' a' w' ∧ K e' st' := by
          rintro a' w' ⟨u, v, g', st', rfl, k1, k2, k3⟩
          exact ⟨g', _, st', hs.trans k1.step, hr.put k1.step.later k1.inv k2 _ hdst, k3⟩
        have hp : ∀ ex a' w', OpPan X g w a KP ex a' w' → Goes X g0 w0 Q ex a' w' := by
          rintro ex a' w' ⟨c, g', st', rfl, rfl, k1, k2⟩
          exact ⟨g', [], st', hs.trans k1.step, ⟨k1.inv, fun k => trivial, hr.size, hr.df⟩, hQ c st' k2⟩
        intro r hh
        cases r with
        | ok n w' =>
          cases n <;> simp only [Oper.upon] at hh ⊢ <;>
            first
              | exact hk _ _ hh
              | exact hh.elim
              | exact Calls.mono hh (fun (en : Ending) w'' he => by
                  cases en with
                  | returned v => exact hk _ _ he
                  | panicked ch => exact hp _ _ _ he
                  | outgrown => obtain ⟨a1, w1, h2⟩ := he; exact ⟨a1, w1, hp _ _ _ h2⟩)
              | exact Rows.mono hh (fun _ _ he => hk _ _ he)
        | halt x w' => cases x <;> simp only [Oper.upon] at hh ⊢ <;> first | exact hp _ _ _ hh | exact hh.elim
      exact key _ h1

theorem AL_sound {ops : Array Oper} {ds : List (Option Nat)} (hds : ds = ops.toList.map (·.dst)) {Q : Exit → Env → S → Prop} (hQ : ∀ c s, KP c s → Q (.panic c) [] s) {K : Env → S → Prop} (hK : ∀ e s, K e s → Q .normal e s) {g0 : Gh} {w0 : World} :
    ∀ (l : List Oper) (k : Nat) (_ : ∀ j, l[j]? = ops[k + j]?) (_ : ∀ o ∈ l, ∀ t, o.dst = some t → t < X.N) {e : Env} {st : S} {g : Gh} {a : Act} {w : World},
      AL P L ds KP l K e st → Step X.B g0 w0 g w → Rel X g e st a w → wpList P ops (Goes X g0 w0 Q) l a w
  | [], k, _, _, e, st, g, a, w, h, hs, hr => ⟨g, e, st, hs, hr, hK e st h⟩
  | o :: l, k, hl, hd, e, st, g, a, w, h, hs, hr => by
    have h0 : ops[k]? = some o := by simpa using (hl 0).symm
    have h1 := astep_sound hds hQ h0 (hd o (by simp)) h hs hr
    unfold wpOp at h1
    simp only [h0] at h1
    unfold wpList
    have hnext : ∀ a' w', (∃ g' e' st', Step X.B g0 w0 g' w' ∧ Rel X g' e' st' a' w' ∧ AL P L ds KP l K e' st') → wpList P ops (Goes X g0 w0 Q) l a' w' := by
      rintro a' w' ⟨g', e', st', k1, k2, k3⟩
      exact AL_sound hds hQ hK l (k + 1) (fun j => by have := hl (j + 1); simpa [Nat.add_assoc, Nat.add_comm 1 j] using this) (fun o ho => hd o (by simp [ho])) k3 k1 k2
    split
    · rename_i hw
      simp only [hw, if_true] at h1
      exact h1.imp (Oper.wp_mono hnext) id
    · rename_i hw
      simp only [hw] at h1
      exact hnext _ _ h1

/-- A REGION IN THE ORDER OF THE TEXT. -/
theorem awp_region {Q : Exit → Env → S → Prop} {id : Nat} {l : List Oper} (ds : List (Option Nat)) (hds : l.map (·.dst) = ds) (hd : dstsIn X.N l = true)
    (h : AL P L ds (fun c s => Q (.panic c) [] s) l (fun e' s' => Q .normal e' s') e st) : awp P X (.region id l.toArray false) Q e st := by
  intro g a w hr
  refine wp_region_lit ?_
  exact AL_sound (ops := l.toArray) (ds := ds) (by simpa using hds.symm) (fun _ _ k => k) (fun _ _ k => k) l 0 (fun j => by simp) (fun o ho => dst_lt hd ho) h (Step.refl _ _ _) hr

end
end Go.Al
