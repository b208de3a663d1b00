/-
  DEN, part 11: the parts of structs, read and laid. General: no program in sight.
-/
import Derived.Test.YtdedkemkmccliaaD10
set_option linter.unusedVariables false
set_option linter.unusedSimpArgs false
namespace Go.Den
open Go.Al

section
variable {U : TyU} {R : Type} {r : R}

def pInt (k : IntKind) (v : T U) (K : Int → Option R) : Option R :=
  match v with
  | .int k' n => bif decide (k' = k) then K n else none
  | _ => none
def pBool (v : T U) (K : Bool → Option R) : Option R :=
  match v with
  | .bool b => K b
  | _ => none
def pStr (v : T U) (K : List UInt8 → Option R) : Option R :=
  match v with
  | .str s => K s
  | _ => none
def pDl (i : U.I) (v : T U) (K : List (U.den i) → Option R) : Option R :=
  match v with
  | .nil => K []
  | .lst m j ys => sameC i j ys fun xs => (match m with
    | .dl => K xs
    | .b n => bif (bif n then xs.isEmpty else !xs.isEmpty) then K xs else none
    | .ow _ nb => bif nb then K xs else bif !xs.isEmpty then K xs else none)
  | _ => none

variable {C : Cod U}

theorem pInt_ok {k : IntKind} {v : T U} {K : Int → Option R} (h : pInt k v K = some r) : ∃ x, K x = some r ∧ (∀ N, trT C N v = .at (.int k x)) ∧ ∀ N, untag1 (trT C N v) = .at (.int k x) := by
  unfold pInt at h
  split at h
  · obtain ⟨h1, h2⟩ := bif_some h
    simp only [decide_eq_true_eq] at h1
    subst h1
    exact ⟨_, h2, fun _ => rfl, fun _ => rfl⟩
  · cases h
theorem pBool_ok {v : T U} {K : Bool → Option R} (h : pBool v K = some r) : ∃ x, K x = some r ∧ (∀ N, trT C N v = .at (.bool x)) ∧ ∀ N, untag1 (trT C N v) = .at (.bool x) := by
  unfold pBool at h
  split at h
  · exact ⟨_, h, fun _ => rfl, fun _ => rfl⟩
  · cases h
theorem pStr_ok {v : T U} {K : List UInt8 → Option R} (h : pStr v K = some r) : ∃ x, K x = some r ∧ (∀ N, trT C N v = .at (.string ⟨x.toArray⟩)) ∧ ∀ N, untag1 (trT C N v) = .at (.string ⟨x.toArray⟩) := by
  unfold pStr at h
  split at h
  · exact ⟨_, h, fun _ => rfl, fun _ => rfl⟩
  · cases h
theorem pDl_ok {i : U.I} {v : T U} {K : List (U.den i) → Option R} (h : pDl i v K = some r) : ∃ x, K x = some r ∧ ∀ N, untag1 (trT C N v) = .lst (tagOf (x.map (C.encV i))) (x.map (C.encV i)) := by
  unfold pDl at h
  split at h
  · exact ⟨_, h, fun N => rfl⟩
  · rename_i m j ys
    have hq := sameC_ok h; clear h; obtain ⟨rfl, h⟩ := hq
    simp only [castL] at h
    split at h
    · refine ⟨_, h, fun N => ?_⟩
      cases ys <;> rfl
    · rename_i n
      obtain ⟨h1, h2⟩ := bif_some h
      refine ⟨_, h2, fun N => ?_⟩
      cases n <;> cases ys <;> simp at h1 <;> rfl
    · rename_i t nb
      cases nb with
      | true => exact ⟨_, h, fun N => rfl⟩
      | false =>
        simp only [cond_false] at h
        obtain ⟨h1, h2⟩ := bif_some h
        refine ⟨_, h2, fun N => ?_⟩
        cases ys <;> simp at h1
        rfl
  · cases h

theorem untag_at' (v : Value) : untag1 (.at v) = .at v := rfl
theorem untag_of1 {x y : V} (h : untag1 x = y) (hy : y.isAgg = false := by rfl) : x.untag = y := by
  cases x <;> first | exact h | (subst h; cases hy)
theorem untag_dl (es : List V) : untag1 (.lst (tagOf es) es) = .lst (tagOf es) es := untag1_tagOf es
theorem bdd_dl (nl nx : Nat) {i : U.I} (xs : List (U.den i)) : bdd nl nx (.lst .dl i xs : T U) = true := rfl

/-- A table of types. -/
def findD : List (Nat × TD U) → Nat → TD U
  | [], _ => {}
  | (k, d) :: r, t => bif Nat.beq k t then d else findD r t
theorem findD_ok {P : Program} : ∀ {l : List (Nat × TD U)}, (∀ p ∈ l, Facts C P p.1 p.2) → TbOk C P (findD l)
  | [], _, t, h => by simp [findD] at h
  | (k, d) :: r, hl, t, h => by
    simp only [findD] at h ⊢
    by_cases e : k = t
    · subst e
      have : Nat.beq k k = true := by simp
      simp only [this, cond_true] at h ⊢
      exact hl (k, d) (by simp)
    · simp only [beq_ne e, cond_false] at h ⊢
      exact findD_ok (fun p hp => hl p (by simp [hp])) t h

/-- A function's code. -/
def bodyOf (fn : Func) : Code := fn.body.getD .skip

/-- Tables of functions. -/
def findF {α : Type} : List (Nat × α) → Nat → Option α
  | [], _ => none
  | (k, d) :: r, t => bif Nat.beq k t then some d else findF r t
theorem findF_ok {α : Type} {p : Nat → α → Prop} : ∀ {l : List (Nat × α)}, (∀ q ∈ l, p q.1 q.2) → ∀ f a, findF l f = some a → p f a
  | [], _, f, a, h => by simp [findF] at h
  | (k, d) :: r, hl, f, a, h => by
    simp only [findF] at h
    by_cases e : k = f
    · subst e
      have : Nat.beq k k = true := by simp
      simp only [this, cond_true] at h
      injection h with h
      subst h
      exact hl (k, d) (by simp)
    · simp only [beq_ne e, cond_false] at h
      exact findF_ok (fun q hq => hl q (by simp [hq])) f a h

theorem findF_some {α : Type} : ∀ {l : List (Nat × α)} (f : Nat), (findF l f).isSome = hasN (l.map (·.1)) f
  | [], _ => rfl
  | (k, d) :: r, f => by
    simp only [findF, List.map_cons, hasN]
    by_cases e : k = f
    · have : Nat.beq k f = true := by simpa using e
      simp [this]
    · simp only [beq_ne e, cond_false]
      exact findF_some f

def noLs : List (AK U) → Bool
  | [] => true
  | a :: r => (match a with | .ls _ => false | _ => true) && noLs r
theorem noLs_spec : ∀ {l : List (AK U)}, noLs l = true → ∀ a ∈ l, ∀ i, a ≠ .ls i
  | [], _, a, ha, _ => by simp at ha
  | b :: r, h, a, ha, i => by
    simp only [noLs, Bool.and_eq_true] at h
    rcases List.mem_cons.1 ha with rfl | ha
    · intro e; subst e; simp at h
    · exact noLs_spec h.2 a ha i

theorem ConOk.sub {P : Program} {f : Nat} {as rs : List (AK U)} {fn fn' : denAs as → Option (denAs rs)} (h : ConOk C P f ⟨as, rs, fn⟩) (hs : ∀ x y, fn' x = some y → fn x = some y) : ConOk C P f ⟨as, rs, fn'⟩ :=
  fun x y hx => h x y (hs x y hx)

theorem findF_nil {α : Type} {p : Nat → α → Prop} : ∀ f a, findF ([] : List (Nat × α)) f = some a → p f a := fun f a h => by simp [findF] at h
theorem findF_cons {α : Type} {p : Nat → α → Prop} {k : Nat} {d : α} {r : List (Nat × α)} (h0 : p k d) (hr : ∀ f a, findF r f = some a → p f a) : ∀ f a, findF ((k, d) :: r) f = some a → p f a := fun f a h => by
  simp only [findF] at h
  by_cases e : k = f
  · subst e
    have : Nat.beq k k = true := by simp
    simp only [this, cond_true] at h
    injection h with h
    subst h
    exact h0
  · simp only [beq_ne e, cond_false] at h
    exact hr f a h

/-- A loop: what holds at its head, what goes down. -/
theorem iter_ind {σ R : Type} {F : (σ → Option R) → σ → Option R} {r : R} (I : σ → Prop) (μ : σ → Nat) (step : ∀ (rec : σ → Option R) s, I s → (∀ s', I s' → μ s' < μ s → rec s' = some r) → F rec s = some r) :
    ∀ (n : Nat) (s : σ), I s → μ s < n → iter n F s = some r := by
  intro n
  induction n with
  | zero => intro s _ h; omega
  | succ n ih =>
    intro s hs hn
    simp only [iter]
    exact step _ s hs fun s' hs' hlt => ih s' hs' (by omega)

end
end Go.Den
