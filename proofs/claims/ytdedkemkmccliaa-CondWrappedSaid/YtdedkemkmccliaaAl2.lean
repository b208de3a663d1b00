/-
  AL, part 2: frames and stores of abstract values, the invariant, the abstract weakest precondition, its rules for the shape of code. General: no program in sight.
-/
import Derived.Test.YtdedkemkmccliaaAl1
import Derived.Deep.LoopGhost
set_option linter.unusedVariables false
set_option linter.unusedSimpArgs false
namespace Go.Al
open Go.RowKit

theorem Hide.mk {p : Prop} (h : p) : Hid p := h

abbrev Env := List (Nat × V)
def Env.get : Env → Nat → V
  | [], _ => .any
  | (k, x) :: r, j => if k = j then x else Env.get r j
def Env.put : Env → Nat → V → Env
  | [], j, y => [(j, y)]
  | (k, x) :: r, j, y => if k = j then (k, y) :: r else (k, x) :: Env.put r j y
def Env.putO (e : Env) : Option Nat → V → Env
  | some d, x => e.put d x
  | none, _ => e

theorem Env.get_put (e : Env) (d : Nat) (x : V) (j : Nat) : (e.put d x).get j = if d = j then x else e.get j := by
  induction e with
  | nil => simp [Env.put, Env.get]
  | cons p r ih =>
    obtain ⟨k, y⟩ := p
    unfold Env.put
    by_cases h : k = d
    · subst h
      rw [if_pos rfl]
      unfold Env.get
      by_cases hj : k = j
      · rw [if_pos hj, if_pos hj]
      · rw [if_neg hj, if_neg hj, if_neg hj]
    · rw [if_neg h]
      unfold Env.get
      by_cases hj : k = j
      · rw [if_pos hj, if_pos hj, if_neg (fun e => h (hj.trans e.symm))]
      · rw [if_neg hj, if_neg hj]
        exact ih

/-- What is nil if it is empty. -/
def tagOf (es : List V) : Tag := if es.isEmpty then .nil else .no

def cV1 : Value → V
  | .slice none 0 0 => .lst .nil []
  | .agg _ => .any
  | .tuple _ => .any
  | v => .at v
def cV : Value → V
  | .agg cs => if cs.toList.all one then .agg (cs.toList.map cV1) else .any
  | v => cV1 v

theorem RC_cV1 (g : Gh) (w : World) (v : Value) (h : one v = true) : RC g w (cV1 v) [v] := by
  unfold cV1
  split
  · simp [RC, NilOk]
  · simp [one] at h
  · simp [one] at h
  · simp [RC, h]

theorem RCs_cV1 (g : Gh) (w : World) : ∀ (vs : List Value), vs.all one = true → RCs g w (vs.map cV1) vs
  | [], _ => by simp [RCs]
  | v :: r, h => by
    simp only [List.all_cons, Bool.and_eq_true] at h
    simp only [List.map_cons, RCs]
    exact ⟨[v], r, rfl, RC_cV1 g w v h.1, RCs_cV1 g w r h.2⟩

theorem RV_cV (g : Gh) (w : World) (v : Value) : RV g w (cV v) v := by
  unfold cV
  split
  · rename_i cs
    split
    · rename_i h
      exact RV.of_RV1 ⟨cs.toList, by simpa [RC] using RCs_cV1 g w cs.toList h, by simp [pack]⟩
    · trivial
  · cases h : one v with
    | false =>
      cases v <;> simp [one] at h <;> simp [cV1, RV]
    | true =>
      refine RV.of_RV1 ⟨[v], RC_cV1 g w v h, ?_⟩
      unfold cV1
      split <;> simp_all [pack, one]

def Env.ev (e : Env) : Operand → V
  | .tmp t => e.get t
  | .const v => cV v
  | .global g => .at (.pointer (some ⟨g, 0, none⟩))
  | .func f => .clo (.func f) []

/-- The boxes: a block, its cells, how many cells the block has. -/
def look : List (Nat × List V × Nat) → Nat → Option (List V × Nat)
  | [], _ => none
  | (k, c) :: r, b => if k = b then some c else look r b
def wipe : List (Nat × List V × Nat) → Nat → List (Nat × List V × Nat)
  | [], _ => []
  | (k, c) :: r, b => if k = b then wipe r b else (k, c) :: wipe r b
def lay : List (Nat × List V × Nat) → Nat → List V × Nat → List (Nat × List V × Nat)
  | [], b, x => [(b, x)]
  | (k, c) :: r, b, x => if k = b then (k, x) :: r else (k, c) :: lay r b x

theorem look_lay (l : List (Nat × List V × Nat)) (b : Nat) (x : List V × Nat) (j : Nat) : look (lay l b x) j = if b = j then some x else look l j := by
  induction l with
  | nil => simp [lay, look]
  | cons p r ih =>
    obtain ⟨k, y⟩ := p
    unfold lay
    by_cases h : k = b
    · subst h
      rw [if_pos rfl]
      unfold look
      by_cases hj : k = j
      · rw [if_pos hj, if_pos hj]
      · rw [if_neg hj, if_neg hj, if_neg hj]
    · rw [if_neg h]
      unfold look
      by_cases hj : k = j
      · rw [if_pos hj, if_pos hj, if_neg (fun e => h (hj.trans e.symm))]
      · rw [if_neg hj, if_neg hj]
        exact ih

theorem look_wipe (l : List (Nat × List V × Nat)) (b j : Nat) : look (wipe l b) j = if b = j then none else look l j := by
  induction l with
  | nil => simp [wipe, look]
  | cons p r ih =>
    obtain ⟨k, y⟩ := p
    unfold wipe
    by_cases h : k = b
    · subst h
      rw [if_pos rfl, ih]
      by_cases hj : k = j
      · rw [if_pos hj, if_pos hj]
      · rw [if_neg hj, if_neg hj]
        show look r j = if k = j then some y else look r j
        rw [if_neg hj]
    · rw [if_neg h]
      show (if k = j then some y else look (wipe r b) j) = if b = j then none else (if k = j then some y else look r j)
      rw [ih]
      by_cases hj : k = j
      · rw [if_pos hj, if_neg (fun e => h (hj.trans e.symm)), if_pos hj]
      · rw [if_neg hj, if_neg hj]

structure S where
  box : List (Nat × List V × Nat)
  tg : List Nat
  nx : Nat

/-- What holds of the world: the boxes hold what they should, the growing slices are as their names say, no two share. -/
structure Inv (B : Nat) (g : Gh) (st : S) (w : World) : Prop where
  base : B ≤ w.heap.size
  box : ∀ b cs k, look st.box b = some (cs, k) → B ≤ b ∧ g.wm b = 0 ∧ cs.length ≤ k ∧ (∀ c ∈ cs, c.isOne = true) ∧
    ∃ arr el us, w.heap[b]? = some (.cells arr el (0, 0)) ∧ arr.size = k ∧ RCs g w cs us ∧ arr.toList.take cs.length = us
  tag : ∀ t ∈ st.tg, ∃ d, g.tb t = some d
  own : ∀ t ∈ st.tg, ∀ b cap n sz, g.tb t = some (some (b, cap, n, sz)) → B ≤ b ∧ g.wm b = n * sz ∧ n ≤ cap ∧ cap ≤ maxLen ∧ look st.box b = none ∧
    ∃ arr el, w.heap[b]? = some (.cells arr el (0, 0)) ∧ arr.size = cap * sz
  dist : ∀ t ∈ st.tg, ∀ t' ∈ st.tg, ∀ b x y, g.tb t = some (some (b, x)) → g.tb t' = some (some (b, y)) → t = t'
  nodup : st.tg.Nodup
  fresh : ∀ b, w.heap.size ≤ b → g.wm b = 0
  names : ∀ t, st.nx ≤ t → g.tb t = none

/-- From g, w to g', w': what stays stays; below B nothing has turned. -/
structure Step (B : Nat) (g : Gh) (w : World) (g' : Gh) (w' : World) : Prop where
  later : Later g w g' w'
  below : Below B w w'
  fz : ∀ a, w'.frozen? a = w.frozen? a
  wmB : ∀ b, b < B → g'.wm b = g.wm b

theorem Step.refl (B : Nat) (g : Gh) (w : World) : Step B g w g w := ⟨.refl _ _, .refl _ _, fun _ => rfl, fun _ _ => rfl⟩
theorem Step.trans {B : Nat} {g g1 g2 : Gh} {w w1 w2 : World} (h : Step B g w g1 w1) (h' : Step B g1 w1 g2 w2) : Step B g w g2 w2 :=
  ⟨h.later.trans h'.later, h.below.trans h'.below, fun a => (h'.fz a).trans (h.fz a), fun b hb => (h'.wmB b hb).trans (h.wmB b hb)⟩

/-- The frame of a walk: the first block of one's own, how many temporaries. -/
structure Cx where
  B : Nat
  N : Nat

structure Rel (X : Cx) (g : Gh) (e : Env) (st : S) (a : Act) (w : World) : Prop where
  inv : Inv X.B g st w
  env : ∀ k, RV g w (e.get k) (a.tmps.getD k undef)
  size : a.tmps.size = X.N
  df : a.defers = []

theorem Rel.ev {X : Cx} {g : Gh} {e : Env} {st : S} {a : Act} {w : World} (h : Rel X g e st a w) (x : Operand) : RV g w (e.ev x) (a.eval x) := by
  cases x with
  | tmp t => exact h.env t
  | const v => exact RV_cV g w v
  | global n => exact RV.of_RV1 (x := .at (.pointer (some ⟨n, 0, none⟩))) ⟨[.pointer (some ⟨n, 0, none⟩)], by simp [RC, one], rfl⟩
  | func f => exact RV.of_RV1 (x := .clo (.func f) []) ⟨[.func (.func f) #[] #[]], by simp [RC, RCs], rfl⟩

theorem Rel.put {X : Cx} {g g' : Gh} {e : Env} {st st' : S} {a : Act} {w w' : World} (h : Rel X g e st a w) (l : Later g w g' w') (i : Inv X.B g' st' w')
    {x : V} {u : Value} (hx : RV g' w' x u) (d : Option Nat) (hd : ∀ t, d = some t → t < X.N) : Rel X g' (e.putO d x) st' (a.put d u) w' := by
  refine ⟨i, fun k => ?_, ?_, ?_⟩
  · cases d with
    | none => exact (h.env k).later l
    | some t =>
      have ht := hd t rfl
      simp only [Env.putO, Act.put, Env.get_put]
      by_cases hk : t = k
      · subst hk
        have hs : t < a.tmps.size := by rw [h.size]; exact ht
        simpa [hs] using hx
      · have := (h.env k).later l
        simpa [hk, Array.getElem?_setIfInBounds_ne hk] using this
  · cases d <;> simp [Act.put, h.size]
  · cases d <;> simp [Act.put, h.df]

/-- e' knows no more than e. -/
def Env.sub (e e' : Env) : Prop := ∀ k, e'.get k = e.get k ∨ e'.get k = .any

theorem Env.sub_refl (e : Env) : e.sub e := fun _ => .inl rfl

theorem Env.sub_of (e : Env) : ∀ (l : List (Nat × V)), (∀ p ∈ l, e.get p.1 = p.2) → e.sub l
  | [], _, k => .inr rfl
  | (j, x) :: r, h, k => by
    simp only [Env.get]
    by_cases hk : j = k
    · subst hk; exact .inl (by rw [if_pos rfl]; exact (h (j, x) (by simp)).symm)
    · rw [if_neg hk]
      exact Env.sub_of e r (fun p hp => h p (by simp [hp])) k

/-- st' has no more than st. -/
structure S.sub (st st' : S) : Prop where
  box : ∀ b c, look st'.box b = some c → look st.box b = some c
  tg : ∀ t ∈ st'.tg, t ∈ st.tg
  nodup : st.tg.Nodup → st'.tg.Nodup
  out : ∀ b, look st.box b = none → look st'.box b = none
  nx : st.nx ≤ st'.nx

theorem S.sub_refl (st : S) : st.sub st := ⟨fun _ _ h => h, fun _ h => h, fun h => h, fun _ h => h, Nat.le_refl _⟩

theorem Inv.weaken {B : Nat} {g : Gh} {st st' : S} {w : World} (h : Inv B g st w) (s : st.sub st') : Inv B g st' w :=
  ⟨h.base, fun b cs k hl => h.box b cs k (s.box _ _ hl), fun t ht => h.tag t (s.tg t ht),
   fun t ht b cap n sz hb => let ⟨h1, h2, h3, h4, h5, h6⟩ := h.own t (s.tg t ht) b cap n sz hb; ⟨h1, h2, h3, h4, s.out b h5, h6⟩,
   fun t ht t' ht' => h.dist t (s.tg t ht) t' (s.tg t' ht'), s.nodup h.nodup, h.fresh, fun t ht => h.names t (Nat.le_trans s.nx ht)⟩

theorem Rel.weaken {X : Cx} {g : Gh} {e e' : Env} {st st' : S} {a : Act} {w : World} (h : Rel X g e st a w) (he : e.sub e') (hs : st.sub st') : Rel X g e' st' a w :=
  ⟨h.inv.weaken hs, fun k => by
    rcases he k with hk | hk
    · rw [hk]; exact h.env k
    · rw [hk]; trivial, h.size, h.df⟩

/-- THE ABSTRACT WEAKEST PRECONDITION. -/
def awp (P : Program) (X : Cx) (c : Code) (Q : Exit → Env → S → Prop) (e : Env) (st : S) : Prop :=
  ∀ g a w, Rel X g e st a w → c.wp P (fun ex a' w' => ∃ g' e' st', Step X.B g w g' w' ∧ Rel X g' e' st' a' w' ∧ Q ex e' st') a w

def thenE (next : Env → S → Prop) (Q : Exit → Env → S → Prop) : Exit → Env → S → Prop
  | .normal, e, st => next e st
  | x, e, st => Q x e st

def blockE (id : Nat) (Q : Exit → Env → S → Prop) : Exit → Env → S → Prop
  | .exit id', e, st => if id' = id then Q .normal e st else Q (.exit id') e st
  | x, e, st => Q x e st

section rules
variable {P : Program} {X : Cx} {Q : Exit → Env → S → Prop} {e : Env} {st : S}

theorem awp_mono {c : Code} {Q' : Exit → Env → S → Prop} (h : awp P X c Q e st) (hq : ∀ x e st, Q x e st → Q' x e st) : awp P X c Q' e st :=
  fun g a w hr => wp_mono (h g a w hr) fun _ _ _ ⟨g', e', st', h1, h2, h3⟩ => ⟨g', e', st', h1, h2, hq _ _ _ h3⟩

theorem awp_weaken {c : Code} {e' : Env} {st' : S} (he : e.sub e') (hs : st.sub st') (h : awp P X c Q e' st') : awp P X c Q e st :=
  fun g a w hr => h g a w (hr.weaken he hs)

theorem awp_skip (h : Q .normal e st) : awp P X .skip Q e st :=
  fun g a w hr => wp_skip ⟨g, e, st, .refl _ _ _, hr, h⟩

theorem awp_exit {id : Nat} (h : Q (.exit id) e st) : awp P X (.exit id) Q e st :=
  fun g a w hr => wp_exit ⟨g, e, st, .refl _ _ _, hr, h⟩

theorem awp_ret (h : Q .ret e st) : awp P X .ret Q e st :=
  fun g a w hr => wp_ret ⟨g, e, st, .refl _ _ _, hr, h⟩

theorem awp_seq {x y : Code} (h : awp P X x (thenE (awp P X y Q) Q) e st) : awp P X (.seq x y) Q e st := by
  intro g a w hr
  refine wp_seq (wp_mono (h g a w hr) ?_)
  rintro ex a' w' ⟨g', e', st', h1, h2, h3⟩
  cases ex with
  | normal => exact wp_mono (h3 g' a' w' h2) fun _ _ _ ⟨g2, e2, st2, k1, k2, k3⟩ => ⟨g2, e2, st2, h1.trans k1, k2, k3⟩
  | exit id => exact ⟨g', e', st', h1, h2, h3⟩
  | goto l => exact ⟨g', e', st', h1, h2, h3⟩
  | ret => exact ⟨g', e', st', h1, h2, h3⟩
  | panic c => exact ⟨g', e', st', h1, h2, h3⟩
  | outgrown => exact ⟨g', e', st', h1, h2, h3⟩

theorem awp_block {id : Nat} {c : Code} (h : awp P X c (blockE id Q) e st) : awp P X (.block id c) Q e st := by
  intro g a w hr
  refine wp_block (wp_mono (h g a w hr) ?_)
  rintro ex a' w' ⟨g', e', st', h1, h2, h3⟩
  cases ex with
  | exit id' =>
    simp only [Exit.inBlock]
    simp only [blockE] at h3
    split
    · rename_i hid; rw [if_pos hid] at h3; exact ⟨g', e', st', h1, h2, h3⟩
    · rename_i hid; rw [if_neg hid] at h3; exact ⟨g', e', st', h1, h2, h3⟩
  | normal => exact ⟨g', e', st', h1, h2, h3⟩
  | goto l => exact ⟨g', e', st', h1, h2, h3⟩
  | ret => exact ⟨g', e', st', h1, h2, h3⟩
  | panic c => exact ⟨g', e', st', h1, h2, h3⟩
  | outgrown => exact ⟨g', e', st', h1, h2, h3⟩

theorem awp_cond {c : Operand} {x y : Code} {t : Bool} (hc : e.ev c = .at (.bool t)) (ht : t = true → awp P X x Q e st) (hf : t = false → awp P X y Q e st) :
    awp P X (.cond c x y) Q e st := by
  intro g a w hr
  have h1 := hr.ev c
  rw [hc] at h1
  have h2 : a.eval c = .bool t := by
    obtain ⟨us, hu, hr2⟩ := h1
    simp only [RC] at hu
    rw [hr2, hu.1]
    rfl
  cases t with
  | true => exact wp_cond_true h2 (ht rfl g a w hr)
  | false => exact wp_cond_false h2 (hf rfl g a w hr)

/-- A loop: a family of heads, each with a measure, what is known of the slots, and a store. -/
theorem awp_loop {c : Code} {α : Type} (I : α → Prop) (μ : α → Nat) (E : α → Env) (T : α → S) (x₀ : α) (hI : I x₀) (he : e.sub (E x₀)) (hs : st.sub (T x₀))
    (round : ∀ x, I x → awp P X c (thenE (fun e' st' => ∃ x', I x' ∧ μ x' < μ x ∧ e'.sub (E x') ∧ st'.sub (T x')) Q) (E x) (T x)) : awp P X (.loop c) Q e st := by
  intro g a w hr
  refine wp_loop_ghost (fun n a' w' => ∃ x g', μ x = n ∧ I x ∧ Step X.B g w g' w' ∧ Rel X g' (E x) (T x) a' w') (μ x₀) ⟨x₀, g, rfl, hI, .refl _ _ _, hr.weaken he hs⟩ ?_
  rintro n a1 w1 ⟨x, g1, rfl, p1, p2, p3⟩
  refine wp_mono (round x p1 g1 a1 w1 p3) ?_
  rintro ex a2 w2 ⟨g2, e2, st2, q1, q2, q3⟩
  cases ex with
  | normal =>
    obtain ⟨x2, r1, r2, r3, r4⟩ := q3
    exact ⟨μ x2, r2, x2, g2, rfl, r1, p2.trans q1, q2.weaken r3 r4⟩
  | exit id => exact ⟨g2, e2, st2, p2.trans q1, q2, q3⟩
  | goto l => exact ⟨g2, e2, st2, p2.trans q1, q2, q3⟩
  | ret => exact ⟨g2, e2, st2, p2.trans q1, q2, q3⟩
  | panic c => exact ⟨g2, e2, st2, p2.trans q1, q2, q3⟩
  | outgrown => exact ⟨g2, e2, st2, p2.trans q1, q2, q3⟩

end rules
end Go.Al
