/-
  AL, part 1: abstract values, how they read in a world, and that reading lasts. General: no program in sight.
-/
import Derived.Test.YtegibhjgldpndaaDoorG0
import Derived.WalkKit
import Derived.WalkSpells
import Derived.WalkLawsBesides
import Derived.Deep.LoopGhost
import Derived.Deep.AppendSrc
import Derived.Sort.LoopGhostIn
import Derived.OrdersIn
set_option linter.unusedVariables false
set_option linter.unusedSimpArgs false
namespace Go.Al

/-- How a slice came to be: nil; one that is only read; one that the function itself grows (its ghost name, whether it was born nil, the size of an element). -/
inductive Tag where
  | nil
  | no
  | own (t : Nat) (nb : Bool) (sz : Nat)

inductive V where
  | any
  | at (v : Value)
  | agg (fs : List V)
  | tup (vs : List V)
  | lst (tg : Tag) (es : List V)
  | rptr (x : V)
  | ifx
  | clo (fn : Fn) (caps : List V)

instance : Inhabited V := ⟨.any⟩

/-- One cell holds it. -/
def one : Value → Bool
  | .agg _ | .tuple _ => false
  | _ => true

/-- It is one cell. -/
def V.isOne : V → Bool
  | .any | .agg _ | .tup _ => false
  | _ => true
def V.isAgg : V → Bool
  | .agg _ => true
  | _ => false
/-- Its cells. -/
def V.flat : V → List V
  | .agg fs => fs
  | x => [x]

mutual
def V.size : V → Nat
  | .agg fs => sizes fs
  | _ => 1
def sizes : List V → Nat
  | [] => 0
  | x :: xs => x.size + sizes xs
end

/-- Ghost facts: how many cells of a block stay as they are; what a name of a growing slice stands for (nil, or its block, its capacity, how many it has). -/
structure Gh where
  wm : Nat → Nat
  tb : Nat → Option (Option (Nat × Nat × Nat × Nat))

/-- The same without names: within data nothing grows. -/
def Gh.bare (g : Gh) : Gh := ⟨g.wm, fun _ => none⟩

def pack : V → List Value → Value
  | .agg _, us => .agg us.toArray
  | _, us => us.headD undef

/-- The cells us lie in w from b, o on, and stay. -/
def At (g : Gh) (w : World) (b o : Nat) (us : List Value) : Prop :=
  ∀ (k : Nat) u, us[k]? = some u → w.cell? ⟨b, o + k, none⟩ = some u ∧ o + k < g.wm b

def TagOk (g : Gh) (nes : Nat) (b o cap : Nat) : Tag → Prop
  | .nil => False
  | .no => True
  | .own t nb sz => g.tb t = some (some (b, cap, nes, sz)) ∧ o = 0 ∧ (nb = true → nes ≠ 0)

def NilOk (g : Gh) : Tag → Prop
  | .nil => True
  | .no => False
  | .own t nb _ => g.tb t = some none ∧ nb = true

def Unif (tg : Tag) (es : List V) : Prop :=
  ∃ sz, (∀ x ∈ es, x.size = sz) ∧ (∀ t nb s, tg = .own t nb s → s = sz ∨ es = [])

mutual
/-- The cells of an abstract value. -/
def RC (g : Gh) (w : World) : V → List Value → Prop
  | .any, _ => False
  | .at v, us => us = [v] ∧ one v = true
  | .agg fs, us => RCs g w fs us
  | .tup _, _ => False
  | .lst tg es, us =>
      (es = [] ∧ us = [.slice none 0 0] ∧ NilOk g tg) ∨
      (∃ b o cap ds, us = [.slice (some ⟨b, o, none⟩) es.length cap] ∧ es.length ≤ cap ∧ TagOk g es.length b o cap tg ∧ RCs g.bare w es ds ∧ Unif tg es ∧ At g w b o ds)
  | .rptr x, us => ∃ b o ds, us = [.pointer (some ⟨b, o, none⟩)] ∧ RC g.bare w x ds ∧ At g w b o ds
  | .ifx, us => ∃ t p, us = [.iface t p]
  | .clo fn caps, us => ∃ ds, RCs g.bare w caps ds ∧ us = [.func fn #[] ds.toArray]
def RCs (g : Gh) (w : World) : List V → List Value → Prop
  | [], us => us = []
  | x :: xs, us => ∃ u1 u2, us = u1 ++ u2 ∧ RC g w x u1 ∧ RCs g w xs u2
end

mutual
theorem RC_length (g : Gh) (w : World) : ∀ x us, RC g w x us → us.length = x.size
  | .any, us, h => by simp [RC] at h
  | .at v, us, h => by simp [RC] at h; simp [h.1, V.size]
  | .agg fs, us, h => by simp only [RC] at h; simp only [V.size]; exact RCs_length g w fs us h
  | .tup _, us, h => by simp [RC] at h
  | .lst tg es, us, h => by
      simp only [RC] at h
      rcases h with ⟨_, rfl, _⟩ | ⟨b, o, cap, ds, rfl, _⟩ <;> simp [V.size]
  | .rptr x, us, h => by simp only [RC] at h; obtain ⟨b, o, ds, rfl, _⟩ := h; simp [V.size]
  | .ifx, us, h => by simp only [RC] at h; obtain ⟨t, p, rfl⟩ := h; simp [V.size]
  | .clo fn caps, us, h => by simp only [RC] at h; obtain ⟨ds, _, rfl⟩ := h; simp [V.size]
theorem RCs_length (g : Gh) (w : World) : ∀ xs us, RCs g w xs us → us.length = sizes xs
  | [], us, h => by simp only [RCs] at h; simp [h, sizes]
  | x :: xs, us, h => by
      simp only [RCs] at h
      obtain ⟨u1, u2, rfl, h1, h2⟩ := h
      have e1 := RC_length g w x u1 h1
      have e2 := RCs_length g w xs u2 h2
      simp [sizes, e1, e2]
end

/-- What may turn: new ghost names, more cells that stay; what stays has stayed. -/
structure Later (g : Gh) (w : World) (g' : Gh) (w' : World) : Prop where
  wm : ∀ b, g.wm b ≤ g'.wm b
  tb : ∀ t x, g.tb t = some x → g'.tb t = some x
  cell : ∀ b o, o < g.wm b → w'.cell? ⟨b, o, none⟩ = w.cell? ⟨b, o, none⟩

theorem Later.refl (g : Gh) (w : World) : Later g w g w := ⟨fun _ => Nat.le_refl _, fun _ _ h => h, fun _ _ _ => rfl⟩

theorem Later.trans {g g1 g2 : Gh} {w w1 w2 : World} (h : Later g w g1 w1) (h' : Later g1 w1 g2 w2) : Later g w g2 w2 :=
  ⟨fun b => Nat.le_trans (h.wm b) (h'.wm b), fun t x e => h'.tb t x (h.tb t x e),
   fun b o ho => (h'.cell b o (Nat.lt_of_lt_of_le ho (h.wm b))).trans (h.cell b o ho)⟩

theorem Later.bare {g g' : Gh} {w w' : World} (l : Later g w g' w') : Later g.bare w g'.bare w' := ⟨l.wm, (fun _ _ h => nomatch h), l.cell⟩

theorem At.later {g g' : Gh} {w w' : World} (l : Later g w g' w') {b o : Nat} {us : List Value} (h : At g w b o us) : At g' w' b o us :=
  fun k u hk => let ⟨h1, h2⟩ := h k u hk; ⟨(l.cell b _ h2).trans h1, Nat.lt_of_lt_of_le h2 (l.wm b)⟩

mutual
theorem RC_later {g g' : Gh} {w w' : World} (l : Later g w g' w') : ∀ x us, RC g w x us → RC g' w' x us
  | .any, us, h => by simp [RC] at h
  | .at v, us, h => by simpa [RC] using h
  | .agg fs, us, h => by simp only [RC] at h ⊢; exact RCs_later l fs us h
  | .tup _, us, h => by simp [RC] at h
  | .lst tg es, us, h => by
      simp only [RC] at h ⊢
      rcases h with ⟨he, hu, hn⟩ | ⟨b, o, cap, ds, hu, hc, ht, hr, hf, ha⟩
      · refine .inl ⟨he, hu, ?_⟩
        cases tg with
        | nil => exact hn
        | no => exact hn
        | own t nb s => exact ⟨l.tb _ _ hn.1, hn.2⟩
      · refine .inr ⟨b, o, cap, ds, hu, hc, ?_, RCs_later l.bare es ds hr, hf, ha.later l⟩
        cases tg with
        | nil => exact ht
        | no => exact ht
        | own t nb s => exact ⟨l.tb _ _ ht.1, ht.2⟩
  | .rptr x, us, h => by
      simp only [RC] at h ⊢
      obtain ⟨b, o, ds, hu, hr, ha⟩ := h
      exact ⟨b, o, ds, hu, RC_later l.bare x ds hr, ha.later l⟩
  | .ifx, us, h => by simp only [RC] at h ⊢; exact h
  | .clo fn caps, us, h => by
      simp only [RC] at h ⊢
      obtain ⟨ds, hr, hu⟩ := h
      exact ⟨ds, RCs_later l.bare caps ds hr, hu⟩
theorem RCs_later {g g' : Gh} {w w' : World} (l : Later g w g' w') : ∀ xs us, RCs g w xs us → RCs g' w' xs us
  | [], us, h => by simpa [RCs] using h
  | x :: xs, us, h => by
      simp only [RCs] at h ⊢
      obtain ⟨u1, u2, rfl, h1, h2⟩ := h
      exact ⟨u1, u2, rfl, RC_later l x u1 h1, RCs_later l xs u2 h2⟩
end

mutual
/-- What holds without names holds with them. -/
theorem RC_named (g : Gh) (w : World) : ∀ x us, RC g.bare w x us → RC g w x us
  | .any, us, h => by simp [RC] at h
  | .at v, us, h => by simpa [RC] using h
  | .agg fs, us, h => by simp only [RC] at h ⊢; exact RCs_named g w fs us h
  | .tup _, us, h => by simp [RC] at h
  | .lst tg es, us, h => by
      simp only [RC] at h ⊢
      rcases h with ⟨he, hu, hn⟩ | ⟨b, o, cap, ds, hu, hc, ht, hr, hf, ha⟩
      · refine .inl ⟨he, hu, ?_⟩
        cases tg with
        | nil => exact hn
        | no => exact hn
        | own t nb s => cases hn.1
      · refine .inr ⟨b, o, cap, ds, hu, hc, ?_, hr, hf, ha⟩
        cases tg with
        | nil => exact ht
        | no => exact ht
        | own t nb s => cases ht.1
  | .rptr x, us, h => by simp only [RC] at h ⊢; exact h
  | .ifx, us, h => by simp only [RC] at h ⊢; exact h
  | .clo fn caps, us, h => by simp only [RC] at h ⊢; exact h
theorem RCs_named (g : Gh) (w : World) : ∀ xs us, RCs g.bare w xs us → RCs g w xs us
  | [], us, h => by simpa [RCs] using h
  | x :: xs, us, h => by
      simp only [RCs] at h ⊢
      obtain ⟨u1, u2, rfl, h1, h2⟩ := h
      exact ⟨u1, u2, rfl, RC_named g w x u1 h1, RCs_named g w xs u2 h2⟩
end

/-- A value in a slot. -/
def RV1 (g : Gh) (w : World) (x : V) (u : Value) : Prop := ∃ us, RC g w x us ∧ u = pack x us

inductive RVs (g : Gh) (w : World) : List V → List Value → Prop where
  | nil : RVs g w [] []
  | cons {x u xs us} (h : RV1 g w x u) (hs : RVs g w xs us) : RVs g w (x :: xs) (u :: us)

def RV (g : Gh) (w : World) : V → Value → Prop
  | .any, _ => True
  | .tup vs, u => ∃ us, RVs g w vs us ∧ u = .tuple us.toArray
  | x, u => RV1 g w x u

theorem RV1.later {g g' : Gh} {w w' : World} (l : Later g w g' w') {x : V} {u : Value} (h : RV1 g w x u) : RV1 g' w' x u :=
  let ⟨us, h1, h2⟩ := h; ⟨us, RC_later l x us h1, h2⟩

theorem RVs.later {g g' : Gh} {w w' : World} (l : Later g w g' w') {xs : List V} {us : List Value} (h : RVs g w xs us) : RVs g' w' xs us := by
  induction h with
  | nil => exact .nil
  | cons h _ ih => exact .cons (h.later l) ih

theorem RV.later {g g' : Gh} {w w' : World} (l : Later g w g' w') {x : V} {u : Value} (h : RV g w x u) : RV g' w' x u := by
  cases x with
  | any => trivial
  | tup vs => obtain ⟨us, h1, h2⟩ := h; exact ⟨us, h1.later l, h2⟩
  | _ => exact RV1.later l h

theorem RV.of_RV1 {g : Gh} {w : World} {x : V} {u : Value} (h : RV1 g w x u) : RV g w x u := by
  cases x with
  | any => trivial
  | tup vs => obtain ⟨us, h1, _⟩ := h; simp [RC] at h1
  | _ => exact h

theorem RVs.get {g : Gh} {w : World} {xs : List V} {us : List Value} (h : RVs g w xs us) : ∀ (i : Nat) x, xs[i]? = some x → ∃ u, us[i]? = some u ∧ RV1 g w x u := by
  induction h with
  | nil => intro i x hx; simp at hx
  | cons h _ ih =>
    intro i x hx
    cases i with
    | zero => simp at hx; subst hx; exact ⟨_, by simp, h⟩
    | succ i => simpa using ih i x (by simpa using hx)

theorem RVs.length {g : Gh} {w : World} {xs : List V} {us : List Value} (h : RVs g w xs us) : us.length = xs.length := by
  induction h with
  | nil => rfl
  | cons _ _ ih => simp [ih]

end Go.Al

/-
  AL, part 2: frames and stores of abstract values, the invariant, the abstract weakest precondition, its rules for the shape of code. General: no program in sight.
-/
namespace Go.Al
open Go.RowKit

theorem Hide.mk {p : Prop} (h : p) : Hid p := h

abbrev Env := List (Nat × V)
def Env.get : Env → Nat → V
  | [], _ => .any
  | (k, x) :: r, j => if k = j then x else Env.get r j
def Env.put : Env → Nat → V → Env
  | [], j, y => [(j, y)]
  | (k, x) :: r, j, y => if k = j then (k, y) :: r else (k, x) :: Env.put r j y
def Env.putO (e : Env) : Option Nat → V → Env
  | some d, x => e.put d x
  | none, _ => e

theorem Env.get_put (e : Env) (d : Nat) (x : V) (j : Nat) : (e.put d x).get j = if d = j then x else e.get j := by
  induction e with
  | nil => simp [Env.put, Env.get]
  | cons p r ih =>
    obtain ⟨k, y⟩ := p
    unfold Env.put
    by_cases h : k = d
    · subst h
      rw [if_pos rfl]
      unfold Env.get
      by_cases hj : k = j
      · rw [if_pos hj, if_pos hj]
      · rw [if_neg hj, if_neg hj, if_neg hj]
    · rw [if_neg h]
      unfold Env.get
      by_cases hj : k = j
      · rw [if_pos hj, if_pos hj, if_neg (fun e => h (hj.trans e.symm))]
      · rw [if_neg hj, if_neg hj]
        exact ih

/-- What is nil if it is empty. -/
def tagOf (es : List V) : Tag := if es.isEmpty then .nil else .no

def cV1 : Value → V
  | .slice none 0 0 => .lst .nil []
  | .agg _ => .any
  | .tuple _ => .any
  | v => .at v
def cV : Value → V
  | .agg cs => if cs.toList.all one then .agg (cs.toList.map cV1) else .any
  | v => cV1 v

theorem RC_cV1 (g : Gh) (w : World) (v : Value) (h : one v = true) : RC g w (cV1 v) [v] := by
  unfold cV1
  split
  · simp [RC, NilOk]
  · simp [one] at h
  · simp [one] at h
  · simp [RC, h]

theorem RCs_cV1 (g : Gh) (w : World) : ∀ (vs : List Value), vs.all one = true → RCs g w (vs.map cV1) vs
  | [], _ => by simp [RCs]
  | v :: r, h => by
    simp only [List.all_cons, Bool.and_eq_true] at h
    simp only [List.map_cons, RCs]
    exact ⟨[v], r, rfl, RC_cV1 g w v h.1, RCs_cV1 g w r h.2⟩

theorem RV_cV (g : Gh) (w : World) (v : Value) : RV g w (cV v) v := by
  unfold cV
  split
  · rename_i cs
    split
    · rename_i h
      exact RV.of_RV1 ⟨cs.toList, by simpa [RC] using RCs_cV1 g w cs.toList h, by simp [pack]⟩
    · trivial
  · cases h : one v with
    | false =>
      cases v <;> simp [one] at h <;> simp [cV1, RV]
    | true =>
      refine RV.of_RV1 ⟨[v], RC_cV1 g w v h, ?_⟩
      unfold cV1
      split <;> simp_all [pack, one]

def Env.ev (e : Env) : Operand → V
  | .tmp t => e.get t
  | .const v => cV v
  | .global g => .at (.pointer (some ⟨g, 0, none⟩))
  | .func f => .clo (.func f) []

/-- The boxes: a block, its cells, how many cells the block has. -/
def look : List (Nat × List V × Nat) → Nat → Option (List V × Nat)
  | [], _ => none
  | (k, c) :: r, b => if k = b then some c else look r b
def wipe : List (Nat × List V × Nat) → Nat → List (Nat × List V × Nat)
  | [], _ => []
  | (k, c) :: r, b => if k = b then wipe r b else (k, c) :: wipe r b
def lay : List (Nat × List V × Nat) → Nat → List V × Nat → List (Nat × List V × Nat)
  | [], b, x => [(b, x)]
  | (k, c) :: r, b, x => if k = b then (k, x) :: r else (k, c) :: lay r b x

theorem look_lay (l : List (Nat × List V × Nat)) (b : Nat) (x : List V × Nat) (j : Nat) : look (lay l b x) j = if b = j then some x else look l j := by
  induction l with
  | nil => simp [lay, look]
  | cons p r ih =>
    obtain ⟨k, y⟩ := p
    unfold lay
    by_cases h : k = b
    · subst h
      rw [if_pos rfl]
      unfold look
      by_cases hj : k = j
      · rw [if_pos hj, if_pos hj]
      · rw [if_neg hj, if_neg hj, if_neg hj]
    · rw [if_neg h]
      unfold look
      by_cases hj : k = j
      · rw [if_pos hj, if_pos hj, if_neg (fun e => h (hj.trans e.symm))]
      · rw [if_neg hj, if_neg hj]
        exact ih

theorem look_wipe (l : List (Nat × List V × Nat)) (b j : Nat) : look (wipe l b) j = if b = j then none else look l j := by
  induction l with
  | nil => simp [wipe, look]
  | cons p r ih =>
    obtain ⟨k, y⟩ := p
    unfold wipe
    by_cases h : k = b
    · subst h
      rw [if_pos rfl, ih]
      by_cases hj : k = j
      · rw [if_pos hj, if_pos hj]
      · rw [if_neg hj, if_neg hj]
        show look r j = if k = j then some y else look r j
        rw [if_neg hj]
    · rw [if_neg h]
      show (if k = j then some y else look (wipe r b) j) = if b = j then none else (if k = j then some y else look r j)
      rw [ih]
      by_cases hj : k = j
      · rw [if_pos hj, if_neg (fun e => h (hj.trans e.symm)), if_pos hj]
      · rw [if_neg hj, if_neg hj]

structure S where
  box : List (Nat × List V × Nat)
  tg : List Nat
  nx : Nat

/-- What holds of the world: the boxes hold what they should, the growing slices are as their names say, no two share. -/
structure Inv (B : Nat) (g : Gh) (st : S) (w : World) : Prop where
  base : B ≤ w.heap.size
  box : ∀ b cs k, look st.box b = some (cs, k) → B ≤ b ∧ g.wm b = 0 ∧ cs.length ≤ k ∧ (∀ c ∈ cs, c.isOne = true) ∧
    ∃ arr el us, w.heap[b]? = some (.cells arr el (0, 0)) ∧ arr.size = k ∧ RCs g w cs us ∧ arr.toList.take cs.length = us
  tag : ∀ t ∈ st.tg, ∃ d, g.tb t = some d
  own : ∀ t ∈ st.tg, ∀ b cap n sz, g.tb t = some (some (b, cap, n, sz)) → B ≤ b ∧ g.wm b = n * sz ∧ n ≤ cap ∧ cap ≤ maxLen ∧ look st.box b = none ∧
    ∃ arr el, w.heap[b]? = some (.cells arr el (0, 0)) ∧ arr.size = cap * sz
  dist : ∀ t ∈ st.tg, ∀ t' ∈ st.tg, ∀ b x y, g.tb t = some (some (b, x)) → g.tb t' = some (some (b, y)) → t = t'
  nodup : st.tg.Nodup
  fresh : ∀ b, w.heap.size ≤ b → g.wm b = 0
  names : ∀ t, st.nx ≤ t → g.tb t = none

/-- What is no cells lies as it lay. -/
def noCells : Obj → Bool
  | .cells .. => false
  | _ => true
def Oth (w w' : World) : Prop := ∀ (b : Nat) (o : Obj), w.heap[b]? = some o → noCells o = true → w'.heap[b]? = some o
theorem Oth.refl (w : World) : Oth w w := fun _ _ h _ => h
theorem Oth.trans {w w1 w2 : World} (h : Oth w w1) (k : Oth w1 w2) : Oth w w2 := fun b o h1 h2 => k b o (h b o h1 h2) h2
theorem Oth.one {w w' : World} {b : Nat} {arr : Array Value} {el : TypeId} {m : Nat × Nat} (hh : w.heap[b]? = some (.cells arr el m)) (h : ∀ j, j ≠ b → w'.heap[j]? = w.heap[j]?) : Oth w w' := fun j o h1 h2 => by
  by_cases e : j = b
  · subst e; rw [hh] at h1; injection h1 with h1; subst h1; cases h2
  · exact (h j e).trans h1
theorem Oth.old {w w' : World} (h : ∀ j, j < w.heap.size → w'.heap[j]? = w.heap[j]?) : Oth w w' := fun j o h1 _ => (h j (Array.getElem?_eq_some_iff.1 h1).1).trans h1

/-- From g, w to g', w': what stays stays; below B nothing has turned. -/
structure Step (B : Nat) (g : Gh) (w : World) (g' : Gh) (w' : World) : Prop where
  later : Later g w g' w'
  below : Below B w w'
  fz : Oth w w'
  wmB : ∀ b, b < B → g'.wm b = g.wm b

theorem Step.refl (B : Nat) (g : Gh) (w : World) : Step B g w g w := ⟨.refl _ _, .refl _ _, .refl _, fun _ _ => rfl⟩
theorem Step.trans {B : Nat} {g g1 g2 : Gh} {w w1 w2 : World} (h : Step B g w g1 w1) (h' : Step B g1 w1 g2 w2) : Step B g w g2 w2 :=
  ⟨h.later.trans h'.later, h.below.trans h'.below, h.fz.trans h'.fz, fun b hb => (h'.wmB b hb).trans (h.wmB b hb)⟩

/-- The frame of a walk: the first block of one's own, how many temporaries. -/
structure Cx where
  B : Nat
  N : Nat
  ro : Option Nat

/-- What package-level variables hold: it is there, and stays. -/
def GlobOk (B : Nat) (w : World) : Prop := ∀ p ∈ globL, p.1 < B ∧ ∃ arr el m, w.heap[p.1]? = some (.cells arr el m) ∧ p.2 arr.toList
theorem GlobOk.below {B : Nat} {w w' : World} (l : Below B w w') (h : GlobOk B w) : GlobOk B w' := fun p hp =>
  let ⟨h0, arr, el, m, h1, h2⟩ := h p hp; ⟨h0, arr, el, m, (l.block _ h0).trans h1, h2⟩
theorem GlobOk.mono {B B' : Nat} {w : World} (l : B ≤ B') (h : GlobOk B w) : GlobOk B' w := fun p hp =>
  let ⟨h0, h1⟩ := h p hp; ⟨Nat.lt_of_lt_of_le h0 l, h1⟩

structure Rel (X : Cx) (g : Gh) (e : Env) (st : S) (a : Act) (w : World) : Prop where
  inv : Inv X.B g st w
  env : ∀ k, RV g w (e.get k) (a.tmps.getD k undef)
  size : a.tmps.size = X.N
  df : a.defers = []
  gl : GlobOk X.B w

theorem Rel.ev {X : Cx} {g : Gh} {e : Env} {st : S} {a : Act} {w : World} (h : Rel X g e st a w) (x : Operand) : RV g w (e.ev x) (a.eval x) := by
  cases x with
  | tmp t => exact h.env t
  | const v => exact RV_cV g w v
  | global n => exact RV.of_RV1 (x := .at (.pointer (some ⟨n, 0, none⟩))) ⟨[.pointer (some ⟨n, 0, none⟩)], by simp [RC, one], rfl⟩
  | func f => exact RV.of_RV1 (x := .clo (.func f) []) ⟨[.func (.func f) #[] #[]], by simp [RC, RCs], rfl⟩

theorem Rel.put {X : Cx} {g g' : Gh} {e : Env} {st st' : S} {a : Act} {w w' : World} (h : Rel X g e st a w) (l : Later g w g' w') (lb : Below X.B w w') (i : Inv X.B g' st' w')
    {x : V} {u : Value} (hx : RV g' w' x u) (d : Option Nat) (hd : ∀ t, d = some t → t < X.N) : Rel X g' (e.putO d x) st' (a.put d u) w' := by
  refine ⟨i, fun k => ?_, ?_, ?_, h.gl.below lb⟩
  · cases d with
    | none => exact (h.env k).later l
    | some t =>
      have ht := hd t rfl
      simp only [Env.putO, Act.put, Env.get_put]
      by_cases hk : t = k
      · subst hk
        have hs : t < a.tmps.size := by rw [h.size]; exact ht
        simpa [hs] using hx
      · have := (h.env k).later l
        simpa [hk, Array.getElem?_setIfInBounds_ne hk] using this
  · cases d <;> simp [Act.put, h.size]
  · cases d <;> simp [Act.put, h.df]

/-- e' knows no more than e. -/
def Env.sub (e e' : Env) : Prop := ∀ k, e'.get k = e.get k ∨ e'.get k = .any

theorem Env.sub_refl (e : Env) : e.sub e := fun _ => .inl rfl

theorem Env.sub_of (e : Env) : ∀ (l : List (Nat × V)), (∀ p ∈ l, e.get p.1 = p.2) → e.sub l
  | [], _, k => .inr rfl
  | (j, x) :: r, h, k => by
    simp only [Env.get]
    by_cases hk : j = k
    · subst hk; exact .inl (by rw [if_pos rfl]; exact (h (j, x) (by simp)).symm)
    · rw [if_neg hk]
      exact Env.sub_of e r (fun p hp => h p (by simp [hp])) k

/-- st' has no more than st. -/
structure S.sub (st st' : S) : Prop where
  box : ∀ b c, look st'.box b = some c → look st.box b = some c
  tg : ∀ t ∈ st'.tg, t ∈ st.tg
  nodup : st.tg.Nodup → st'.tg.Nodup
  out : ∀ b, look st.box b = none → look st'.box b = none
  nx : st.nx ≤ st'.nx

theorem S.sub_refl (st : S) : st.sub st := ⟨fun _ _ h => h, fun _ h => h, fun h => h, fun _ h => h, Nat.le_refl _⟩

theorem Inv.weaken {B : Nat} {g : Gh} {st st' : S} {w : World} (h : Inv B g st w) (s : st.sub st') : Inv B g st' w :=
  ⟨h.base, fun b cs k hl => h.box b cs k (s.box _ _ hl), fun t ht => h.tag t (s.tg t ht),
   fun t ht b cap n sz hb => let ⟨h1, h2, h3, h4, h5, h6⟩ := h.own t (s.tg t ht) b cap n sz hb; ⟨h1, h2, h3, h4, s.out b h5, h6⟩,
   fun t ht t' ht' => h.dist t (s.tg t ht) t' (s.tg t' ht'), s.nodup h.nodup, h.fresh, fun t ht => h.names t (Nat.le_trans s.nx ht)⟩

theorem Rel.weaken {X : Cx} {g : Gh} {e e' : Env} {st st' : S} {a : Act} {w : World} (h : Rel X g e st a w) (he : e.sub e') (hs : st.sub st') : Rel X g e' st' a w :=
  ⟨h.inv.weaken hs, fun k => by
    rcases he k with hk | hk
    · rw [hk]; exact h.env k
    · rw [hk]; trivial, h.size, h.df, h.gl⟩

/-- The fence that lets all by; within a round of a loop over a function, or not. -/
def fen (ro : Option Nat) : Fence := { fn := fun _ => True, depth := none, alive := false, round := ro }

/-- THE ABSTRACT WEAKEST PRECONDITION. -/
def awp (P : Program) (X : Cx) (c : Code) (Q : Exit → Env → S → Prop) (e : Env) (st : S) : Prop :=
  ∀ g a w, Rel X g e st a w → c.wpIn (fen X.ro) 0 P (fun ex a' w' => ∃ g' e' st', Step X.B g w g' w' ∧ Rel X g' e' st' a' w' ∧ Q ex e' st') a w

def thenE (next : Env → S → Prop) (Q : Exit → Env → S → Prop) : Exit → Env → S → Prop
  | .normal, e, st => next e st
  | x, e, st => Q x e st

def blockE (id : Nat) (Q : Exit → Env → S → Prop) : Exit → Env → S → Prop
  | .exit id', e, st => if id' = id then Q .normal e st else Q (.exit id') e st
  | x, e, st => Q x e st

section rules
variable {P : Program} {X : Cx} {Q : Exit → Env → S → Prop} {e : Env} {st : S}

theorem awp_mono {c : Code} {Q' : Exit → Env → S → Prop} (h : awp P X c Q e st) (hq : ∀ x e st, Q x e st → Q' x e st) : awp P X c Q' e st :=
  fun g a w hr => wpIn_mono (h g a w hr) fun _ _ _ ⟨g', e', st', h1, h2, h3⟩ => ⟨g', e', st', h1, h2, hq _ _ _ h3⟩

theorem awp_weaken {c : Code} {e' : Env} {st' : S} (he : e.sub e') (hs : st.sub st') (h : awp P X c Q e' st') : awp P X c Q e st :=
  fun g a w hr => h g a w (hr.weaken he hs)

theorem awp_skip (h : Q .normal e st) : awp P X .skip Q e st :=
  fun g a w hr => wpIn_skip ⟨g, e, st, .refl _ _ _, hr, h⟩

theorem awp_exit {id : Nat} (h : Q (.exit id) e st) : awp P X (.exit id) Q e st :=
  fun g a w hr => wpIn_exit ⟨g, e, st, .refl _ _ _, hr, h⟩

theorem awp_ret (h : Q .ret e st) : awp P X .ret Q e st :=
  fun g a w hr => wpIn_ret ⟨g, e, st, .refl _ _ _, hr, h⟩

theorem awp_seq {x y : Code} (h : awp P X x (thenE (awp P X y Q) Q) e st) : awp P X (.seq x y) Q e st := by
  intro g a w hr
  refine wpIn_seq (wpIn_mono (h g a w hr) ?_)
  rintro ex a' w' ⟨g', e', st', h1, h2, h3⟩
  cases ex with
  | normal => exact wpIn_mono (h3 g' a' w' h2) fun _ _ _ ⟨g2, e2, st2, k1, k2, k3⟩ => ⟨g2, e2, st2, h1.trans k1, k2, k3⟩
  | exit id => exact ⟨g', e', st', h1, h2, h3⟩
  | goto l => exact ⟨g', e', st', h1, h2, h3⟩
  | ret => exact ⟨g', e', st', h1, h2, h3⟩
  | panic c => exact ⟨g', e', st', h1, h2, h3⟩
  | outgrown => exact ⟨g', e', st', h1, h2, h3⟩

theorem awp_block {id : Nat} {c : Code} (h : awp P X c (blockE id Q) e st) : awp P X (.block id c) Q e st := by
  intro g a w hr
  refine wpIn_block (wpIn_mono (h g a w hr) ?_)
  rintro ex a' w' ⟨g', e', st', h1, h2, h3⟩
  cases ex with
  | exit id' =>
    simp only [Exit.inBlock]
    simp only [blockE] at h3
    split
    · rename_i hid; rw [if_pos hid] at h3; exact ⟨g', e', st', h1, h2, h3⟩
    · rename_i hid; rw [if_neg hid] at h3; exact ⟨g', e', st', h1, h2, h3⟩
  | normal => exact ⟨g', e', st', h1, h2, h3⟩
  | goto l => exact ⟨g', e', st', h1, h2, h3⟩
  | ret => exact ⟨g', e', st', h1, h2, h3⟩
  | panic c => exact ⟨g', e', st', h1, h2, h3⟩
  | outgrown => exact ⟨g', e', st', h1, h2, h3⟩

theorem awp_cond {c : Operand} {x y : Code} {t : Bool} (hc : e.ev c = .at (.bool t)) (ht : t = true → awp P X x Q e st) (hf : t = false → awp P X y Q e st) :
    awp P X (.cond c x y) Q e st := by
  intro g a w hr
  have h1 := hr.ev c
  rw [hc] at h1
  have h2 : a.eval c = .bool t := by
    obtain ⟨us, hu, hr2⟩ := h1
    simp only [RC] at hu
    rw [hr2, hu.1]
    rfl
  cases t with
  | true => exact wpIn_cond_true h2 (ht rfl g a w hr)
  | false => exact wpIn_cond_false h2 (hf rfl g a w hr)

/-- A loop: a family of heads, each with a measure, what is known of the slots, and a store. -/
theorem awp_loop {c : Code} {α : Type} (I : α → Prop) (μ : α → Nat) (E : α → Env) (T : α → S) (x₀ : α) (hI : I x₀) (he : e.sub (E x₀)) (hs : st.sub (T x₀))
    (round : ∀ x, I x → awp P X c (thenE (fun e' st' => ∃ x', I x' ∧ μ x' < μ x ∧ e'.sub (E x') ∧ st'.sub (T x')) Q) (E x) (T x)) : awp P X (.loop c) Q e st := by
  intro g a w hr
  refine wpIn_loop_ghost (fun n a' w' => ∃ x g', μ x = n ∧ I x ∧ Step X.B g w g' w' ∧ Rel X g' (E x) (T x) a' w') (μ x₀) ⟨x₀, g, rfl, hI, .refl _ _ _, hr.weaken he hs⟩ ?_
  rintro n a1 w1 ⟨x, g1, rfl, p1, p2, p3⟩
  refine wpIn_mono (round x p1 g1 a1 w1 p3) ?_
  rintro ex a2 w2 ⟨g2, e2, st2, q1, q2, q3⟩
  cases ex with
  | normal =>
    obtain ⟨x2, r1, r2, r3, r4⟩ := q3
    exact ⟨μ x2, r2, x2, g2, rfl, r1, p2.trans q1, q2.weaken r3 r4⟩
  | exit id => exact ⟨g2, e2, st2, p2.trans q1, q2, q3⟩
  | goto l => exact ⟨g2, e2, st2, p2.trans q1, q2, q3⟩
  | ret => exact ⟨g2, e2, st2, p2.trans q1, q2, q3⟩
  | panic c => exact ⟨g2, e2, st2, p2.trans q1, q2, q3⟩
  | outgrown => exact ⟨g2, e2, st2, p2.trans q1, q2, q3⟩

end rules
end Go.Al

/-
  AL, part 3: what an operation may do to the world, and that the invariant lasts. General: no program in sight.
-/
namespace Go.Al
open Go.RowKit

theorem cell_lt {w : World} {b o : Nat} {u : Value} (h : w.cell? ⟨b, o, none⟩ = some u) : b < w.heap.size := World.block_lt_of_cell? w _ h

/-- The world grows: old blocks stay. -/
theorem Inv.grow {B : Nat} {g g' : Gh} {st : S} {w w' : World} (h : Inv B g st w) (l : Later g w g' w') (hs : w.heap.size ≤ w'.heap.size) (hb : ∀ b, b < w.heap.size → w'.heap[b]? = w.heap[b]?)
    (hwm : ∀ b, b < w.heap.size → g'.wm b = g.wm b) (hf : ∀ b, w'.heap.size ≤ b → g'.wm b = 0) (htb : g'.tb = g.tb) : Inv B g' st w' := by
  have lt : ∀ {b : Nat} {o : Obj}, w.heap[b]? = some o → b < w.heap.size := fun hh => (Array.getElem?_eq_some_iff.1 hh).1
  refine ⟨Nat.le_trans h.base hs, ?_, ?_, ?_, ?_, h.nodup, hf, ?_⟩
  · intro b cs k hl
    obtain ⟨h1, h2, h3, h4, arr, el, us, h5, h6, h7, h8⟩ := h.box b cs k hl
    exact ⟨h1, by rw [hwm b (lt h5)]; exact h2, h3, h4, arr, el, us, by rw [hb b (lt h5)]; exact h5, h6, RCs_later l _ _ h7, h8⟩
  · rw [htb]; exact h.tag
  · rw [htb]
    intro t ht b cap n sz hbt
    obtain ⟨h1, h2, h3, h4, h5, arr, el, h6, h7⟩ := h.own t ht b cap n sz hbt
    exact ⟨h1, by rw [hwm b (lt h6)]; exact h2, h3, h4, h5, arr, el, by rw [hb b (lt h6)]; exact h6, h7⟩
  · rw [htb]; exact h.dist
  · rw [htb]; exact h.names

theorem later_of_heap {g g' : Gh} {w w' : World} (hf : ∀ b, w.heap.size ≤ b → g.wm b = 0) (hb : ∀ b, b < w.heap.size → w'.heap[b]? = w.heap[b]?) (hwm : ∀ b, g.wm b ≤ g'.wm b) (htb : ∀ t x, g.tb t = some x → g'.tb t = some x) : Later g w g' w' :=
  ⟨hwm, htb, fun b o ho => World.cell?_of_block (hb b (by
    rcases Nat.lt_or_ge b w.heap.size with h | h
    · exact h
    · rw [hf b h] at ho; omega))⟩

/-- What an operation leaves: a step, and the invariant. -/
structure Out (B : Nat) (g : Gh) (w : World) (g' : Gh) (st' : S) (w' : World) : Prop where
  step : Step B g w g' w'
  inv : Inv B g' st' w'

theorem Out.refl {B : Nat} {g : Gh} {st : S} {w : World} (h : Inv B g st w) : Out B g w g st w := ⟨.refl _ _ _, h⟩

theorem frozen_of_heap {w w' : World} {b : Nat} (h : w'.heap[b]? = w.heap[b]?) (o : Nat) (s : Option Nat) : w'.frozen? ⟨b, o, s⟩ = w.frozen? ⟨b, o, s⟩ := World.frozen?_of_block (w := w) h

/-- Some answers drawn from the tape. -/
theorem out_drew {B : Nat} {g : Gh} {st : S} {w : World} (h : Inv B g st w) (n : Nat) : Out B g w g st { w with drawn := n } :=
  ⟨⟨⟨fun _ => Nat.le_refl _, fun _ _ e => e, fun _ _ _ => rfl⟩, ⟨rfl, rfl, rfl, Nat.le_refl _, fun _ _ => rfl⟩, .refl w, fun _ _ => rfl⟩,
   h.grow ⟨fun _ => Nat.le_refl _, fun _ _ e => e, fun _ _ _ => rfl⟩ (Nat.le_refl _) (fun _ _ => rfl) (fun _ _ => rfl) h.fresh rfl⟩

theorem alloc_old (w : World) (o : Obj) (b : Nat) (h : b < w.heap.size) : (w.alloc o).heap[b]? = w.heap[b]? := Below.heap_alloc w o b h
theorem alloc_new (w : World) (o : Obj) : (w.alloc o).heap[w.heap.size]? = some o := heap_alloc_new w o

theorem alloc_frozen (w : World) (cs : Array Value) (el : TypeId) (a : Addr) : (w.alloc (.cells cs el)).frozen? a = w.frozen? a := by
  rcases Nat.lt_trichotomy a.block w.heap.size with h | h | h
  · exact World.frozen?_of_block (alloc_old w _ _ h)
  · have h1 : (w.alloc (.cells cs el)).heap[a.block]? = some (.cells cs el) := by rw [h]; exact alloc_new w _
    have h2 : w.heap[a.block]? = none := by simp [h]
    simp [World.frozen?, h1, h2]
  · have h1 : (w.alloc (.cells cs el)).heap[a.block]? = none := by simp; omega
    have h2 : w.heap[a.block]? = none := by simp; omega
    simp [World.frozen?, h1, h2]

/-- A new block, of which m cells are never written again. -/
theorem out_alloc {B : Nat} {g : Gh} {st : S} {w : World} (h : Inv B g st w) (cs : Array Value) (el : TypeId) (m : Nat) :
    Out B g w ⟨fun b => if b = w.heap.size then m else g.wm b, g.tb⟩ st (w.alloc (.cells cs el)) := by
  have hsz : (w.alloc (.cells cs el)).heap.size = w.heap.size + 1 := by simp
  have hl : Later g w ⟨fun b => if b = w.heap.size then m else g.wm b, g.tb⟩ (w.alloc (.cells cs el)) :=
    later_of_heap h.fresh (fun b hb => alloc_old w _ b hb) (fun b => by
      show g.wm b ≤ if b = w.heap.size then m else g.wm b
      split
      · rename_i e; rw [h.fresh b (by omega)]; omega
      · exact Nat.le_refl _) (fun _ _ e => e)
  refine ⟨⟨hl, (Below.refl _ _).alloc h.base _, .old fun b hb => alloc_old w _ b hb, fun b hb => ?_⟩, h.grow hl (by omega) (fun b hb => alloc_old w _ b hb) (fun b hb => ?_) (fun b hb => ?_) rfl⟩
  · have := h.base
    show (if b = w.heap.size then m else g.wm b) = _
    rw [if_neg (by omega)]
  · show (if b = w.heap.size then m else g.wm b) = _
    rw [if_neg (by omega)]
  · show (if b = w.heap.size then m else g.wm b) = 0
    rw [hsz] at hb
    rw [if_neg (by omega)]; exact h.fresh b (by omega)

theorem at_alloc {g : Gh} {w : World} (cs : Array Value) (el : TypeId) (us : List Value) (m : Nat) (hm : us.length ≤ m) (hp : cs.toList.take us.length = us) :
    At ⟨fun b => if b = w.heap.size then m else g.wm b, g.tb⟩ (w.alloc (.cells cs el)) w.heap.size 0 us := by
  intro k u hu
  have hk : k < us.length := by
    rcases Nat.lt_or_ge k us.length with h | h
    · exact h
    · rw [List.getElem?_eq_none h] at hu; cases hu
  refine ⟨?_, by show 0 + k < (if w.heap.size = w.heap.size then m else g.wm _); rw [if_pos rfl]; omega⟩
  rw [Nat.zero_add, cell_of_row _ w.heap.size k cs el (0, 0) (alloc_new w _)]
  have h2 := congrArg (fun l => l[k]?) hp
  simp only [List.getElem?_take, if_pos hk] at h2
  rw [← hu, ← h2]
  simp

theorem look_lay_none {l : List (Nat × List V × Nat)} {b j : Nat} {x : List V × Nat} (h : look (lay l b x) j = none) : b ≠ j ∧ look l j = none := by
  rw [look_lay] at h
  by_cases e : b = j
  · rw [if_pos e] at h; cases h
  · rw [if_neg e] at h; exact ⟨e, h⟩

/-- A block of no one's becomes a box. -/
theorem Inv.addBox {B : Nat} {g : Gh} {st : S} {w : World} (h : Inv B g st w) {b : Nat} {arr : Array Value} {el : TypeId} {cs : List V} {us : List Value} (hB : B ≤ b) (hw : g.wm b = 0)
    (hh : w.heap[b]? = some (.cells arr el (0, 0))) (hc : cs.length ≤ arr.size) (h1 : ∀ c ∈ cs, c.isOne = true) (hr : RCs g w cs us) (hu : arr.toList.take cs.length = us)
    (hno : ∀ t ∈ st.tg, ∀ d, g.tb t = some (some (b, d)) → False) : Inv B g ⟨lay st.box b (cs, arr.size), st.tg, st.nx⟩ w := by
  refine ⟨h.base, ?_, h.tag, ?_, h.dist, h.nodup, h.fresh, h.names⟩
  · intro b' cs' k' hl
    simp only [look_lay] at hl
    by_cases e : b = b'
    · subst e
      rw [if_pos rfl] at hl
      injection hl with hl
      injection hl with e1 e2
      subst e1; subst e2
      exact ⟨hB, hw, hc, h1, arr, el, us, hh, rfl, hr, hu⟩
    · rw [if_neg e] at hl
      exact h.box b' cs' k' hl
  · intro t ht b' cap n sz hb
    obtain ⟨p1, p2, p3, p4, p5, p6⟩ := h.own t ht b' cap n sz hb
    refine ⟨p1, p2, p3, p4, ?_, p6⟩
    simp only [look_lay]
    rw [if_neg]
    · exact p5
    · intro e; subst e; exact hno t ht _ hb

/-- A box's cells are written. -/
theorem out_setRow {B : Nat} {g : Gh} {st : S} {w : World} (h : Inv B g st w) {b : Nat} {cs : List V} {k : Nat} (hl : look st.box b = some (cs, k)) {arr : Array Value} {el : TypeId}
    (hh : w.heap[b]? = some (.cells arr el (0, 0))) (arr' : Array Value) (hs : arr'.size = arr.size) (cs' : List V) (us' : List Value) (hc : cs'.length ≤ arr.size) (h1 : ∀ c ∈ cs', c.isOne = true)
    (hr : RCs g w cs' us') (hu : arr'.toList.take cs'.length = us') : Out B g w g ⟨lay st.box b (cs', k), st.tg, st.nx⟩ (w.setRow b arr') := by
  obtain ⟨p1, p2, p3, p4, arr0, el0, us0, p5, p6, p7, p8⟩ := h.box b cs k hl
  have he : arr0 = arr ∧ el0 = el := by rw [hh] at p5; injection p5 with p5; injection p5 with e1 e2; exact ⟨e1.symm, e2.symm⟩
  obtain ⟨rfl, rfl⟩ := he
  have hoth : ∀ j, j ≠ b → (w.setRow b arr').heap[j]? = w.heap[j]? := fun j hj => setRow_other w b j _ hj
  have hsame := setRow_heap w b arr0 arr' el0 (0, 0) hh
  have hcell : ∀ j o, o < g.wm j → (w.setRow b arr').cell? ⟨j, o, none⟩ = w.cell? ⟨j, o, none⟩ := fun j o ho => by
    refine World.cell?_of_block (hoth j ?_)
    intro e; subst e; rw [p2] at ho; omega
  have hla : Later g w g (w.setRow b arr') := ⟨fun _ => Nat.le_refl _, fun _ _ e => e, hcell⟩
  refine ⟨⟨hla, ⟨rfl, rfl, rfl, by simp, fun j hj => hoth j (by omega)⟩, .one hh hoth, fun _ _ => rfl⟩, ?_⟩
  · refine ⟨by simpa using h.base, ?_, h.tag, ?_, h.dist, h.nodup, fun j hj => h.fresh j (by simpa using hj), h.names⟩
    · intro b' cs2 k2 hl2
      replace hl2 : look (lay st.box b (cs', k)) b' = some (cs2, k2) := hl2
      rw [look_lay] at hl2
      by_cases e : b = b'
      · subst e
        rw [if_pos rfl] at hl2
        injection hl2 with hl2
        injection hl2 with e1 e2
        subst e1; subst e2
        exact ⟨p1, p2, by omega, h1, arr', el0, us', hsame, by omega, RCs_later hla _ _ hr, hu⟩
      · rw [if_neg e] at hl2
        obtain ⟨q1, q2, q3, q4, arr2, el2, us2, q5, q6, q7, q8⟩ := h.box b' cs2 k2 hl2
        exact ⟨q1, q2, q3, q4, arr2, el2, us2, by rw [hoth b' (Ne.symm e)]; exact q5, q6, RCs_later hla _ _ q7, q8⟩
    · intro t ht b' cap n sz hb
      obtain ⟨q1, q2, q3, q4, q5, arr2, el2, q6, q7⟩ := h.own t ht b' cap n sz hb
      have hne : b ≠ b' := fun e => by subst e; rw [hl] at q5; cases q5
      refine ⟨q1, q2, q3, q4, ?_, arr2, el2, by rw [hoth b' (Ne.symm hne)]; exact q6, q7⟩
      simp only [look_lay]
      rw [if_neg hne]; exact q5

/-- The next ghost name is fresh. -/
theorem Inv.freshName {B : Nat} {g : Gh} {st : S} {w : World} (h : Inv B g st w) : g.tb st.nx = none ∧ st.nx ∉ st.tg := by
  refine ⟨h.names _ (Nat.le_refl _), fun hm => ?_⟩
  obtain ⟨d, hd⟩ := h.tag _ hm
  rw [h.names _ (Nat.le_refl _)] at hd; cases hd

/-- A new name: for nil, or for a block that is no one's. -/
theorem Inv.addTag {B : Nat} {g : Gh} {st : S} {w : World} (h : Inv B g st w) {t : Nat} (htn : t = st.nx) (d : Option (Nat × Nat × Nat × Nat))
    (hd : ∀ b cap n sz, d = some (b, cap, n, sz) → B ≤ b ∧ g.wm b = n * sz ∧ n ≤ cap ∧ cap ≤ maxLen ∧ look st.box b = none ∧ (∃ arr el, w.heap[b]? = some (.cells arr el (0, 0)) ∧ arr.size = cap * sz) ∧
      (∀ t ∈ st.tg, ∀ x, g.tb t = some (some (b, x)) → False)) :
    Inv B ⟨g.wm, fun j => if j = t then some d else g.tb j⟩ ⟨st.box, t :: st.tg, st.nx + 1⟩ w ∧ Later g w ⟨g.wm, fun j => if j = t then some d else g.tb j⟩ w := by
  have ht : g.tb t = none := by rw [htn]; exact h.freshName.1
  have hnt : t ∉ st.tg := by rw [htn]; exact h.freshName.2
  have hla : Later g w ⟨g.wm, fun j => if j = t then some d else g.tb j⟩ w := ⟨fun _ => Nat.le_refl _, fun j x e => by
    show (if j = t then some d else g.tb j) = some x
    rw [if_neg (fun e2 => by subst e2; rw [ht] at e; cases e)]
    exact e, fun _ _ _ => rfl⟩
  have hget : ∀ j ∈ st.tg, (if j = t then some d else g.tb j) = g.tb j := fun j hj => if_neg (fun e => by subst e; exact hnt hj)
  refine ⟨⟨h.base, ?_, ?_, ?_, ?_, List.nodup_cons.2 ⟨hnt, h.nodup⟩, h.fresh, ?_⟩, hla⟩
  · intro b cs k hl
    obtain ⟨h1, h2, h3, h4, arr, el, us, h5, h6, h7, h8⟩ := h.box b cs k hl
    exact ⟨h1, h2, h3, h4, arr, el, us, h5, h6, RCs_later hla _ _ h7, h8⟩
  · intro j hj
    rcases List.mem_cons.1 hj with rfl | hj
    · exact ⟨d, if_pos rfl⟩
    · obtain ⟨x, hx⟩ := h.tag j hj; exact ⟨x, (hget j hj).trans hx⟩
  · intro j hj b cap n sz hb
    rcases List.mem_cons.1 hj with rfl | hj
    · have hb' : some d = some (some (b, cap, n, sz)) := by rw [← hb]; exact (if_pos rfl).symm
      injection hb' with hb'
      obtain ⟨q1, q2, q3, q4, q5, q6, _⟩ := hd b cap n sz hb'
      exact ⟨q1, q2, q3, q4, q5, q6⟩
    · exact h.own j hj b cap n sz ((hget j hj).symm.trans hb)
  · intro j hj j' hj' b x y hx hy
    rcases List.mem_cons.1 hj with e1 | m1 <;> rcases List.mem_cons.1 hj' with e2 | m2
    · rw [e1, e2]
    · subst e1
      have hx' : some d = some (some (b, x)) := by rw [← hx]; exact (if_pos rfl).symm
      injection hx' with hx'
      obtain ⟨x1, x2, x3⟩ := x
      obtain ⟨_, _, _, _, _, _, q⟩ := hd b x1 x2 x3 hx'
      exact (q j' m2 y ((hget j' m2).symm.trans hy)).elim
    · subst e2
      have hy' : some d = some (some (b, y)) := by rw [← hy]; exact (if_pos rfl).symm
      injection hy' with hy'
      obtain ⟨y1, y2, y3⟩ := y
      obtain ⟨_, _, _, _, _, _, q⟩ := hd b y1 y2 y3 hy'
      exact (q j m1 x ((hget j m1).symm.trans hx)).elim
    · exact h.dist j m1 j' m2 b x y ((hget j m1).symm.trans hx) ((hget j' m2).symm.trans hy)
  · intro j hj
    replace hj : st.nx + 1 ≤ j := hj
    show (if j = t then some d else g.tb j) = none
    rw [if_neg (by omega)]; exact h.names j (by omega)

/-- A name is given up. -/
theorem Inv.dropTag {B : Nat} {g : Gh} {st : S} {w : World} (h : Inv B g st w) (t : Nat) : Inv B g ⟨st.box, st.tg.erase t, st.nx⟩ w :=
  h.weaken ⟨fun _ _ e => e, fun _ hm => List.mem_of_mem_erase hm, fun hn => hn.erase t, fun _ e => e, Nat.le_refl _⟩

/-- A box is given up. -/
theorem Inv.dropBox {B : Nat} {g : Gh} {st : S} {w : World} (h : Inv B g st w) (b : Nat) : Inv B g ⟨wipe st.box b, st.tg, st.nx⟩ w :=
  h.weaken ⟨fun j c e => by
    simp only [look_wipe] at e
    split at e
    · cases e
    · exact e, fun _ hm => hm, fun hn => hn, fun j e => by
    simp only [look_wipe]
    split
    · rfl
    · exact e, Nat.le_refl _⟩

end Go.Al

/-
  AL, part 4: the operations on abstract values, and how they read. General: no program in sight.
-/
namespace Go.Al
open Go.RowKit

/-- Which functions have contracts without memory; at which slots a new slice is one whose elements are written; at which slots a slice literal is one that grows. -/
structure Pol where
  pf : FuncId → Bool
  wr : Nat → Bool
  own : Nat → Bool

section facts
variable (P : Program)
def hasT (t : TypeId) : Bool := (P.info? t).isSome && (P.underlying t).isSome
def isAggT (t : TypeId) : Bool := match P.underlying t with | some (.struct _) | some (.array _ _) => true | _ => false
def elT (t : TypeId) : Option TypeId := match P.underlying t with | some (.slice e) => some e | _ => none
def isStrT (t : TypeId) : Bool := match P.underlying t with | some .string => true | _ => false
def isBoolT (t : TypeId) : Bool := match P.underlying t with | some .bool => true | _ => false
def fieldAt (t : TypeId) (i : Nat) : Option (Nat × TypeId) := match P.underlying t with | some (.struct fs) => (fs[i]?).map fun f => (f.offset, f.type) | _ => none
def zeroOf (t : TypeId) : Option Value := (P.info? t).bind (·.zero)
def zeroC (t : TypeId) : Option (List V) := (zeroOf P t).bind fun z => if z.cells.toList.all one then some (z.cells.toList.map cV1) else none
def isCode (f : FuncId) : Bool := match P.funcs[f]? with | some fn => fn.name != "runtime.NumGoroutine" && fn.body.isSome | none => false
end facts

def untag1 : V → V
  | .lst (.own _ nb _) es => .lst (if nb then tagOf es else .no) es
  | x => x
def V.untag : V → V
  | .agg fs => .agg (fs.map untag1)
  | x => untag1 x

section ops
variable (P : Program)

def partOk (t : TypeId) (fs : List V) (off : Nat) : Prop := hasT P t = true ∧ off + P.cellsOf t ≤ fs.length ∧ (isAggT P t = false → P.cellsOf t = 1)
def partV (t : TypeId) (fs : List V) (off : Nat) : V := if isAggT P t = true then .agg ((fs.drop off).take (P.cellsOf t)) else fs.getD off .any
def spl (cs : List V) (o : Nat) (xs : List V) : List V := cs.take o ++ xs ++ cs.drop (o + xs.length)
def allOne (fs : List V) : Prop := fs.all V.isOne = true
def fits (t : TypeId) (x : V) : Prop := hasT P t = true ∧ x.size = P.cellsOf t ∧ x.isAgg = isAggT P t

def aPick : V → V → V → (V → Prop) → Prop
  | .at (.bool t), a, b, K => K (if t then a else b)
  | _, _, _, _ => False

def aInt (op : BinOp) (k : IntKind) (a b : Int) (K : V → Prop) : Prop :=
  match op with
  | .add => K (.at (.int k (k.wrap (a + b))))
  | .sub => K (.at (.int k (k.wrap (a - b))))
  | .mul => K (.at (.int k (k.wrap (a * b))))
  | .quo => b ≠ 0 ∧ K (.at (.int k (k.wrap (a.tdiv b))))
  | .rem => b ≠ 0 ∧ K (.at (.int k (a.tmod b)))
  | .eql => K (.at (.bool (a == b)))
  | .neq => K (.at (.bool (a != b)))
  | .lss => K (.at (.bool (decide (a < b))))
  | .leq => K (.at (.bool (decide (a ≤ b))))
  | .gtr => K (.at (.bool (decide (a > b))))
  | .geq => K (.at (.bool (decide (a ≥ b))))
  | _ => False

def aStr (op : BinOp) (a b : ByteArray) (K : V → Prop) : Prop :=
  match op with
  | .add => ((a.size + b.size : Nat) : Int) ≤ IntKind.i64.max ∧ K (.at (.string (a ++ b)))
  | .eql => K (.at (.bool (a.toList == b.toList)))
  | .neq => K (.at (.bool !(a.toList == b.toList)))
  | .lss => K (.at (.bool (Op.bytesLess a.toList b.toList)))
  | .leq => K (.at (.bool (Op.bytesLess a.toList b.toList || a.toList == b.toList)))
  | .gtr => K (.at (.bool !(Op.bytesLess a.toList b.toList || a.toList == b.toList)))
  | .geq => K (.at (.bool !(Op.bytesLess a.toList b.toList)))
  | _ => False

def nilB : Tag → List V → Bool
  | .nil, _ => true
  | .no, _ => false
  | .own _ nb _, es => nb && es.isEmpty

def aBool (op : BinOp) (a b : Bool) (K : V → Prop) : Prop :=
  match op with
  | .eql => K (.at (.bool (a == b)))
  | .neq => K (.at (.bool (!(a == b))))
  | _ => False

def aBin (op : BinOp) (t : TypeId) : V → V → (V → Prop) → Prop
  | .at (.int k a), .at (.int k' b), K => k = k' ∧ aInt op k a b K
  | .at (.bool a), .at (.bool b), K => isBoolT P t = true ∧ aBool op a b K
  | .at (.string a), .at (.string b), K => aStr op a b K
  | .lst tg es, .lst .nil [], K => (elT P t).isSome = true ∧ aBool op (nilB tg es) true K
  | _, _, _ => False

def aUn (op : UnOp) : V → (V → Prop) → Prop
  | .at (.bool b), K => (match op with | .not => K (.at (.bool !b)) | _ => False)
  | .at (.int k n), K => (match op with | .neg => K (.at (.int k (k.wrap (0 - n)))) | _ => False)
  | _, _ => False

def aExtract (x : V) (i : Nat) (K : V → Prop) : Prop :=
  match x with
  | .tup vs => i < vs.length ∧ K (vs.getD i .any)
  | _ => False

def aField (t : TypeId) (x : V) (f : Nat) (K : V → Prop) : Prop :=
  match x, fieldAt P t f with
  | .agg fs, some (off, ft) => allOne fs ∧ partOk P ft fs off ∧ K (partV P ft fs off)
  | _, _ => False

def aFieldAddr (t : TypeId) (x : V) (f : Nat) (K : V → Prop) : Prop :=
  match x, fieldAt P t f with
  | .rptr (.agg fs), some (off, ft) => allOne fs ∧ partOk P ft fs off ∧ 0 < P.cellsOf ft ∧ K (.rptr (partV P ft fs off))
  | .at (.pointer (some ⟨b, o, none⟩)), some (off, ft) => hasT P ft = true ∧ 0 < P.cellsOf ft ∧ K (.at (.pointer (some ⟨b, o + off, none⟩)))
  | _, _ => False

def aIndexAddr (t : TypeId) (x i : V) (K : V → Prop) : Prop :=
  match elT P t, x, i with
  | some el, .lst _ es, .at (.int _ n) => hasT P el = true ∧ (0 ≤ n ∧ n < (es.length : Int)) ∧ (es.getD n.toNat .any).size = P.cellsOf el ∧ K (.rptr (es.getD n.toNat .any))
  | some el, .at (.slice (some ⟨b, o, none⟩) len _), .at (.int _ n) => hasT P el = true ∧ (0 ≤ n ∧ n < (len : Int)) ∧ K (.at (.pointer (some ⟨b, o + n.toNat * P.cellsOf el, none⟩)))
  | _, _, _ => False

def aIndex (t : TypeId) (x i : V) (K : V → Prop) : Prop :=
  match x, i with
  | .at (.string s), .at (.int _ n) => isStrT P t = true ∧ (0 ≤ n ∧ n < (s.size : Int)) ∧ K (.at (.int .u8 ((s.data.getD n.toNat 0).toNat : Int)))
  | _, _ => False

def aLoad (st : S) (t : TypeId) (x : V) (K : V → Prop) : Prop :=
  match x with
  | .rptr y => fits P t y ∧ K y
  | .at (.pointer (some ⟨b, o, none⟩)) =>
    match look st.box b with
    | some (cs, _) => partOk P t cs o ∧ K (partV P t cs o)
    | none => False
  | _ => False

def aStore (st : S) (t : TypeId) (x y : V) (K : S → Prop) : Prop :=
  match x with
  | .at (.pointer (some ⟨b, o, none⟩)) =>
    match look st.box b with
    | some (cs, k) => hasT P t = true ∧ y.flat.length = P.cellsOf t ∧ allOne y.flat ∧ o + y.flat.length ≤ cs.length ∧ K ⟨lay st.box b (spl cs o y.flat, k), st.tg, st.nx⟩
    | none => False
  | _ => False

def aNew (st : S) (cs : List V) (K : V → S → Prop) : Prop :=
  allOne cs ∧ ∀ b, look st.box b = none → K (.at (.pointer (some ⟨b, 0, none⟩))) ⟨lay st.box b (cs, cs.length), st.tg, st.nx⟩

def aAlloc (st : S) (t : TypeId) (K : V → S → Prop) : Prop :=
  match zeroC P t with
  | some cs => aNew st cs K
  | none => False

/-- The parts laid into a struct's cells. -/
def fillV (place : Nat → Option (Nat × Nat)) (cells : List V) : List (Nat × V) → Option (List V)
  | [] => some cells
  | (i, x) :: rest =>
    match place i with
    | none => none
    | some (off, size) => if x.flat.length = size ∧ off + size ≤ cells.length ∧ x.flat.all V.isOne = true then fillV place (spl cells off x.flat) rest else none

def placeOf (t : TypeId) (i : Nat) : Option (Nat × Nat) := (fieldAt P t i).bind fun p => if hasT P p.2 then some (p.1, P.cellsOf p.2) else none

def isStructT (t : TypeId) : Bool := match P.underlying t with | some (.struct fs) => fs.toList.all fun f => hasT P f.type | _ => false

def aBuild (t : TypeId) (parts : List (Nat × V)) (K : V → Prop) : Prop :=
  isStructT P t = true ∧
  match zeroC P t with
  | some cs => (match fillV (placeOf P t) cs parts with | some cs' => K (.agg cs') | none => False)
  | none => False

def flats : List V → List V
  | [] => []
  | x :: xs => x.flat ++ flats xs

def inOrder : Nat → List (Nat × V) → Bool
  | _, [] => true
  | n, (i, _) :: r => i == n && inOrder (n + 1) r

def elsOk (sz : Nat) (es : List V) : Prop := ∀ x ∈ es, x.size = sz

def aBuildSlice (L : Pol) (dst : Option Nat) (st : S) (t : TypeId) (n : Nat) (parts : List (Nat × V)) (K : V → S → Prop) : Prop :=
  match elT P t with
  | none => False
  | some el =>
    let es := parts.map fun p => p.2.untag
    hasT P el = true ∧ (zeroC P el).isSome = true ∧ ((zeroC P el).map List.length = some (P.cellsOf el)) ∧ n * P.cellsOf el ≤ 2 ^ 24 ∧ n ≤ maxLen ∧ parts.length = n ∧ inOrder 0 parts = true ∧ elsOk (P.cellsOf el) es ∧ (parts.all fun p => p.2.flat.all V.isOne) = true ∧
    (if (dst.map L.wr).getD false = true then
      allOne (flats (parts.map (·.2))) ∧ ∀ b, look st.box b = none → K (.at (.slice (some ⟨b, 0, none⟩) n n)) ⟨lay st.box b (flats (parts.map (·.2)), n * P.cellsOf el), st.tg, st.nx⟩
    else if (dst.map L.own).getD false = true then
      K (.lst (.own st.nx false (P.cellsOf el)) es) ⟨st.box, st.nx :: st.tg, st.nx + 1⟩
    else K (.lst .no es) st)

def aLen (t : TypeId) (x : V) (K : V → Prop) : Prop :=
  match x with
  | .lst _ es => (elT P t).isSome = true ∧ K (.at (.int .i64 (es.length : Int)))
  | .at (.slice _ n _) => (elT P t).isSome = true ∧ K (.at (.int .i64 (n : Int)))
  | .at (.string s) => isStrT P t = true ∧ K (.at (.int .i64 (s.size : Int)))
  | _ => False

def aMax : V → V → (V → Prop) → Prop
  | .at (.int k x), .at (.int _ y), K => K (.at (.int k (if y > x then y else x)))
  | _, _, _ => False

/-- append: what comes of the base. -/
def aAppend (L : Pol) (dst : Option Nat) (st : S) (t t2 : TypeId) (s x : V) (K : V → S → Prop) : Prop :=
  match elT P t, x with
  | some el, .lst _ ys =>
    t2 = t ∧ hasT P el = true ∧ ((zeroC P el).map List.length = some (P.cellsOf el)) ∧ 0 < P.cellsOf el ∧ elsOk (P.cellsOf el) ys ∧
    (match s with
     | .lst .nil [] => ys.length * P.bytesOf el ≤ 140737488355328 ∧ ys.length ≤ maxLen ∧
        (if (dst.map L.wr).getD false = true then
          ys ≠ [] ∧ allOne (flats ys) ∧ ∀ b cap, look st.box b = none → ys.length ≤ cap → K (.at (.slice (some ⟨b, 0, none⟩) ys.length cap)) ⟨lay st.box b (flats ys, cap * P.cellsOf el), st.tg, st.nx⟩
        else K (.lst (.own st.nx true (P.cellsOf el)) ys) ⟨st.box, st.nx :: st.tg, st.nx + 1⟩)
     | .lst (.own g nb sz) es => g ∈ st.tg ∧ sz = P.cellsOf el ∧ (es.length + ys.length) * P.bytesOf el ≤ 140737488355328 ∧ es.length + ys.length ≤ maxLen ∧
        K (.lst (.own st.nx nb sz) (es ++ ys)) ⟨st.box, st.nx :: st.tg.erase g, st.nx + 1⟩
     | .at (.slice (some ⟨b, 0, none⟩) len cap) =>
        (match look st.box b with
         | some (cs, k) => (dst.map L.wr).getD false = true ∧ k = cap * P.cellsOf el ∧ len ≤ cap ∧ len * P.cellsOf el ≤ cs.length ∧ (len + ys.length) * P.bytesOf el ≤ 140737488355328 ∧ len + ys.length ≤ maxLen ∧ allOne (flats ys) ∧
            ∀ b' cap', look (wipe st.box b) b' = none → len + ys.length ≤ cap' →
              K (.at (.slice (some ⟨b', 0, none⟩) (len + ys.length) cap')) ⟨lay (wipe st.box b) b' (cs.take (len * P.cellsOf el) ++ flats ys, cap' * P.cellsOf el), st.tg, st.nx⟩
         | none => False)
     | _ => False)
  | some el, .at (.slice (some ⟨bs, 0, none⟩) m _) =>
    t2 = t ∧ hasT P el = true ∧ ((zeroC P el).map List.length = some (P.cellsOf el)) ∧ 0 < P.cellsOf el ∧ (dst.map L.wr).getD false = true ∧
    (match look st.box bs with
     | none => False
     | some (css, _) => m * P.cellsOf el ≤ css.length ∧
      (match s with
       | .lst .nil [] => m * P.bytesOf el ≤ 140737488355328 ∧ m ≤ maxLen ∧ m ≠ 0 ∧
          ∀ b cap, look st.box b = none → m ≤ cap → K (.at (.slice (some ⟨b, 0, none⟩) m cap)) ⟨lay st.box b (css.take (m * P.cellsOf el), cap * P.cellsOf el), st.tg, st.nx⟩
       | .at (.slice (some ⟨b, 0, none⟩) len cap) =>
          (match look st.box b with
           | some (cs, k) => k = cap * P.cellsOf el ∧ len ≤ cap ∧ len * P.cellsOf el ≤ cs.length ∧ (len + m) * P.bytesOf el ≤ 140737488355328 ∧ len + m ≤ maxLen ∧
              ∀ b' cap', look (wipe st.box b) b' = none → len + m ≤ cap' →
                K (.at (.slice (some ⟨b', 0, none⟩) (len + m) cap')) ⟨lay (wipe st.box b) b' (cs.take (len * P.cellsOf el) ++ css.take (m * P.cellsOf el), cap' * P.cellsOf el), st.tg, st.nx⟩
           | none => False)
       | _ => False))
  | _, _ => False

def slTag : Tag → List V → Tag
  | .own _ nb _, es => if nb then tagOf es else .no
  | t, _ => t

def boundV (x : Option V) (d : Int) (K : Int → Prop) : Prop :=
  match x with
  | none => K d
  | some (.at (.int _ n)) => K n
  | _ => False

def aSlice (t : TypeId) (x : V) (lo hi : Option V) (K : V → Prop) : Prop :=
  match x with
  | .lst tg es =>
    (match elT P t with
     | none => False
     | some el => hasT P el = true ∧ (es = [] ∨ ∀ x ∈ es.take 1, x.size = P.cellsOf el) ∧
        boundV lo 0 fun l => boundV hi es.length fun h => (0 ≤ l ∧ l ≤ h ∧ h ≤ (es.length : Int)) ∧ K (.lst (slTag tg es) ((es.take h.toNat).drop l.toNat)))
  | .at (.slice (some ⟨b, o, none⟩) len cap) =>
    (match elT P t with
     | none => False
     | some el => hasT P el = true ∧ boundV lo 0 fun l => boundV hi len fun h => (0 ≤ l ∧ l ≤ h ∧ h ≤ (cap : Int)) ∧
        K (.at (.slice (some ⟨b, if (cap : Int) = l then o else o + l.toNat * P.cellsOf el, none⟩) (h.toNat - l.toNat) (cap - l.toNat))))
  | .at (.string s) => isStrT P t = true ∧ boundV lo 0 fun l => boundV hi s.size fun h => (0 ≤ l ∧ l ≤ h ∧ h ≤ (s.size : Int)) ∧ K (.at (.string (s.extract l.toNat h.toNat)))
  | _ => False

def aNilCheck (x : V) (K : V → Prop) : Prop :=
  match x with
  | .rptr y => K (.rptr y)
  | .at (.pointer (some a)) => K (.at (.pointer (some a)))
  | _ => False

end ops

/-- What comes of a call. -/
inductive Outc where
  | ret (r : V)
  | pan (c : List PanicEntry)

/-- A contract without memory: the arguments read as data, so does the result; of what was there nothing turns. -/
def PureF (P : Program) (f : FuncId) (args : List V) (r : V) : Prop :=
  ∀ (wm : Nat → Nat) (w : World) (vs : List Value), (∀ b, w.heap.size ≤ b → wm b = 0) → GlobOk w.heap.size w → RVs ⟨wm, fun _ => none⟩ w args vs →
    Calls P f vs.toArray w fun e w' => ∃ v wm', e = .returned v ∧ (∀ b, w'.heap.size ≤ b → wm' b = 0) ∧ Step w.heap.size ⟨wm, fun _ => none⟩ w ⟨wm', fun _ => none⟩ w' ∧ RV ⟨wm', fun _ => none⟩ w' r v

/-- A contract over a store. -/
def FnC (P : Program) (f : FuncId) (args : List V) (st : S) (Q : Outc → S → Prop) : Prop :=
  ∀ (B : Nat) (g : Gh) (w : World) (vs : List Value), Inv B g st w → GlobOk B w → RVs g w args vs →
    Calls P f vs.toArray w fun e w' => ∃ g' st', Step B g w g' w' ∧ Inv B g' st' w' ∧
      match e with
      | .returned v => ∃ r, RV g' w' r v ∧ Q (.ret r) st'
      | .panicked c => Q (.pan c) st'
      | .outgrown => False

/-- An argument as it is, or without its name. -/
inductive Sub : List V → List V → Prop where
  | nil : Sub [] []
  | keep {x xs ys} (h : Sub xs ys) : Sub (x :: xs) (x :: ys)
  | drop {x xs ys} (h : Sub xs ys) : Sub (x :: xs) (x.untag :: ys)

def aCall (P : Program) (L : Pol) (f : V) (args : List V) (st : S) (K : V → S → Prop) (KP : List PanicEntry → S → Prop) : Prop :=
  match f with
  | .clo (.func n) caps => isCode P n = true ∧ (args.all fun x => x.flat.all V.isOne) = true ∧ allOne caps ∧
    (if L.pf n = true then caps = [] ∧ ∃ r, PureF P n (args.map V.untag) r ∧ K r st
     else ∃ as, Sub args as ∧ FnC P n (as ++ caps) st fun | .ret r, st' => K r st' | .pan c, st' => KP c st')
  | _ => False

def aBuiltin (P : Program) (L : Pol) (dst : Option Nat) (b : Builtin) (ts : Array TypeId) (args : List V) (st : S) (K : V → S → Prop) : Prop :=
  match b, ts.toList, args with
  | .len, t :: _, [x] => aLen P t x fun v => K v st
  | .max, _, [x, y] => aMax x y fun v => K v st
  | .append, [t, t2], [s, x] => aAppend P L dst st t t2 s x K
  | _, _, _ => False

/-- Is it written out? -/
def isCon : Operand → Bool
  | .const _ => true
  | _ => false
def isIfcT (P : Program) (t : TypeId) : Bool := match P.underlying t with | some (.interface _) => true | _ => false
def intT (P : Program) (t : TypeId) : Option IntKind := match P.underlying t with | some (.int k) => some k | _ => none
def aBinI (P : Program) (op : BinOp) (t : TypeId) (c : Bool) : V → V → (V → Prop) → Prop
  | .ifx, .at .nilIface, K => isIfcT P t = true ∧ aBool op false true K
  | .at .nilIface, .at .nilIface, K => isIfcT P t = true ∧ c = true ∧ aBool op true true K
  | x, y, K => aBin P op t x y K
def aConv (P : Program) (f t : TypeId) (x : V) (K : V → Prop) : Prop :=
  match x with
  | .at (.int _ n) => (match intT P t with | some k => hasT P f = true ∧ K (.at (.int k (k.wrap n))) | none => False)
  | .at (.string s) => isStrT P f = true ∧ isStrT P t = true ∧ K (.at (.string s))
  | _ => False

/-- One operation. -/
def aop (P : Program) (L : Pol) (e : Env) (st : S) (o : Oper) (K : V → S → Prop) (KP : List PanicEntry → S → Prop) : Prop :=
  match o.op with
  | .move x => K (e.ev x) st
  | .assign x => K (e.ev x) st
  | .pick c a b => aPick (e.ev c) (e.ev a) (e.ev b) fun v => K v st
  | .binOp op t x y _ => aBinI P op t (isCon y) (e.ev x) (e.ev y) fun v => K v st
  | .unOp op _ x => aUn op (e.ev x) fun v => K v st
  | .extract x i => aExtract (e.ev x) i fun v => K v st
  | .field t x f => aField P t (e.ev x) f fun v => K v st
  | .fieldAddr t x f => aFieldAddr P t (e.ev x) f fun v => K v st
  | .indexAddr t x i => aIndexAddr P t (e.ev x) (e.ev i) fun v => K v st
  | .index t x i => aIndex P t (e.ev x) (e.ev i) fun v => K v st
  | .load t x => aLoad P st t (e.ev x) fun v => K v st
  | .store t x y => aStore P st t (e.ev x) (e.ev y) fun st' => K .any st'
  | .alloc t => aAlloc P st t K
  | .box _ x => aNew st (e.ev x).flat K
  | .build t parts => aBuild P t (parts.toList.map fun p => (p.1, e.ev p.2)) fun v => K v st
  | .buildSlice t n parts => aBuildSlice P L o.dst st t n (parts.toList.map fun p => (p.1, e.ev p.2)) K
  | .nilCheck x => aNilCheck (e.ev x) fun v => K v st
  | .slice t x lo hi mx => mx.isNone = true ∧ aSlice P t (e.ev x) (lo.map e.ev) (hi.map e.ev) fun v => K v st
  | .call c => (match c.callee with
    | .value f => aCall P L (e.ev f) (c.args.toList.map e.ev) st K KP
    | .builtin b => aBuiltin P L o.dst b c.argTypes (c.args.toList.map e.ev) st K
    | .invoke _ _ => False)
  | .convert f t x => aConv P f t (e.ev x) fun v => K v st
  | _ => False

end Go.Al

/-
  AL, part 5: the operations that only compute are sound. General: no program in sight.
-/
namespace Go.Al
open Go.RowKit

section inv
variable {g : Gh} {w : World}

theorem RV_at {v u : Value} (h : RV g w (.at v) u) : u = v := by
  obtain ⟨us, h1, h2⟩ := h
  simp only [RC] at h1
  rw [h2, h1.1]; rfl
theorem RV_at_one {v u : Value} (h : RV g w (.at v) u) : one v = true := by
  obtain ⟨us, h1, h2⟩ := h
  simp only [RC] at h1
  exact h1.2
theorem RV_at_mk {v : Value} (h : one v = true) : RV g w (.at v) v := ⟨[v], by simp [RC, h], rfl⟩
theorem RV_agg {fs : List V} {u : Value} (h : RV g w (.agg fs) u) : ∃ us, RCs g w fs us ∧ u = .agg us.toArray := by
  obtain ⟨us, h1, h2⟩ := h
  exact ⟨us, by simpa only [RC] using h1, h2⟩
theorem RV_agg_mk {fs : List V} {us : List Value} (h : RCs g w fs us) : RV g w (.agg fs) (.agg us.toArray) := ⟨us, by simpa only [RC] using h, rfl⟩
theorem RV_lst {tg : Tag} {es : List V} {u : Value} (h : RV g w (.lst tg es) u) : RC g w (.lst tg es) [u] := by
  obtain ⟨us, h1, h2⟩ := h
  have h1' := h1
  simp only [RC] at h1
  rcases h1 with ⟨_, e, _⟩ | ⟨b, o, cap, ds, e, _⟩ <;> (subst e; rw [h2]; exact h1')
theorem RV_lst_mk {tg : Tag} {es : List V} {u : Value} (h : RC g w (.lst tg es) [u]) : RV g w (.lst tg es) u := ⟨[u], h, rfl⟩
theorem RV_rptr {x : V} {u : Value} (h : RV g w (.rptr x) u) : ∃ b o ds, u = .pointer (some ⟨b, o, none⟩) ∧ RC g.bare w x ds ∧ At g w b o ds := by
  obtain ⟨us, h1, h2⟩ := h
  simp only [RC] at h1
  obtain ⟨b, o, ds, rfl, h3, h4⟩ := h1
  exact ⟨b, o, ds, h2, h3, h4⟩
theorem RV_rptr_mk {x : V} {b o : Nat} {ds : List Value} (h : RC g.bare w x ds) (ha : At g w b o ds) : RV g w (.rptr x) (.pointer (some ⟨b, o, none⟩)) :=
  ⟨[.pointer (some ⟨b, o, none⟩)], by simp only [RC]; exact ⟨b, o, ds, rfl, h, ha⟩, rfl⟩
theorem RV_clo {fn : Fn} {caps : List V} {u : Value} (h : RV g w (.clo fn caps) u) : ∃ ds, RCs g.bare w caps ds ∧ u = .func fn #[] ds.toArray := by
  obtain ⟨us, h1, h2⟩ := h
  simp only [RC] at h1
  obtain ⟨ds, h3, rfl⟩ := h1
  exact ⟨ds, h3, h2⟩

theorem RV_of_RC {x : V} {us : List Value} (h : RC g w x us) : RV g w x (pack x us) := RV.of_RV1 ⟨us, h, rfl⟩

theorem size_one {x : V} (h : x.isOne = true) : x.size = 1 := by cases x <;> simp [V.isOne] at h <;> simp [V.size]
theorem sizes_one : ∀ {fs : List V}, allOne fs → sizes fs = fs.length
  | [], _ => rfl
  | x :: xs, h => by
    simp only [allOne, List.all_cons, Bool.and_eq_true] at h
    simp [sizes, size_one h.1, sizes_one (fs := xs) h.2]; omega

theorem RC_single {x : V} {us : List Value} (h : RC g w x us) (h1 : x.isOne = true) : ∃ u, us = [u] := by
  have := RC_length g w x us h
  rw [size_one h1] at this
  match us, this with
  | [u], _ => exact ⟨u, rfl⟩

theorem RCs_take_drop : ∀ {fs : List V} {us : List Value} (_ : allOne fs) (_ : RCs g w fs us) (n : Nat), RCs g w (fs.take n) (us.take n) ∧ RCs g w (fs.drop n) (us.drop n)
  | [], us, _, h, n => by simp only [RCs] at h; subst h; simp [RCs]
  | x :: xs, us, ha, h, n => by
    simp only [allOne, List.all_cons, Bool.and_eq_true] at ha
    simp only [RCs] at h
    obtain ⟨u1, u2, rfl, h1, h2⟩ := h
    obtain ⟨u, rfl⟩ := RC_single h1 ha.1
    cases n with
    | zero => simp only [List.take_zero, List.drop_zero]; exact ⟨by simp [RCs], by simp only [RCs]; exact ⟨[u], u2, rfl, h1, h2⟩⟩
    | succ n =>
      obtain ⟨k1, k2⟩ := RCs_take_drop (fs := xs) (us := u2) ha.2 h2 n
      simp only [List.take_succ_cons, List.drop_succ_cons, List.cons_append, List.nil_append]
      exact ⟨by simp only [RCs]; exact ⟨[u], u2.take n, rfl, h1, k1⟩, k2⟩

theorem RCs_append : ∀ {fs gs : List V} {us vs : List Value}, RCs g w fs us → RCs g w gs vs → RCs g w (fs ++ gs) (us ++ vs)
  | [], gs, us, vs, h, h' => by simp only [RCs] at h; subst h; exact h'
  | x :: xs, gs, us, vs, h, h' => by
    simp only [RCs] at h
    obtain ⟨u1, u2, rfl, h1, h2⟩ := h
    simp only [List.cons_append, RCs]
    exact ⟨u1, u2 ++ vs, by simp, h1, RCs_append h2 h'⟩

theorem RCs_split : ∀ {fs gs : List V} {us : List Value}, RCs g w (fs ++ gs) us → ∃ u1 u2, us = u1 ++ u2 ∧ RCs g w fs u1 ∧ RCs g w gs u2
  | [], gs, us, h => ⟨[], us, rfl, by simp [RCs], h⟩
  | x :: xs, gs, us, h => by
    simp only [List.cons_append, RCs] at h
    obtain ⟨u1, u2, rfl, h1, h2⟩ := h
    obtain ⟨v1, v2, rfl, h3, h4⟩ := RCs_split h2
    exact ⟨u1 ++ v1, v2, by simp, by simp only [RCs]; exact ⟨u1, v1, rfl, h1, h3⟩, h4⟩

theorem RCs_get {fs : List V} {us : List Value} (ha : allOne fs) (h : RCs g w fs us) (i : Nat) (hi : i < fs.length) : ∃ u, us[i]? = some u ∧ RC g w (fs.getD i .any) [u] := by
  have h1 := (RCs_take_drop ha h i).2
  rw [List.drop_eq_getElem_cons hi] at h1
  simp only [RCs] at h1
  obtain ⟨u1, u2, e, h2, _⟩ := h1
  have hone : (fs[i]).isOne = true := by
    have := List.all_eq_true.1 ha (fs[i]) (List.getElem_mem hi)
    exact this
  obtain ⟨u, rfl⟩ := RC_single h2 hone
  refine ⟨u, ?_, ?_⟩
  · have := congrArg (fun l => l[0]?) e
    simpa using this
  · simpa [hi] using h2

/-- The cells of element n of a list of elements of one size. -/
theorem RCs_elem {sz : Nat} : ∀ {es : List V} {ds : List Value}, (∀ x ∈ es, x.size = sz) → RCs g w es ds → ∀ (n : Nat), n < es.length → RC g w (es.getD n .any) ((ds.drop (n * sz)).take sz)
  | [], ds, _, _, n, hn => by simp at hn
  | x :: xs, ds, hs, h, n, hn => by
    simp only [RCs] at h
    obtain ⟨u1, u2, rfl, h1, h2⟩ := h
    have hl := RC_length g w x u1 h1
    rw [hs x (by simp)] at hl
    cases n with
    | zero =>
      have : (List.drop (0 * sz) (u1 ++ u2)).take sz = u1 := by rw [Nat.zero_mul, List.drop_zero, ← hl]; exact List.take_left
      rw [this]; simpa using h1
    | succ n =>
      have := RCs_elem (es := xs) (ds := u2) (fun y hy => hs y (by simp [hy])) h2 n (by simpa using hn)
      have e : List.drop ((n + 1) * sz) (u1 ++ u2) = u2.drop (n * sz) := by
        rw [Nat.add_mul, Nat.one_mul, Nat.add_comm, ← hl, ← List.drop_drop, List.drop_left]
      rw [e]; simpa using this

theorem At.sub {b o : Nat} {us : List Value} (h : At g w b o us) (n m : Nat) : At g w b (o + n) ((us.drop n).take m) := by
  intro k u hk
  rw [List.getElem?_take] at hk
  split at hk
  · rw [List.getElem?_drop] at hk
    have := h (n + k) u hk
    rw [Nat.add_assoc]; exact this
  · cases hk

theorem At.idx {b o : Nat} {us : List Value} (h : At g w b o us) (n : Nat) {u : Value} (hu : us[n]? = some u) : At g w b (o + n) [u] := by
  intro k v hk
  match k, hk with
  | 0, hk => simp at hk; subst hk; exact h n u hu
  | k + 1, hk => simp at hk

theorem RC_untag1 {x : V} {us : List Value} (h : RC g w x us) : RC g w (untag1 x) us := by
  unfold untag1
  split
  · rename_i t nb s es
    simp only [RC] at h ⊢
    rcases h with ⟨rfl, hu, hn⟩ | ⟨b, o, cap, ds, hu, hc, ht, hr, hf, ha⟩
    · refine .inl ⟨rfl, hu, ?_⟩
      obtain ⟨_, rfl⟩ := hn
      simp [tagOf, NilOk]
    · refine .inr ⟨b, o, cap, ds, hu, hc, ?_, hr, ?_, ha⟩
      · cases nb with
        | false => simp [TagOk]
        | true =>
          have hne := ht.2.2 rfl
          have : es.isEmpty = false := by cases es <;> simp at hne ⊢
          simp [tagOf, this, TagOk]
      · obtain ⟨sz, h1, h2⟩ := hf
        refine ⟨sz, h1, fun t' nb' s' e => ?_⟩
        cases nb <;> simp [tagOf] at e
        split at e <;> cases e
  · exact h

theorem RCs_untag1 : ∀ {xs : List V} {us : List Value}, RCs g w xs us → RCs g w (xs.map untag1) us
  | [], us, h => h
  | x :: xs, us, h => by
    simp only [RCs, List.map_cons] at h ⊢
    obtain ⟨u1, u2, rfl, h1, h2⟩ := h
    exact ⟨u1, u2, rfl, RC_untag1 h1, RCs_untag1 h2⟩

theorem RC_untag {x : V} {us : List Value} (h : RC g w x us) : RC g w x.untag us := by
  unfold V.untag
  split
  · simp only [RC] at h ⊢; exact RCs_untag1 h
  · exact RC_untag1 h

/-- Untagged it needs no names. -/
theorem RC_untag1_bare {x : V} {us : List Value} (h : RC g w x us) (h1 : x.isOne = true) : RC g.bare w (untag1 x) us := by
  have h2 := RC_untag1 h
  cases x with
  | any => simp [V.isOne] at h1
  | agg fs => simp [V.isOne] at h1
  | tup vs => simp [V.isOne] at h1
  | rptr x => simp only [untag1, RC] at h2 ⊢; exact h2
  | ifx => simp only [untag1, RC] at h2 ⊢; exact h2
  | clo fn caps => simp only [untag1, RC] at h2 ⊢; exact h2
  | lst tg es =>
    have key : ∀ tg', (∀ t nb s, tg' ≠ .own t nb s) → RC g w (.lst tg' es) us → RC g.bare w (.lst tg' es) us := by
      intro tg' hno h
      simp only [RC] at h ⊢
      rcases h with ⟨he, hu, hn⟩ | ⟨b, o, cap, ds, hu, hc, ht, hr, hf, ha⟩
      · refine .inl ⟨he, hu, ?_⟩
        cases tg' with
        | nil => exact hn
        | no => exact hn
        | own t nb s => exact absurd rfl (hno t nb s)
      · refine .inr ⟨b, o, cap, ds, hu, hc, ?_, hr, hf, ha⟩
        cases tg' with
        | nil => exact ht
        | no => exact ht
        | own t nb s => exact absurd rfl (hno t nb s)
    cases tg with
    | nil => exact key _ (fun _ _ _ e => by cases e) h2
    | no => exact key _ (fun _ _ _ e => by cases e) h2
    | own t nb s =>
      simp only [untag1] at h2 ⊢
      refine key _ (fun t' nb' s' e => ?_) h2
      cases nb <;> simp [tagOf] at e
      split at e <;> cases e
  | _ => simpa [RC, untag1] using h2

theorem RCs_untag1_bare : ∀ {xs : List V} {us : List Value}, RCs g w xs us → allOne xs → RCs g.bare w (xs.map untag1) us
  | [], us, h, _ => h
  | x :: xs, us, h, h1 => by
    simp only [allOne, List.all_cons, Bool.and_eq_true] at h1
    simp only [RCs, List.map_cons] at h ⊢
    obtain ⟨u1, u2, rfl, h2, h3⟩ := h
    exact ⟨u1, u2, rfl, RC_untag1_bare h2 h1.1, RCs_untag1_bare h3 h1.2⟩

theorem RC_untag_bare {x : V} {us : List Value} (h : RC g w x us) (h1 : allOne x.flat) : RC g.bare w x.untag us := by
  cases x with
  | agg fs => simp only [RC, V.untag] at h ⊢; exact RCs_untag1_bare h h1
  | any => simp [RC] at h
  | tup vs => simp [RC] at h
  | _ => exact RC_untag1_bare h rfl

theorem pack_untag (x : V) (us : List Value) : pack x.untag us = pack x us := by
  cases x <;> simp only [V.untag, untag1, pack]
  rename_i tg es
  cases tg <;> simp [untag1, pack]

theorem RV1.untag {x : V} {u : Value} (h : RV1 g w x u) : RV1 g w x.untag u := by
  obtain ⟨us, h1, h2⟩ := h
  exact ⟨us, RC_untag h1, by rw [pack_untag]; exact h2⟩

theorem RV_cases {x : V} {u : Value} (h : RV g w x u) (h1 : x ≠ .any) (h2 : ∀ vs, x ≠ .tup vs) : RV1 g w x u := by
  cases x with
  | any => exact absurd rfl h1
  | tup vs => exact absurd rfl (h2 vs)
  | _ => exact h

end inv

section runs
variable {P : Program}
theorem hasT_info {t : TypeId} (h : hasT P t = true) : ∃ i, P.info? t = some i ∧ i.size = P.cellsOf t ∧ i.bytes = P.bytesOf t ∧ i.zero = zeroOf P t := by
  simp only [hasT, Bool.and_eq_true, Option.isSome_iff_exists] at h
  obtain ⟨⟨i, hi⟩, _⟩ := h
  exact ⟨i, hi, by simp [Program.cellsOf, hi], by simp [Program.bytesOf, hi], by simp [zeroOf, hi]⟩
theorem run_sizeOf' {t : TypeId} (h : hasT P t = true) (w : World) : (sizeOf t).run P w = .ok (P.cellsOf t) w := by
  obtain ⟨i, hi, hs, _⟩ := hasT_info h
  simp [sizeOf, typeInfo, hi, hs]
theorem run_isAgg' {t : TypeId} (h : hasT P t = true) (w : World) : (isAgg t).run P w = .ok (isAggT P t) w := by
  simp only [hasT, Bool.and_eq_true, Option.isSome_iff_exists] at h
  obtain ⟨_, ⟨d, hd⟩⟩ := h
  simp only [isAgg, Sem.run_bind, run_underlying hd, Result.andThen_ok, isAggT, hd]
  cases d <;> rfl
theorem elT_spec {t el : TypeId} (h : elT P t = some el) : P.underlying t = some (.slice el) := by
  unfold elT at h
  split at h
  · rename_i e; rw [e]; injection h with h; rw [h]
  · cases h
theorem addr_add (b o n : Nat) : (⟨b, o, none⟩ : Addr).add n = ⟨b, o + n, none⟩ := by unfold Addr.add; split <;> simp_all

theorem run_loadVar' {g : Gh} {w : World} {t : TypeId} {x : V} {b o : Nat} {ds : List Value} (hf : fits P t x) (hr : RC g w x ds) (ha : ∀ (k : Nat) u, ds[k]? = some u → w.cell? ⟨b, o + k, none⟩ = some u) :
    (loadVar t ⟨b, o, none⟩).run P w = .ok (pack x ds) w := by
  obtain ⟨h1, h2, h3⟩ := hf
  have hl := RC_length g w x ds hr
  simp only [loadVar, Sem.run_bind, run_isAgg' h1, Result.andThen_ok]
  cases hx : x.isAgg with
  | true =>
    rw [hx] at h3
    rw [← h3]
    cases x <;> simp [V.isAgg] at hx
    rename_i fs
    have hll : (loadCells ⟨b, o, none⟩ ds.length).run P w = .ok ds.toArray w :=
      run_loadCells_list (P := P) w ⟨b, o, none⟩ ds (fun j v hv => by rw [addr_add]; exact ha j v hv)
    rw [← hl] at h2
    simp only [if_true, Sem.run_bind, run_sizeOf' h1, Result.andThen_ok, ← h2, hll]
    rfl
  | false =>
    rw [hx] at h3
    rw [← h3]
    simp only [Bool.false_eq_true, if_false]
    have h1x : x.size = 1 := by
      cases x <;> simp [V.isAgg] at hx <;> simp [V.size]
    rw [h1x] at hl
    match ds, hl with
    | [u], _ =>
      have hc := ha 0 u (by simp)
      have hp : pack x [u] = u := by cases x <;> simp [V.isAgg] at hx <;> rfl
      rw [hp]
      simp only [Nat.add_zero] at hc
      simp [load, Sem.run, hc]

/-- A part of a row of cells. -/
theorem part_RC {g : Gh} {w : World} {t : TypeId} {fs : List V} {off : Nat} {us : List Value} (ha : allOne fs) (hp : partOk P t fs off) (h : RCs g w fs us) :
    RC g w (partV P t fs off) ((us.drop off).take (P.cellsOf t)) ∧ (partV P t fs off).isAgg = isAggT P t ∧ (partV P t fs off).size = P.cellsOf t := by
  obtain ⟨h1, h2, h3⟩ := hp
  have hl := RCs_length g w fs us h
  rw [sizes_one ha] at hl
  unfold partV
  cases hb : isAggT P t with
  | true =>
    simp only [if_true]
    have ha' : allOne (fs.drop off) := by
      unfold allOne at ha ⊢
      rw [List.all_eq_true] at ha ⊢
      exact fun x hx => ha x (List.mem_of_mem_drop hx)
    have h4 := (RCs_take_drop ha' (RCs_take_drop ha h off).2 (P.cellsOf t)).1
    have ha'' : allOne ((fs.drop off).take (P.cellsOf t)) := by
      unfold allOne at ha' ⊢
      rw [List.all_eq_true] at ha' ⊢
      exact fun x hx => ha' x (List.mem_of_mem_take hx)
    refine ⟨by simp only [RC]; exact h4, rfl, ?_⟩
    simp only [V.size]
    rw [sizes_one ha'']
    simp; omega
  | false =>
    simp only [Bool.false_eq_true, if_false]
    have h5 := h3 hb
    obtain ⟨u, hu, hr⟩ := RCs_get ha h off (by omega)
    have hone : (fs.getD off .any).isOne = true := by
      have hlt : off < fs.length := by omega
      have := List.all_eq_true.1 ha (fs[off]) (List.getElem_mem hlt)
      simpa [hlt] using this
    refine ⟨?_, ?_, ?_⟩
    · rw [h5]
      have : (us.drop off).take 1 = [u] := by
        have hlt : off < us.length := by omega
        rw [List.drop_eq_getElem_cons hlt]
        simp only [List.take_succ_cons, List.take_zero]
        rw [List.getElem?_eq_getElem hlt] at hu
        injection hu with hu
        rw [hu]
      rw [this]; exact hr
    · cases hq : fs.getD off .any <;> rw [hq] at hone <;> simp [V.isOne] at hone <;> rfl
    · rw [size_one hone, h5]
end runs

end Go.Al

/-
  AL, part 6: each operation that turns no memory is sound. General: no program in sight.
-/
namespace Go.Al
open Go.RowKit

def OpOut (X : Cx) (g : Gh) (w : World) (o : Oper) (a : Act) (K : V → S → Prop) : Act → World → Prop :=
  fun a' w' => ∃ u v g' st', a' = a.put o.dst u ∧ Out X.B g w g' st' w' ∧ RV g' w' v u ∧ K v st'
def OpPan (X : Cx) (g : Gh) (w : World) (a : Act) (KP : List PanicEntry → S → Prop) : Exit → Act → World → Prop :=
  fun ex a' w' => ∃ c g' st', ex = .panic c ∧ a' = a ∧ Out X.B g w g' st' w' ∧ KP c st'

section
variable {P : Program} {X : Cx} {g : Gh} {w : World} {a : Act} {o : Oper} {st : S} {K : V → S → Prop} {KP : List PanicEntry → S → Prop}

theorem wp_of_value {w' : World} {u : Value} {Q : Exit → Act → World → Prop} {K : Act → World → Prop} (h : (execOp a.eval o).run P w = .ok (.value u) w') (hk : K (a.put o.dst u) w') : o.wp P a w K Q := by
  unfold Oper.wp Oper.upon
  rw [h]; exact hk

theorem wp_of_skip {w' : World} {Q : Exit → Act → World → Prop} {K : Act → World → Prop} (h : (execOp a.eval o).run P w = .ok .skip w') (hk : K (a.put o.dst undef) w') : o.wp P a w K Q := by
  unfold Oper.wp Oper.upon
  rw [h]; exact hk

/-- An operation that leaves the world alone. -/
theorem still_op (hi : Inv X.B g st w) {u : Value} {v : V} (h : (execOp a.eval o).run P w = .ok (.value u) w) (hv : RV g w v u) (hk : K v st) : o.wp P a w (OpOut X g w o a K) (OpPan X g w a KP) :=
  wp_of_value h ⟨u, v, g, st, rfl, .refl hi, hv, hk⟩

theorem run_v {s : Sem Value} {u : Value} {w' : World} (h : s.run P w = .ok u w') : ((do pure (Next.value (← s))) : Sem Next).run P w = .ok (.value u) w' := by
  simp [Sem.run_bind, h]

theorem run_u {s : Sem Unit} {w' : World} (h : s.run P w = .ok () w') : ((do s; pure Next.skip) : Sem Next).run P w = .ok .skip w' := by
  simp [Sem.run_bind, h]

theorem aPick_spec {c x y : V} {K : V → Prop} (h : aPick c x y K) {uc ux uy : Value} (hc : RV g w c uc) (hx : RV g w x ux) (hy : RV g w y uy) :
    ∃ v t, K v ∧ uc = .bool t ∧ RV g w v (if t then ux else uy) := by
  unfold aPick at h
  split at h
  · rename_i t
    refine ⟨_, t, h, RV_at hc, ?_⟩
    cases t <;> simpa
  · cases h

theorem aInt_spec {op : BinOp} {k : IntKind} {x y : Int} {K : V → Prop} (h : aInt op k x y K) : ∃ v, K (.at v) ∧ one v = true ∧ (Go.binOp op 0 (.int k x) (.int k y)).run P w = .ok v w ∧ (∀ t, Go.binOp op t (.int k x) (.int k y) = Go.binOp op 0 (.int k x) (.int k y)) := by
  cases op <;> simp only [aInt] at h
  case quo => exact ⟨_, h.2, rfl, by simp [Go.binOp, Op.intDiv, h.1], fun _ => rfl⟩
  case rem => exact ⟨_, h.2, rfl, by simp [Go.binOp, Op.intDiv, h.1], fun _ => rfl⟩
  all_goals exact ⟨_, h, rfl, by simp [Go.binOp, Op.intArith, Op.intCmp], fun _ => rfl⟩

theorem aStr_spec {op : BinOp} {x y : ByteArray} {K : V → Prop} (h : aStr op x y K) (t : TypeId) : ∃ v, K (.at v) ∧ one v = true ∧ (Go.binOp op t (.string x) (.string y)).run P w = .ok v w := by
  cases op <;> simp only [aStr] at h
  case add =>
    refine ⟨_, h.2, rfl, ?_⟩
    have : ¬ (((x.size + y.size : Nat) : Int) > IntKind.i64.max) := by have := h.1; omega
    simp only [Go.binOp, Op.stringOp, if_neg this]
    rfl
  all_goals exact ⟨_, h, rfl, by simp [Go.binOp, Op.stringOp]⟩

theorem eqGuard_plain {op : BinOp} {t : TypeId} {x y : Operand} {u v : Value} (h : u ≠ .nilIface) (h2 : one u = true) : (eqGuard op t x y u v).run P w = .ok () w := by
  cases u <;> first | (exact absurd rfl h) | (simp [one] at h2; done) | skip
  all_goals
    unfold eqGuard
    cases op <;> simp

theorem isBoolT_spec {t : TypeId} (h : isBoolT P t = true) : P.underlying t = some .bool := by
  unfold isBoolT at h; split at h
  · rename_i e; exact e
  · cases h
theorem isStrT_spec {t : TypeId} (h : isStrT P t = true) : P.underlying t = some .string := by
  unfold isStrT at h; split at h
  · rename_i e; exact e
  · cases h

theorem run_equal_bool {t : TypeId} (hu : P.underlying t = some .bool) (p q : Bool) (w : World) : (Op.equal t (.bool p) (.bool q)).run P w = .ok (p == q) w := by
  show (Op.equalIn (9999 + 1) t (.bool p) (.bool q)).run P w = _
  generalize 9999 = d
  unfold Op.equalIn
  simp only [Sem.run_bind, run_underlying hu, Result.andThen_ok, Sem.run_pure]
theorem run_equal_nil {t el : TypeId} (hu : P.underlying t = some (.slice el)) (ad : Option Addr) (n c : Nat) (w : World) : (Op.equal t (.slice ad n c) (.slice none 0 0)).run P w = .ok ad.isNone w := by
  show (Op.equalIn (9999 + 1) t (.slice ad n c) (.slice none 0 0)).run P w = _
  generalize 9999 = d
  unfold Op.equalIn
  cases ad <;> simp only [Sem.run_bind, run_underlying hu, Result.andThen_ok, Sem.run_pure, Option.isNone]

theorem aBool_spec {op : BinOp} {x y : Bool} {K : V → Prop} (h : aBool op x y K) : (op = .eql ∧ K (.at (.bool (x == y)))) ∨ (op = .neq ∧ K (.at (.bool (!(x == y))))) := by
  cases op <;> simp only [aBool] at h
  · exact .inl ⟨rfl, h⟩
  · exact .inr ⟨rfl, h⟩

/-- nil or not, as the tag says. -/
theorem nilB_spec {tg : Tag} {es : List V} {u : Value} (h : RC g w (.lst tg es) [u]) : ∃ ad n c, u = .slice ad n c ∧ ad.isNone = nilB tg es := by
  simp only [RC] at h
  rcases h with ⟨rfl, hu, hn⟩ | ⟨b, o, cap, ds, hu, hc, ht, hr, hf, ha⟩
  · injection hu with hu _
    refine ⟨none, 0, 0, hu, ?_⟩
    cases tg with
    | nil => rfl
    | no => exact hn.elim
    | own t nb s => obtain ⟨_, rfl⟩ := hn; rfl
  · injection hu with hu _
    refine ⟨some _, _, _, hu, ?_⟩
    cases tg with
    | nil => exact ht.elim
    | no => rfl
    | own t nb s =>
      cases nb with
      | false => rfl
      | true => have := ht.2.2 rfl; cases es <;> simp at this ⊢; simp [nilB]

theorem aBin_spec {op : BinOp} {t : TypeId} {x y : V} {K : V → Prop} (h : aBin P op t x y K) {ux uy : Value} (hx : RV g w x ux) (hy : RV g w y uy) (ox oy : Operand) :
    ∃ v, K (.at v) ∧ one v = true ∧ ((do eqGuard op t ox oy ux uy; Go.binOp op t ux uy) : Sem Value).run P w = .ok v w := by
  unfold aBin at h
  split at h
  · rename_i k p k' q
    obtain ⟨rfl, h⟩ := h
    have e1 := RV_at hx; have e2 := RV_at hy
    subst e1; subst e2
    obtain ⟨v, h1, h2, h3, h4⟩ := aInt_spec (P := P) (w := w) h
    exact ⟨v, h1, h2, by rw [Sem.run_bind, eqGuard_plain (by simp) rfl, Result.andThen_ok, h4 t, h3]⟩
  · obtain ⟨hb, h⟩ := h
    have e1 := RV_at hx; have e2 := RV_at hy
    subst e1; subst e2
    have hu := isBoolT_spec hb
    rcases aBool_spec h with ⟨rfl, h⟩ | ⟨rfl, h⟩
    · exact ⟨_, h, rfl, by rw [Sem.run_bind, eqGuard_plain (by simp) rfl, Result.andThen_ok]; simp only [Go.binOp, Sem.run_bind, run_equal_bool hu, Result.andThen_ok, Sem.run_pure]⟩
    · exact ⟨_, h, rfl, by rw [Sem.run_bind, eqGuard_plain (by simp) rfl, Result.andThen_ok]; simp only [Go.binOp, Sem.run_bind, run_equal_bool hu, Result.andThen_ok, Sem.run_pure]⟩
  · have e1 := RV_at hx; have e2 := RV_at hy
    subst e1; subst e2
    obtain ⟨v, h1, h2, h3⟩ := aStr_spec (P := P) (w := w) h t
    exact ⟨v, h1, h2, by rw [Sem.run_bind, eqGuard_plain (by simp) rfl, Result.andThen_ok, h3]⟩
  · rename_i tg es
    obtain ⟨hel, h⟩ := h
    obtain ⟨el, hel⟩ := Option.isSome_iff_exists.1 hel
    have hu := elT_spec hel
    obtain ⟨ad, n, c, rfl, hn⟩ := nilB_spec (RV_lst hx)
    have hy' := RV_lst hy
    simp only [RC] at hy'
    have e2 : uy = .slice none 0 0 := by
      rcases hy' with ⟨_, hu, _⟩ | ⟨b, o, cap, ds, _, _, ht, _⟩
      · injection hu
      · exact ht.elim
    subst e2
    rcases aBool_spec h with ⟨rfl, h⟩ | ⟨rfl, h⟩
    · refine ⟨_, h, rfl, ?_⟩
      rw [Sem.run_bind, eqGuard_plain (by simp) rfl, Result.andThen_ok]
      simp only [Go.binOp, Sem.run_bind, run_equal_nil hu, Result.andThen_ok, Sem.run_pure, hn]
      cases nilB tg es <;> rfl
    · refine ⟨_, h, rfl, ?_⟩
      rw [Sem.run_bind, eqGuard_plain (by simp) rfl, Result.andThen_ok]
      simp only [Go.binOp, Sem.run_bind, run_equal_nil hu, Result.andThen_ok, Sem.run_pure, hn]
      cases nilB tg es <;> rfl
  · cases h

theorem isIfcT_spec {t : TypeId} (h : isIfcT P t = true) : ∃ ms, P.underlying t = some (.interface ms) := by
  unfold isIfcT at h; split at h
  · rename_i e; exact ⟨_, e⟩
  · cases h
theorem run_equal_ifx {t ty : TypeId} {p : Value} {ms} (hu : P.underlying t = some (.interface ms)) (w : World) : (Op.equal t (.iface ty p) .nilIface).run P w = .ok false w := by
  show (Op.equalIn (9999 + 1) t (.iface ty p) .nilIface).run P w = _
  generalize 9999 = d
  unfold Op.equalIn
  simp only [Sem.run_bind, run_underlying hu, Result.andThen_ok, Sem.run_pure]
theorem run_equal_nilnil {t : TypeId} {ms} (hu : P.underlying t = some (.interface ms)) (w : World) : (Op.equal t .nilIface .nilIface).run P w = .ok true w := by
  show (Op.equalIn (9999 + 1) t .nilIface .nilIface).run P w = _
  generalize 9999 = d
  unfold Op.equalIn
  simp only [Sem.run_bind, run_underlying hu, Result.andThen_ok, Sem.run_pure]
theorem eqGuard_con {op : BinOp} {t : TypeId} {x y : Operand} (h : isCon y = true) : (eqGuard op t x y .nilIface .nilIface).run P w = .ok () w := by
  cases y <;> first | cases h | skip
  unfold eqGuard
  cases op <;> simp
theorem RV_ifx {u : Value} (h : RV g w .ifx u) : ∃ t p, u = .iface t p := by
  obtain ⟨us, h1, h2⟩ := h
  simp only [RC] at h1
  obtain ⟨t, p, rfl⟩ := h1
  exact ⟨t, p, h2⟩
theorem aBinI_spec {op : BinOp} {t : TypeId} {x y : V} {K : V → Prop} {ox oy : Operand} (h : aBinI P op t (isCon oy) x y K) {ux uy : Value} (hx : RV g w x ux) (hy : RV g w y uy) :
    ∃ v, K (.at v) ∧ one v = true ∧ ((do eqGuard op t ox oy ux uy; Go.binOp op t ux uy) : Sem Value).run P w = .ok v w := by
  unfold aBinI at h
  split at h
  · obtain ⟨hi, h⟩ := h
    obtain ⟨ms, hu⟩ := isIfcT_spec hi
    obtain ⟨ty, p, rfl⟩ := RV_ifx hx
    have e2 := RV_at hy
    subst e2
    rcases aBool_spec h with ⟨rfl, h⟩ | ⟨rfl, h⟩
    · exact ⟨_, h, rfl, by rw [Sem.run_bind, eqGuard_plain (by simp) rfl, Result.andThen_ok]; simp only [Go.binOp, Sem.run_bind, run_equal_ifx hu, Result.andThen_ok, Sem.run_pure]; rfl⟩
    · exact ⟨_, h, rfl, by rw [Sem.run_bind, eqGuard_plain (by simp) rfl, Result.andThen_ok]; simp only [Go.binOp, Sem.run_bind, run_equal_ifx hu, Result.andThen_ok, Sem.run_pure]; rfl⟩
  · obtain ⟨hi, hc, h⟩ := h
    obtain ⟨ms, hu⟩ := isIfcT_spec hi
    have e1 := RV_at hx; have e2 := RV_at hy
    subst e1; subst e2
    rcases aBool_spec h with ⟨rfl, h⟩ | ⟨rfl, h⟩
    · exact ⟨_, h, rfl, by rw [Sem.run_bind, eqGuard_con hc, Result.andThen_ok]; simp only [Go.binOp, Sem.run_bind, run_equal_nilnil hu, Result.andThen_ok, Sem.run_pure]; rfl⟩
    · exact ⟨_, h, rfl, by rw [Sem.run_bind, eqGuard_con hc, Result.andThen_ok]; simp only [Go.binOp, Sem.run_bind, run_equal_nilnil hu, Result.andThen_ok, Sem.run_pure]; rfl⟩
  · exact aBin_spec h hx hy ox oy
theorem intT_spec {t : TypeId} {k : IntKind} (h : intT P t = some k) : P.underlying t = some (.int k) := by
  unfold intT at h; split at h
  · rename_i e; injection h with h; subst h; exact e
  · cases h
theorem aConv_spec {f t : TypeId} {x : V} {K : V → Prop} (h : aConv P f t x K) {ux : Value} (hx : RV g w x ux) : ∃ v, K (.at v) ∧ one v = true ∧ (Go.convert f t ux).run P w = .ok v w := by
  unfold aConv at h
  split at h
  · have e1 := RV_at hx; subst e1
    split at h
    · rename_i k hk
      obtain ⟨h1, h⟩ := h
      have hu := intT_spec hk
      unfold hasT at h1
      simp only [Bool.and_eq_true] at h1
      obtain ⟨d, hd⟩ := Option.isSome_iff_exists.1 h1.2
      refine ⟨_, h, rfl, ?_⟩
      unfold Go.convert
      simp only [Sem.run_bind, run_underlying hd, run_underlying hu, Result.andThen_ok]
      rfl
    · cases h
  · have e1 := RV_at hx; subst e1
    obtain ⟨h1, h2, h⟩ := h
    have hu1 := isStrT_spec h1
    have hu2 := isStrT_spec h2
    refine ⟨_, h, rfl, ?_⟩
    unfold Go.convert
    simp only [Sem.run_bind, run_underlying hu1, run_underlying hu2, Result.andThen_ok, Sem.run_pure]
  · cases h

theorem aUn_spec {op : UnOp} {x : V} {K : V → Prop} (h : aUn op x K) {ux : Value} (hx : RV g w x ux) : ∃ v, K (.at v) ∧ one v = true ∧ (Op.unary op ux).run P w = .ok v w := by
  unfold aUn at h
  split at h
  · have e1 := RV_at hx; subst e1
    split at h
    · exact ⟨_, h, rfl, by simp [Op.unary]⟩
    · cases h
  · have e1 := RV_at hx; subst e1
    split at h
    · exact ⟨_, h, rfl, by simp [Op.unary, Op.intArith]⟩
    · cases h
  · cases h

theorem aExtract_spec {x : V} {i : Nat} {K : V → Prop} (h : aExtract x i K) {ux : Value} (hx : RV g w x ux) : ∃ v u, K v ∧ RV g w v u ∧ (Instr.extract ux i).run P w = .ok u w := by
  unfold aExtract at h
  split at h
  · rename_i vs
    obtain ⟨us, h1, rfl⟩ := hx
    obtain ⟨u, hu, hr⟩ := h1.get i (vs[i]'h.1) (List.getElem?_eq_getElem h.1)
    refine ⟨_, u, h.2, ?_, ?_⟩
    · have : vs.getD i .any = vs[i]'h.1 := by simp [h.1]
      rw [this]; exact RV.of_RV1 hr
    · simp [Instr.extract, hu]
  · cases h

theorem fieldAt_spec {t : TypeId} {i off : Nat} {ft : TypeId} (h : fieldAt P t i = some (off, ft)) : ∃ fs f, P.underlying t = some (.struct fs) ∧ fs[i]? = some f ∧ f.offset = off ∧ f.type = ft := by
  unfold fieldAt at h
  split at h
  · rename_i fs e
    cases hf : fs[i]? with
    | none => simp [hf] at h
    | some f => simp [hf] at h; exact ⟨fs, f, e, hf, h.1, h.2⟩
  · cases h

theorem run_part {t : TypeId} {fs : List V} {off : Nat} {us : List Value} (ha : allOne fs) (hp : partOk P t fs off) (h : RCs g w fs us) :
    (part t us.toArray off).run P w = .ok (pack (partV P t fs off) ((us.drop off).take (P.cellsOf t))) w := by
  have hp' := hp
  obtain ⟨h1, h2, h3⟩ := hp
  have hl := RCs_length g w fs us h
  rw [sizes_one ha] at hl
  unfold part
  simp only [Sem.run_bind, run_isAgg' h1, Result.andThen_ok]
  cases hb : isAggT P t with
  | true =>
    simp only [if_true, Sem.run_bind, run_sizeOf' h1, Result.andThen_ok, partV, hb, pack]
    simp only [List.extract_toArray, List.extract_eq_take_drop]
    simp
  | false =>
    simp only [Bool.false_eq_true, if_false, partV, hb]
    have h5 := h3 hb
    obtain ⟨u, hu, hr⟩ := RCs_get ha h off (by omega)
    have hlt : off < us.length := by omega
    have e : (us.drop off).take (P.cellsOf t) = [u] := by
      rw [h5, List.drop_eq_getElem_cons hlt]
      rw [List.getElem?_eq_getElem hlt] at hu
      injection hu with hu
      simp [hu]
    have hone : (fs.getD off .any).isOne = true := by
      have hlt : off < fs.length := by omega
      have := List.all_eq_true.1 ha (fs[off]) (List.getElem_mem hlt)
      simpa [hlt] using this
    have hpk : pack (fs.getD off .any) [u] = u := by cases hq : fs.getD off .any <;> rw [hq] at hone <;> simp [V.isOne] at hone <;> rfl
    rw [e, hpk]
    simp [hu]

theorem aField_spec {t : TypeId} {x : V} {f : Nat} {K : V → Prop} (h : aField P t x f K) {ux : Value} (hx : RV g w x ux) : ∃ v u, K v ∧ RV g w v u ∧ (Instr.field t ux f).run P w = .ok u w := by
  unfold aField at h
  split at h
  · rename_i fs off ft hfa
    obtain ⟨fds, fd, hu, hf, rfl, rfl⟩ := fieldAt_spec hfa
    obtain ⟨us, h1, rfl⟩ := RV_agg hx
    refine ⟨_, _, h.2.2, RV_of_RC (part_RC h.1 h.2.1 h1).1, ?_⟩
    simp only [Instr.field, Sem.run_bind, run_underlying hu, Result.andThen_ok, hf, asAgg, Sem.run_pure]
    exact run_part h.1 h.2.1 h1
  · cases h

theorem aFieldAddr_spec {t : TypeId} {x : V} {f : Nat} {K : V → Prop} (h : aFieldAddr P t x f K) {ux : Value} (hx : RV g w x ux) : ∃ v u, K v ∧ RV g w v u ∧ (Instr.fieldAt t ux f).run P w = .ok u w := by
  unfold aFieldAddr at h
  split at h
  · rename_i fs off ft hfa
    obtain ⟨fds, fd, hu, hf, rfl, rfl⟩ := fieldAt_spec hfa
    obtain ⟨b, o, ds, rfl, h1, h2⟩ := RV_rptr hx
    simp only [RC] at h1
    refine ⟨_, .pointer (some ⟨b, o + fd.offset, none⟩), h.2.2.2, RV_rptr_mk (part_RC h.1 h.2.1 h1).1 (h2.sub _ _), ?_⟩
    have hz : ¬ P.cellsOf fd.type = 0 := by have := h.2.2.1; omega
    simp [Instr.fieldAt, run_underlying hu, hf, Instr.sureAddr, fieldPlace, run_sizeOf' h.2.1.1, hz, addr_add]
  · rename_i b o off ft hfa
    obtain ⟨fds, fd, hu, hf, rfl, rfl⟩ := fieldAt_spec hfa
    have e1 := RV_at hx; subst e1
    have hz : ¬ P.cellsOf fd.type = 0 := by have := h.2.1; omega
    refine ⟨_, .pointer (some ⟨b, o + fd.offset, none⟩), h.2.2, RV_at_mk rfl, ?_⟩
    simp [Instr.fieldAt, run_underlying hu, hf, Instr.sureAddr, fieldPlace, run_sizeOf' h.1, hz, addr_add]
  · cases h

theorem aIndexAddr_spec {t : TypeId} {x i : V} {K : V → Prop} (h : aIndexAddr P t x i K) {ux ui : Value} (hx : RV g w x ux) (hi : RV g w i ui) : ∃ v u, K v ∧ RV g w v u ∧ (Instr.indexAt t ux ui).run P w = .ok u w := by
  unfold aIndexAddr at h
  split at h
  · rename_i el tg es k n hel
    obtain ⟨h1, h2, h3, h4⟩ := h
    have hu := elT_spec hel
    have e2 := RV_at hi; subst e2
    have hl := RV_lst hx
    simp only [RC] at hl
    rcases hl with ⟨rfl, _, _⟩ | ⟨b, o, cap, ds, hux, hc, ht, hr, hf, ha⟩
    · simp at h2; omega
    · injection hux with hux _
      subst hux
      obtain ⟨sz, hsz, _⟩ := hf
      have hn : n.toNat < es.length := by omega
      have hszn : sz = P.cellsOf el := by
        rw [← h3, ← hsz (es[n.toNat]) (List.getElem_mem hn)]; simp [hn]
      refine ⟨_, .pointer (some ⟨b, o + n.toNat * sz, none⟩), h4, RV_rptr_mk (RCs_elem hsz hr n.toNat hn) (ha.sub _ _), ?_⟩
      simp [Instr.indexAt, asIntOf, run_underlying hu, h2, run_sizeOf' h1, addr_add, hszn]
  · rename_i el b o len cap k n hel
    obtain ⟨h1, h2, h4⟩ := h
    have hu := elT_spec hel
    have e2 := RV_at hi; subst e2
    have e1 := RV_at hx; subst e1
    refine ⟨_, .pointer (some ⟨b, o + n.toNat * P.cellsOf el, none⟩), h4, RV_at_mk rfl, ?_⟩
    simp [Instr.indexAt, asIntOf, run_underlying hu, h2, run_sizeOf' h1, addr_add]
  · cases h

theorem aIndex_spec {t : TypeId} {x i : V} {K : V → Prop} (h : aIndex P t x i K) {ux ui : Value} (hx : RV g w x ux) (hi : RV g w i ui) : ∃ v u, K v ∧ RV g w v u ∧ (Instr.index t ux ui).run P w = .ok u w := by
  unfold aIndex at h
  split at h
  · rename_i s k n
    obtain ⟨h1, h2, h3⟩ := h
    have hu := isStrT_spec h1
    have e1 := RV_at hx; have e2 := RV_at hi
    subst e1; subst e2
    refine ⟨_, _, h3, RV_at_mk rfl, ?_⟩
    have hn : n.toNat < s.size := by omega
    have hn' : n.toNat < s.data.size := hn
    have : s[n.toNat]? = some (s.data.getD n.toNat 0) := by
      rw [getElem?_pos s n.toNat hn]
      simp only [Array.getD, hn', dif_pos]
      rfl
    simp only [Instr.index, asIntOf, Sem.run_bind, Sem.run_pure, Result.andThen_ok, run_underlying hu, if_pos h2.1, this]
  · cases h

theorem aLen_spec {t : TypeId} {x : V} {K : V → Prop} (h : aLen P t x K) {ux : Value} (hx : RV g w x ux) (rest : List TypeId) (ty : TypeId) : ∃ v, K (.at v) ∧ one v = true ∧ (Builtin.len_ (t :: rest).toArray ty #[ux]).run P w = .ok v w := by
  unfold aLen at h
  split at h
  · rename_i tg es
    obtain ⟨el, hel⟩ := Option.isSome_iff_exists.1 h.1
    have hu := elT_spec hel
    have hl := RV_lst hx
    simp only [RC] at hl
    refine ⟨_, h.2, rfl, ?_⟩
    rcases hl with ⟨rfl, hux, _⟩ | ⟨b, o, cap, ds, hux, _⟩
    · injection hux with hux _
      subst hux
      simp [Builtin.len_, run_underlying hu, goInt]
    · injection hux with hux _
      subst hux
      simp [Builtin.len_, run_underlying hu, goInt]
  · obtain ⟨el, hel⟩ := Option.isSome_iff_exists.1 h.1
    have hu := elT_spec hel
    have e1 := RV_at hx; subst e1
    exact ⟨_, h.2, rfl, by simp [Builtin.len_, run_underlying hu, goInt]⟩
  · have hu := isStrT_spec h.1
    have e1 := RV_at hx; subst e1
    exact ⟨_, h.2, rfl, by simp [Builtin.len_, run_underlying hu, goInt]⟩
  · cases h

theorem aMax_spec {x y : V} {K : V → Prop} (h : aMax x y K) {ux uy : Value} (hx : RV g w x ux) (hy : RV g w y uy) (ts : Array TypeId) (ty : TypeId) : ∃ v, K (.at v) ∧ one v = true ∧ (Builtin.max_ ts ty #[ux, uy]).run P w = .ok v w := by
  unfold aMax at h
  split at h
  · have e1 := RV_at hx; have e2 := RV_at hy
    subst e1; subst e2
    exact ⟨_, h, rfl, by simp [Builtin.max_, Builtin.max2]⟩
  · cases h

theorem aNilCheck_spec {x : V} {K : V → Prop} (h : aNilCheck x K) {ux : Value} (hx : RV g w x ux) : K x ∧ ∃ ad, ux = .pointer (some ad) := by
  unfold aNilCheck at h
  split at h
  · obtain ⟨b, o, ds, rfl, _⟩ := RV_rptr hx; exact ⟨h, _, rfl⟩
  · exact ⟨h, _, RV_at hx⟩
  · cases h

theorem boundV_spec {x : Option V} {d : Int} {K : Int → Prop} (h : boundV x d K) {ux : Option Value} (hx : ∀ v, x = some v → ∃ u, ux = some u ∧ RV g w v u) (hn : x = none → ux = none) :
    ∃ n, K n ∧ ((x = none ∧ ux = none ∧ n = d) ∨ ∃ k, ux = some (.int k n)) := by
  unfold boundV at h
  split at h
  · exact ⟨_, h, .inl ⟨rfl, hn rfl, rfl⟩⟩
  · rename_i k n
    obtain ⟨u, rfl, hr⟩ := hx _ rfl
    exact ⟨_, h, .inr ⟨k, by rw [RV_at hr]⟩⟩
  · cases h

theorem run_sliceBound {k : IntKind} {n : Int} {y : Nat} {c : BoundsCode} (h1 : 0 ≤ n) (h2 : n ≤ y) : (Instr.sliceBound (.int k n) y c).run P w = .ok n.toNat w := by
  simp [Instr.sliceBound, asIntOf, h1, h2]

theorem run_sliceBounds {isS : Bool} {len cap : Nat} {lo hi : Option Value} {l h : Int} (hl : (lo = none ∧ l = 0) ∨ ∃ k, lo = some (.int k l)) (hh : (hi = none ∧ h = len) ∨ ∃ k, hi = some (.int k h))
    (h0 : 0 ≤ l) (h1 : l ≤ h) (h2 : h ≤ cap) : (Instr.sliceBounds isS len cap lo hi none).run P w = .ok (l.toNat, h.toNat, cap) w := by
  unfold Instr.sliceBounds
  have e : ((h.toNat : Nat) : Int) = h := by omega
  rcases hh with ⟨rfl, rfl⟩ | ⟨k, rfl⟩ <;> rcases hl with ⟨rfl, rfl⟩ | ⟨k', rfl⟩
  · simp
  · simp only [Sem.run_bind, Sem.run_pure, Result.andThen_ok]
    rw [run_sliceBound h0 h1]; simp
  · simp only [Sem.run_bind, Sem.run_pure, Result.andThen_ok]
    rw [run_sliceBound (by omega) h2]; simp
  · simp only [Sem.run_bind, Sem.run_pure, Result.andThen_ok]
    rw [run_sliceBound (by omega) h2]
    simp only [Result.andThen_ok]
    rw [run_sliceBound h0 (by omega)]; simp

end
end Go.Al

/-
  AL, part 7: each operation that makes or turns memory is sound. General: no program in sight.
-/
namespace Go.Al
open Go.RowKit

section
variable {P : Program} {X : Cx} {g : Gh} {w : World} {a : Act} {o : Oper} {st : S} {K : V → S → Prop} {KP : List PanicEntry → S → Prop}

theorem one_eq (v : Value) : one v = v.oneCell' := by cases v <;> rfl

end
mutual
theorem RC_ones (g : Gh) (w : World) : ∀ (x : V) (us : List Value), RC g w x us → ∀ u ∈ us, u.oneCell' = true
  | .any, us, h => by simp [RC] at h
  | .at v, us, h => by simp only [RC] at h; obtain ⟨rfl, h1⟩ := h; intro u hu; simp at hu; subst hu; rw [← one_eq]; exact h1
  | .agg fs, us, h => by simp only [RC] at h; exact RCs_ones g w fs us h
  | .tup vs, us, h => by simp [RC] at h
  | .lst tg es, us, h => by
    simp only [RC] at h
    rcases h with ⟨_, rfl, _⟩ | ⟨b, o, cap, ds, rfl, _⟩ <;> (intro u hu; simp at hu; subst hu; rfl)
  | .rptr x, us, h => by simp only [RC] at h; obtain ⟨b, o, ds, rfl, _⟩ := h; intro u hu; simp at hu; subst hu; rfl
  | .ifx, us, h => by simp only [RC] at h; obtain ⟨t, p, rfl⟩ := h; intro u hu; simp at hu; subst hu; rfl
  | .clo fn caps, us, h => by simp only [RC] at h; obtain ⟨ds, _, rfl⟩ := h; intro u hu; simp at hu; subst hu; rfl
theorem RCs_ones (g : Gh) (w : World) : ∀ (xs : List V) (us : List Value), RCs g w xs us → ∀ u ∈ us, u.oneCell' = true
  | [], us, h => by simp only [RCs] at h; subst h; simp
  | x :: xs, us, h => by
    simp only [RCs] at h
    obtain ⟨u1, u2, rfl, h1, h2⟩ := h
    intro u hu
    rcases List.mem_append.1 hu with hu | hu
    · exact RC_ones g w x u1 h1 u hu
    · exact RCs_ones g w xs u2 h2 u hu
end

section
variable {P : Program} {X : Cx} {g : Gh} {w : World} {a : Act} {o : Oper} {st : S} {K : V → S → Prop} {KP : List PanicEntry → S → Prop}

/-- The cells of a value in a slot, flat. -/
theorem RV_flat {x : V} {u : Value} (h : RV g w x u) (h1 : allOne x.flat) : ∃ us, RCs g w x.flat us ∧ u.cells = us.toArray ∧ us.length = x.flat.length := by
  cases x with
  | any => simp [V.flat, allOne, V.isOne] at h1
  | tup vs => simp [V.flat, allOne, V.isOne] at h1
  | agg fs =>
    obtain ⟨us, h2, rfl⟩ := RV_agg h
    have := RCs_length g w fs us h2
    have h1' : allOne fs := h1
    rw [sizes_one h1'] at this
    exact ⟨us, h2, rfl, this⟩
  | _ =>
    obtain ⟨us, h2, h3⟩ := h
    obtain ⟨v, rfl⟩ := RC_single h2 rfl
    refine ⟨[v], ?_, ?_, rfl⟩
    · simp only [V.flat, RCs]; exact ⟨[v], [], rfl, h2, rfl⟩
    · have hv := RC_ones g w _ _ h2 v (by simp)
      have : u = v := h3
      subst this
      cases u <;> simp [Value.oneCell'] at hv <;> rfl

theorem aLoad_spec {t : TypeId} {x : V} {K : V → Prop} (h : aLoad P st t x K) (hi : Inv X.B g st w) {ux : Value} (hx : RV g w x ux) : ∃ v u, K v ∧ RV g w v u ∧ (Instr.loadAt t ux).run P w = .ok u w := by
  unfold aLoad at h
  split at h
  · obtain ⟨b, o, ds, rfl, h1, h2⟩ := RV_rptr hx
    refine ⟨_, _, h.2, RV_of_RC (RC_named g w _ _ h1), ?_⟩
    simp only [Instr.loadAt, Instr.sureAddr, Sem.run_bind, Sem.run_pure, Result.andThen_ok]
    exact run_loadVar' h.1 h1 fun k u hk => (h2 k u hk).1
  · rename_i b o
    have e1 := RV_at hx; subst e1
    split at h
    · rename_i cs k hl
      obtain ⟨p1, p2, p3, p4, arr, el, us, p5, p6, p7, p8⟩ := hi.box b cs k hl
      have hone : allOne cs := by unfold allOne; rw [List.all_eq_true]; exact p4
      obtain ⟨q1, q2, q3⟩ := part_RC hone h.1 p7
      refine ⟨_, _, h.2, RV_of_RC q1, ?_⟩
      simp only [Instr.loadAt, Instr.sureAddr, Sem.run_bind, Sem.run_pure, Result.andThen_ok]
      refine run_loadVar' ⟨h.1.1, q3, q2⟩ q1 fun j u hj => ?_
      rw [List.getElem?_take] at hj
      split at hj
      · rw [List.getElem?_drop, ← p8, List.getElem?_take] at hj
        split at hj
        · rw [cell_of_row w b _ arr el (0, 0) p5]; simpa using hj
        · cases hj
      · cases hj
    · cases h
  · cases h

theorem allOne_mem {fs : List V} (h : allOne fs) : ∀ c ∈ fs, c.isOne = true := List.all_eq_true.1 h

theorem aStore_spec {t : TypeId} {x y : V} {K : S → Prop} (h : aStore P st t x y K) (hi : Inv X.B g st w) {ux uy : Value} (hx : RV g w x ux) (hy : RV g w y uy) :
    ∃ st' w', K st' ∧ Out X.B g w g st' w' ∧ (Instr.storeAt t ux uy).run P w = .ok () w' := by
  unfold aStore at h
  split at h
  · rename_i b o
    have e1 := RV_at hx; subst e1
    split at h
    · rename_i cs k hl
      obtain ⟨h1, h2, h3, h4, h5⟩ := h
      obtain ⟨p1, p2, p3, p4, arr, el, us, p5, p6, p7, p8⟩ := hi.box b cs k hl
      have hone : allOne cs := by unfold allOne; rw [List.all_eq_true]; exact p4
      have hl' := RCs_length g w cs us p7
      rw [sizes_one hone] at hl'
      obtain ⟨vs, q1, q2, q3⟩ := RV_flat hy h3
      have hst := run_storeCells_at (P := P) b o el vs 0 arr w p5 (by omega) (RCs_ones g w _ _ q1)
      simp only [Nat.add_zero] at hst
      have hrow : (us.take o ++ vs ++ us.drop (o + vs.length)) = ((arr.toList.take o ++ vs ++ arr.toList.drop (o + vs.length))).take (spl cs o y.flat).length := by
        have e3 : (spl cs o y.flat).length = cs.length := by simp [spl]; omega
        rw [e3, ← p8]
        apply List.ext_getElem?
        intro j
        simp only [List.getElem?_append, List.getElem?_take, List.getElem?_drop, List.length_append, List.length_take, Array.length_toList]
        have m1 : min o (min cs.length arr.size) = o := by omega
        have m2 : min o arr.size = o := by omega
        rw [m1, m2]
        by_cases j1 : j < o
        · simp [j1, show j < o + vs.length by omega, show j < cs.length by omega]
        · by_cases j2 : j < o + vs.length
          · simp [j1, j2, show j < cs.length by omega]
          · by_cases j3 : j < cs.length
            · simp [j1, j2, j3, show o + vs.length + (j - (o + vs.length)) < cs.length by omega]
            · simp [j1, j2, j3, show ¬ (o + vs.length + (j - (o + vs.length)) < cs.length) by omega]
      refine ⟨_, w.setRow b (arr.toList.take o ++ vs ++ arr.toList.drop (o + vs.length)).toArray, h5, ?_, ?_⟩
      · refine out_setRow hi hl p5 _ (by simp; omega) _ (us.take o ++ vs ++ us.drop (o + vs.length)) (by simp [spl]; omega) ?_ ?_ (by simpa using hrow.symm)
        · intro c hc
          simp only [spl, List.mem_append] at hc
          rcases hc with (hc | hc) | hc
          · exact p4 c (List.mem_of_mem_take hc)
          · exact allOne_mem h3 c hc
          · exact p4 c (List.mem_of_mem_drop hc)
        · unfold spl
          rw [← q3]
          exact RCs_append (RCs_append (RCs_take_drop hone p7 o).1 q1) (RCs_take_drop hone p7 _).2
      · have hcs : uy.cells.size = P.cellsOf t := by rw [q2]; simpa using q3.trans h2
        have hcl : uy.cells.toList = vs := by rw [q2]
        simp only [Instr.storeAt, Instr.sureAddr, storeVar, Sem.run_bind, Sem.run_pure, Result.andThen_ok, run_sizeOf' h1, hcs, ne_eq, not_true_eq_false, if_false, hcl]
        exact hst
    · cases h
  · cases h

/-- A new box. -/
theorem aNew_spec {cs : List V} (h : aNew st cs K) (hi : Inv X.B g st w) {us : List Value} (hr : RCs g w cs us) (el : TypeId) :
    ∃ v u g' st', K v st' ∧ Out X.B g w g' st' (w.alloc (.cells us.toArray el)) ∧ RV g' (w.alloc (.cells us.toArray el)) v u ∧ u = .pointer (some ⟨w.heap.size, 0, none⟩) := by
  obtain ⟨h1, h2⟩ := h
  have hl := RCs_length g w cs us hr
  rw [sizes_one h1] at hl
  have hfree : look st.box w.heap.size = none := by
    cases hq : look st.box w.heap.size with
    | none => rfl
    | some p =>
      obtain ⟨c, k⟩ := p
      obtain ⟨_, _, _, _, arr, el, us, p5, _⟩ := hi.box _ c k hq
      have := (Array.getElem?_eq_some_iff.1 p5).1
      omega
  have ho := out_alloc hi us.toArray el 0
  refine ⟨_, _, _, _, h2 _ hfree, ⟨ho.step, ?_⟩, RV_at_mk rfl, rfl⟩
  have := ho.inv.addBox (b := w.heap.size) (arr := us.toArray) (el := el) (cs := cs) (us := us) hi.base (if_pos rfl) (alloc_new w _) (by simp; omega) (allOne_mem h1) (RCs_later ho.step.later _ _ hr)
    (by simp only [← hl]; exact List.take_length) (fun t ht d hd => by
      obtain ⟨x1, x2, x3⟩ := d
      obtain ⟨_, _, _, _, _, arr, el, p5, _⟩ := hi.own t ht _ x1 x2 x3 hd
      have := (Array.getElem?_eq_some_iff.1 p5).1
      omega)
  simpa [hl] using this

theorem zeroC_spec {t : TypeId} {cs : List V} (h : zeroC P t = some cs) : ∃ z, zeroOf P t = some z ∧ RCs g w cs z.cells.toList ∧ cs.length = z.cells.size := by
  unfold zeroC at h
  cases hz : zeroOf P t with
  | none => simp [hz] at h
  | some z =>
    simp only [hz, Option.bind_some] at h
    split at h
    · rename_i ho
      injection h with h
      subst h
      exact ⟨z, rfl, RCs_cV1 g w _ ho, by simp⟩
    · cases h

theorem zeroOf_info {t : TypeId} {z : Value} (h : zeroOf P t = some z) : ∃ i, P.info? t = some i ∧ i.zero = some z := by
  unfold zeroOf at h
  cases hi : P.info? t with
  | none => simp [hi] at h
  | some i => simp [hi] at h; exact ⟨i, rfl, h⟩

theorem aAlloc_spec {t : TypeId} (h : aAlloc P st t K) (hi : Inv X.B g st w) (old : Value) :
    ∃ v u g' st' w', K v st' ∧ Out X.B g w g' st' w' ∧ RV g' w' v u ∧ (Instr.alloc t true old).run P w = .ok u w' := by
  unfold aAlloc at h
  split at h
  · rename_i cs hz
    obtain ⟨z, hz', hr, _⟩ := zeroC_spec (g := g) (w := w) hz
    obtain ⟨i, hi1, hi2⟩ := zeroOf_info hz'
    obtain ⟨v, u, g', st', q1, q2, q3, q4⟩ := aNew_spec (X := X) h hi hr t
    refine ⟨v, u, g', st', _, q1, q2, q3, ?_⟩
    subst q4
    simp [Instr.alloc, zeroValue, typeInfo, hi1, hi2, newVar, newRow]
  · cases h

theorem aBox_spec {t : TypeId} {x : V} (h : aNew st x.flat K) (hi : Inv X.B g st w) {ux : Value} (hx : RV g w x ux) :
    ∃ v u g' st' w', K v st' ∧ Out X.B g w g' st' w' ∧ RV g' w' v u ∧ (Instr.box t ux).run P w = .ok u w' := by
  obtain ⟨us, h1, h2, h3⟩ := RV_flat hx h.1
  obtain ⟨v, u, g', st', q1, q2, q3, q4⟩ := aNew_spec (X := X) h hi h1 t
  refine ⟨v, u, g', st', _, q1, q2, q3, ?_⟩
  subst q4
  simp [Instr.box, newVar, newRow, h2]

theorem zipIdx_foldl_set (vs : List Value) : ∀ (off : Nat) (k : Nat) (cells : Array Value), off + k + vs.length ≤ cells.size →
    ((vs.zipIdx k).foldl (fun cs (c, j) => cs.setIfInBounds (off + j) c) cells).toList = cells.toList.take (off + k) ++ vs ++ cells.toList.drop (off + k + vs.length) := by
  induction vs with
  | nil => intro off k cells h; simp
  | cons v vs ih =>
    intro off k cells h
    simp only [List.zipIdx_cons, List.foldl_cons, List.length_cons] at h ⊢
    rw [ih off (k + 1) _ (by simp; omega)]
    apply List.ext_getElem?
    intro j
    simp only [Array.toList_setIfInBounds, List.getElem?_append, List.length_append, List.length_take, List.getElem?_take, List.getElem?_drop, List.getElem?_set, Array.length_toList, List.length_set, List.length_cons]
    have m1 : min (off + (k + 1)) cells.size = off + (k + 1) := by omega
    have m2 : min (off + k) cells.size = off + k := by omega
    rw [m1, m2]
    by_cases j1 : j < off + k
    · simp [j1, show j < off + (k + 1) by omega, show j < off + (k + 1) + vs.length by omega, show off + k ≠ j by omega, show j < off + k + (vs.length + 1) by omega]
    · by_cases j2 : j = off + k
      · subst j2
        simp [show off + k < off + (k + 1) by omega, show off + k < off + (k + 1) + vs.length by omega, show off + k < cells.size by omega]
      · by_cases j3 : j < off + (k + 1) + vs.length
        · have e : j - (off + k) = (j - (off + (k + 1))) + 1 := by omega
          simp [j1, j3, show ¬ j < off + (k + 1) by omega, e, show j < off + k + (vs.length + 1) by omega]
        · simp [j1, j3, show ¬ j < off + (k + 1) by omega, show ¬ j < off + k + (vs.length + 1) by omega, show off + k ≠ off + (k + 1) + vs.length + (j - (off + (k + 1) + vs.length)) by omega]
          congr 1
          omega

inductive Parts (g : Gh) (w : World) : List (Nat × V) → List (Nat × Value) → Prop where
  | nil : Parts g w [] []
  | cons {i x u ps qs} (h : RV g w x u) (hs : Parts g w ps qs) : Parts g w ((i, x) :: ps) ((i, u) :: qs)

theorem fillV_spec {place : Nat → Option (Nat × Nat)} : ∀ {ps : List (Nat × V)} {qs : List (Nat × Value)} (_ : Parts g w ps qs) {cells : List V} {us : List Value} {cs' : List V} (_ : allOne cells) (_ : RCs g w cells us)
    (_ : fillV place cells ps = some cs'), ∃ us', Instr.fill place us.toArray qs = some us'.toArray ∧ RCs g w cs' us' ∧ allOne cs' := by
  intro ps qs hp
  induction hp with
  | nil =>
    intro cells us cs' h1 h2 h3
    simp only [fillV] at h3
    injection h3 with h3
    subst h3
    exact ⟨us, rfl, h2, h1⟩
  | @cons i x u ps qs h hs ih =>
    intro cells us cs' h1 h2 h3
    simp only [fillV] at h3
    cases hpl : place i with
    | none => rw [hpl] at h3; cases h3
    | some p =>
      obtain ⟨off, size⟩ := p
      simp only [hpl] at h3
      split at h3
      · rename_i hc
        obtain ⟨c1, c2, c3⟩ := hc
        obtain ⟨vs, q1, q2, q3⟩ := RV_flat h c3
        have hl := RCs_length g w cells us h2
        rw [sizes_one h1] at hl
        have hone : allOne (spl cells off x.flat) := by
          unfold allOne spl
          rw [List.all_eq_true]
          intro c hc
          simp only [List.mem_append] at hc
          rcases hc with (hc | hc) | hc
          · exact allOne_mem h1 c (List.mem_of_mem_take hc)
          · exact allOne_mem c3 c hc
          · exact allOne_mem h1 c (List.mem_of_mem_drop hc)
        have hr : RCs g w (spl cells off x.flat) (us.take off ++ vs ++ us.drop (off + vs.length)) := by
          unfold spl
          rw [← q3]
          exact RCs_append (RCs_append (RCs_take_drop h1 h2 off).1 q1) (RCs_take_drop h1 h2 _).2
        obtain ⟨us', r1, r2, r3⟩ := ih hone hr h3
        refine ⟨us', ?_, r2, r3⟩
        simp only [Instr.fill, hpl, q2]
        have hb : (decide (vs.toArray.size ≠ size) || decide (off + vs.toArray.size > us.toArray.size)) = false := by simp; omega
        have hz := zipIdx_foldl_set vs off 0 us.toArray (by simp; omega)
        simp only [Nat.add_zero] at hz
        simp only [hb, Bool.false_eq_true, if_false]
        rw [← r1]
        congr 1
        apply Array.ext'
        rw [← hz]
        simp
      · cases h3

end
end Go.Al

/-
  AL, part 8: literals, append, slices of slices, calls; every operation is sound. General: no program in sight.
-/
namespace Go.Al
open Go.RowKit

section
variable {P : Program} {X : Cx} {g : Gh} {w : World} {a : Act} {o : Oper} {st : S} {K : V → S → Prop} {KP : List PanicEntry → S → Prop}

theorem mapM_all {α β : Type} (f : α → Option β) (h : α → β) : ∀ (l : List α), (∀ x ∈ l, f x = some (h x)) → l.mapM f = some (l.map h)
  | [], _ => rfl
  | x :: r, hx => by
    simp only [List.mapM_cons, hx x (by simp), mapM_all f h r fun y hy => hx y (by simp [hy])]
    rfl

theorem aBuild_spec {t : TypeId} {ps : List (Nat × V)} {qs : List (Nat × Value)} {K : V → Prop} (h : aBuild P t ps K) (hp : Parts g w ps qs) :
    ∃ v u, K v ∧ RV g w v u ∧ (Instr.build t qs.toArray).run P w = .ok u w := by
  obtain ⟨h1, h⟩ := h
  split at h
  · rename_i cs hz
    split at h
    · rename_i cs' hf
      obtain ⟨z, hz', hr, hl⟩ := zeroC_spec (g := g) (w := w) hz
      obtain ⟨i, hi1, hi2⟩ := zeroOf_info hz'
      have hone : allOne cs := by
        unfold zeroC at hz
        rw [hz'] at hz
        simp only [Option.bind_some] at hz
        split at hz
        · rename_i ho
          injection hz with hz
          subst hz
          unfold allOne
          rw [List.all_eq_true]
          intro c hc
          obtain ⟨v, hv, rfl⟩ := List.mem_map.1 hc
          have := List.all_eq_true.1 ho v hv
          cases v <;> simp [one] at this <;> first | rfl | (unfold cV1; split <;> first | rfl | simp_all)
        · cases hz
      obtain ⟨us', q1, q2, q3⟩ := fillV_spec hp hone hr hf
      refine ⟨_, .agg us'.toArray, h, RV_agg_mk q2, ?_⟩
      refine run_build w t qs.toArray us'.toArray ?_
      unfold isStructT at h1
      split at h1
      · rename_i fds hu
        have hm : fds.toList.mapM (fun f => (P.info? f.type).map fun i => (f.offset, i.size)) = some (fds.toList.map fun f => (f.offset, P.cellsOf f.type)) :=
          mapM_all _ _ _ fun f hf => by
            obtain ⟨j, hj, hs, _⟩ := hasT_info (List.all_eq_true.1 h1 f hf)
            simp [hj, hs]
        unfold Program.built
        simp only [hi1, hu, hi2, hm]
        have hpl : (fun i => (fds.toList.map fun f => (f.offset, P.cellsOf f.type)).toArray[i]?) = placeOf P t := by
          funext j
          unfold placeOf fieldAt
          simp only [hu]
          cases hj : fds[j]? with
          | none => simp [hj]
          | some f =>
            have hfm : hasT P f.type = true := List.all_eq_true.1 h1 f (by simpa using Array.mem_of_getElem? hj)
            simp [hj, hfm]
        rw [hpl]
        simpa using q1
      · cases h1
    · cases h
  · cases h

theorem RV_cells {x : V} {u : Value} (h : RV g w x u) (h1 : allOne x.flat) : ∃ us, RC g w x us ∧ u.cells = us.toArray ∧ u = pack x us := by
  cases x with
  | any => simp [V.flat, allOne, V.isOne] at h1
  | tup vs => simp [V.flat, allOne, V.isOne] at h1
  | agg fs =>
    obtain ⟨us, h2, rfl⟩ := RV_agg h
    exact ⟨us, by simp only [RC]; exact h2, rfl, rfl⟩
  | _ =>
    obtain ⟨us, h2, h3⟩ := h
    obtain ⟨v, rfl⟩ := RC_single h2 rfl
    refine ⟨[v], h2, ?_, h3⟩
    have hv := RC_ones g w _ _ h2 v (by simp)
    have : u = v := h3
    subst this
    cases u <;> simp [Value.oneCell'] at hv <;> rfl

/-- A slice literal's cells. -/
theorem parts_raw : ∀ {ps : List (Nat × V)} {qs : List (Nat × Value)} (_ : Parts g w ps qs) (_ : ∀ p ∈ ps, allOne p.2.flat) {sz : Nat} (_ : elsOk sz (ps.map (·.2))) (k : Nat) (_ : inOrder k ps = true),
    ∃ us, RCs g w (ps.map (·.2)) us ∧ us.length = ps.length * sz ∧ 
      ∀ (cells : Array Value), k * sz + us.length ≤ cells.size → 
        Instr.fill (fun i => some (i * sz, sz)) cells qs = some (cells.toList.take (k * sz) ++ us ++ cells.toList.drop (k * sz + us.length)).toArray := by
  intro ps qs hp
  induction hp with
  | nil =>
    intro _ sz _ k _
    refine ⟨[], by simp [RCs], by simp, fun cells _ => ?_⟩
    simp [Instr.fill]
  | @cons i x u ps qs h hs ih =>
    intro h1 sz h2 k hk
    simp only [inOrder, Bool.and_eq_true, beq_iff_eq] at hk
    obtain ⟨rfl, hk⟩ := hk
    obtain ⟨us, q1, q2, q3⟩ := ih (fun p hp => h1 p (by simp [hp])) (fun y hy => h2 y (by simp only [List.map_cons, List.mem_cons]; exact .inr hy)) (i + 1) hk
    obtain ⟨vs, r1, r2, r3⟩ := RV_cells h (h1 (i, x) (by simp))
    have hvl : vs.length = sz := by
      rw [RC_length _ _ _ _ r1]
      exact h2 _ (by simp)
    refine ⟨vs ++ us, ?_, ?_, fun cells hc => ?_⟩
    · simp only [List.map_cons, RCs]; exact ⟨vs, us, rfl, r1, q1⟩
    · simp only [List.length_append, List.length_cons, q2, hvl, Nat.add_mul, Nat.one_mul]; omega
    · simp only [List.length_append] at hc ⊢
      simp only [Instr.fill, r2]
      have hb : (decide (vs.toArray.size ≠ sz) || decide (i * sz + vs.toArray.size > cells.size)) = false := by simp; omega
      simp only [hb, Bool.false_eq_true, if_false]
      have hz := zipIdx_foldl_set vs (i * sz) 0 cells (by omega)
      simp only [Nat.add_zero] at hz
      have hzz : (List.foldl (fun cs x => cs.setIfInBounds (i * sz + x.snd) x.fst) cells (vs.zipIdx 0)).size = cells.size := by
        rw [← Array.length_toList, hz]; simp; omega
      have := q3 ((vs.toArray.zipIdx 0).foldl (fun cs (c, j) => cs.setIfInBounds (i * sz + j) c) cells) (by simp [hzz]; rw [Nat.add_mul]; omega)
      rw [this]
      congr 2
      have hz' : ((vs.toArray.zipIdx 0).foldl (fun cs (c, j) => cs.setIfInBounds (i * sz + j) c) cells).toList = cells.toList.take (i * sz) ++ vs ++ cells.toList.drop (i * sz + vs.length) := by
        rw [← hz]; simp
      rw [hz', Nat.add_mul, Nat.one_mul]
      apply List.ext_getElem?
      intro j
      simp only [List.getElem?_append, List.length_append, List.length_take, List.getElem?_take, List.getElem?_drop, Array.length_toList]
      have m1 : min (i * sz) cells.size = i * sz := by omega
      simp only [m1, hvl]
      have m2 : min (i * sz + sz) (i * sz + sz + (cells.size - (i * sz + sz))) = i * sz + sz := by omega
      simp only [List.length_drop, Array.length_toList, m2]
      by_cases j1 : j < i * sz
      · simp [j1, show j < i * sz + sz by omega, show j < i * sz + sz + us.length by omega, show j < i * sz + (sz + us.length) by omega]
      · by_cases j2 : j < i * sz + sz
        · simp [j1, j2, show j < i * sz + sz + us.length by omega, show j < i * sz + (sz + us.length) by omega, show j - i * sz < sz by omega]
        · by_cases j3 : j < i * sz + sz + us.length
          · simp [j1, j2, j3, show j < i * sz + (sz + us.length) by omega, show ¬ (j - i * sz < sz) by omega]
            congr 1; omega
          · simp [j1, j2, j3, show ¬ (j < i * sz + (sz + us.length)) by omega, show ¬ (i * sz + sz + us.length + (j - (i * sz + sz + us.length)) < i * sz) by omega, show ¬ (i * sz + sz + us.length + (j - (i * sz + sz + us.length)) < i * sz + sz) by omega]
            congr 1; omega


theorem size_untag1 (x : V) : (untag1 x).size = x.size := by
  cases x with
  | lst tg es => cases tg <;> rfl
  | _ => rfl
theorem sizes_untag1 : ∀ xs : List V, sizes (xs.map untag1) = sizes xs
  | [] => rfl
  | x :: xs => by simp [sizes, size_untag1, sizes_untag1 xs]
theorem size_untag (x : V) : x.untag.size = x.size := by
  cases x with
  | agg fs => simp only [V.untag, V.size]; exact sizes_untag1 fs
  | lst tg es => exact size_untag1 (.lst tg es)
  | any => rfl

  | _ => rfl

theorem RCs_untag_bare : ∀ {xs : List V} {us : List Value}, RCs g w xs us → (∀ x ∈ xs, allOne x.flat) → RCs g.bare w (xs.map V.untag) us
  | [], us, h, _ => h
  | x :: xs, us, h, h1 => by
    simp only [RCs, List.map_cons] at h ⊢
    obtain ⟨u1, u2, rfl, h2, h3⟩ := h
    exact ⟨u1, u2, rfl, RC_untag_bare h2 (h1 x (by simp)), RCs_untag_bare h3 fun y hy => h1 y (by simp [hy])⟩

end
end Go.Al
