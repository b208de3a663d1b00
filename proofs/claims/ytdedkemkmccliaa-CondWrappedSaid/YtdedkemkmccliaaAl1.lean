/-
  AL, part 1: abstract values, how they read in a world, and that reading lasts. General: no program in sight.
-/
import Derived.WalkKit
import Derived.WalkSpells
import Derived.WalkLawsBesides
set_option linter.unusedVariables false
set_option linter.unusedSimpArgs false
namespace Go.Al

/-- How a slice came to be: nil; one that is only read; one that the function itself grows (its ghost name, whether it was born nil, the size of an element). -/
inductive Tag where
  | nil
  | no
  | own (t : Nat) (nb : Bool) (sz : Nat)

inductive V where
  | any
  | at (v : Value)
  | agg (fs : List V)
  | tup (vs : List V)
  | lst (tg : Tag) (es : List V)
  | rptr (x : V)
  | iface (t : TypeId) (x : V)
  | clo (fn : Fn) (caps : List V)

instance : Inhabited V := ⟨.any⟩

/-- One cell holds it. -/
def one : Value → Bool
  | .agg _ | .tuple _ => false
  | _ => true

/-- It is one cell. -/
def V.isOne : V → Bool
  | .any | .agg _ | .tup _ => false
  | _ => true
def V.isAgg : V → Bool
  | .agg _ => true
  | _ => false
/-- Its cells. -/
def V.flat : V → List V
  | .agg fs => fs
  | x => [x]

mutual
def V.size : V → Nat
  | .agg fs => sizes fs
  | _ => 1
def sizes : List V → Nat
  | [] => 0
  | x :: xs => x.size + sizes xs
end

/-- Ghost facts: how many cells of a block stay as they are; what a name of a growing slice stands for (nil, or its block, its capacity, how many it has). -/
structure Gh where
  wm : Nat → Nat
  tb : Nat → Option (Option (Nat × Nat × Nat × Nat))

/-- The same without names: within data nothing grows. -/
def Gh.bare (g : Gh) : Gh := ⟨g.wm, fun _ => none⟩

def pack : V → List Value → Value
  | .agg _, us => .agg us.toArray
  | _, us => us.headD undef

/-- The cells us lie in w from b, o on, and stay. -/
def At (g : Gh) (w : World) (b o : Nat) (us : List Value) : Prop :=
  ∀ (k : Nat) u, us[k]? = some u → w.cell? ⟨b, o + k, none⟩ = some u ∧ o + k < g.wm b

def TagOk (g : Gh) (nes : Nat) (b o cap : Nat) : Tag → Prop
  | .nil => False
  | .no => True
  | .own t nb sz => g.tb t = some (some (b, cap, nes, sz)) ∧ o = 0 ∧ (nb = true → nes ≠ 0)

def NilOk (g : Gh) : Tag → Prop
  | .nil => True
  | .no => False
  | .own t nb _ => g.tb t = some none ∧ nb = true

def Unif (tg : Tag) (es : List V) : Prop :=
  ∃ sz, (∀ x ∈ es, x.size = sz) ∧ (∀ t nb s, tg = .own t nb s → s = sz ∨ es = [])

mutual
/-- The cells of an abstract value. -/
def RC (g : Gh) (w : World) : V → List Value → Prop
  | .any, _ => False
  | .at v, us => us = [v] ∧ one v = true
  | .agg fs, us => RCs g w fs us
  | .tup _, _ => False
  | .lst tg es, us =>
      (es = [] ∧ us = [.slice none 0 0] ∧ NilOk g tg) ∨
      (∃ b o cap ds, us = [.slice (some ⟨b, o, none⟩) es.length cap] ∧ es.length ≤ cap ∧ TagOk g es.length b o cap tg ∧ RCs g.bare w es ds ∧ Unif tg es ∧ At g w b o ds)
  | .rptr x, us => ∃ b o ds, us = [.pointer (some ⟨b, o, none⟩)] ∧ RC g.bare w x ds ∧ At g w b o ds
  | .iface t x, us => ∃ ds, RC g.bare w x ds ∧ us = [.iface t (pack x ds)]
  | .clo fn caps, us => ∃ ds, RCs g.bare w caps ds ∧ us = [.func fn #[] ds.toArray]
def RCs (g : Gh) (w : World) : List V → List Value → Prop
  | [], us => us = []
  | x :: xs, us => ∃ u1 u2, us = u1 ++ u2 ∧ RC g w x u1 ∧ RCs g w xs u2
end

mutual
theorem RC_length (g : Gh) (w : World) : ∀ x us, RC g w x us → us.length = x.size
  | .any, us, h => by simp [RC] at h
  | .at v, us, h => by simp [RC] at h; simp [h.1, V.size]
  | .agg fs, us, h => by simp only [RC] at h; simp only [V.size]; exact RCs_length g w fs us h
  | .tup _, us, h => by simp [RC] at h
  | .lst tg es, us, h => by
      simp only [RC] at h
      rcases h with ⟨_, rfl, _⟩ | ⟨b, o, cap, ds, rfl, _⟩ <;> simp [V.size]
  | .rptr x, us, h => by simp only [RC] at h; obtain ⟨b, o, ds, rfl, _⟩ := h; simp [V.size]
  | .iface t x, us, h => by simp only [RC] at h; obtain ⟨ds, _, rfl⟩ := h; simp [V.size]
  | .clo fn caps, us, h => by simp only [RC] at h; obtain ⟨ds, _, rfl⟩ := h; simp [V.size]
theorem RCs_length (g : Gh) (w : World) : ∀ xs us, RCs g w xs us → us.length = sizes xs
  | [], us, h => by simp only [RCs] at h; simp [h, sizes]
  | x :: xs, us, h => by
      simp only [RCs] at h
      obtain ⟨u1, u2, rfl, h1, h2⟩ := h
      have e1 := RC_length g w x u1 h1
      have e2 := RCs_length g w xs u2 h2
      simp [sizes, e1, e2]
end

/-- What may turn: new ghost names, more cells that stay; what stays has stayed. -/
structure Later (g : Gh) (w : World) (g' : Gh) (w' : World) : Prop where
  wm : ∀ b, g.wm b ≤ g'.wm b
  tb : ∀ t x, g.tb t = some x → g'.tb t = some x
  cell : ∀ b o, o < g.wm b → w'.cell? ⟨b, o, none⟩ = w.cell? ⟨b, o, none⟩

theorem Later.refl (g : Gh) (w : World) : Later g w g w := ⟨fun _ => Nat.le_refl _, fun _ _ h => h, fun _ _ _ => rfl⟩

theorem Later.trans {g g1 g2 : Gh} {w w1 w2 : World} (h : Later g w g1 w1) (h' : Later g1 w1 g2 w2) : Later g w g2 w2 :=
  ⟨fun b => Nat.le_trans (h.wm b) (h'.wm b), fun t x e => h'.tb t x (h.tb t x e),
   fun b o ho => (h'.cell b o (Nat.lt_of_lt_of_le ho (h.wm b))).trans (h.cell b o ho)⟩

theorem Later.bare {g g' : Gh} {w w' : World} (l : Later g w g' w') : Later g.bare w g'.bare w' := ⟨l.wm, (fun _ _ h => nomatch h), l.cell⟩

theorem At.later {g g' : Gh} {w w' : World} (l : Later g w g' w') {b o : Nat} {us : List Value} (h : At g w b o us) : At g' w' b o us :=
  fun k u hk => let ⟨h1, h2⟩ := h k u hk; ⟨(l.cell b _ h2).trans h1, Nat.lt_of_lt_of_le h2 (l.wm b)⟩

mutual
theorem RC_later {g g' : Gh} {w w' : World} (l : Later g w g' w') : ∀ x us, RC g w x us → RC g' w' x us
  | .any, us, h => by simp [RC] at h
  | .at v, us, h => by simpa [RC] using h
  | .agg fs, us, h => by simp only [RC] at h ⊢; exact RCs_later l fs us h
  | .tup _, us, h => by simp [RC] at h
  | .lst tg es, us, h => by
      simp only [RC] at h ⊢
      rcases h with ⟨he, hu, hn⟩ | ⟨b, o, cap, ds, hu, hc, ht, hr, hf, ha⟩
      · refine .inl ⟨he, hu, ?_⟩
        cases tg with
        | nil => exact hn
        | no => exact hn
        | own t nb s => exact ⟨l.tb _ _ hn.1, hn.2⟩
      · refine .inr ⟨b, o, cap, ds, hu, hc, ?_, RCs_later l.bare es ds hr, hf, ha.later l⟩
        cases tg with
        | nil => exact ht
        | no => exact ht
        | own t nb s => exact ⟨l.tb _ _ ht.1, ht.2⟩
  | .rptr x, us, h => by
      simp only [RC] at h ⊢
      obtain ⟨b, o, ds, hu, hr, ha⟩ := h
      exact ⟨b, o, ds, hu, RC_later l.bare x ds hr, ha.later l⟩
  | .iface t x, us, h => by
      simp only [RC] at h ⊢
      obtain ⟨ds, hr, hu⟩ := h
      exact ⟨ds, RC_later l.bare x ds hr, hu⟩
  | .clo fn caps, us, h => by
      simp only [RC] at h ⊢
      obtain ⟨ds, hr, hu⟩ := h
      exact ⟨ds, RCs_later l.bare caps ds hr, hu⟩
theorem RCs_later {g g' : Gh} {w w' : World} (l : Later g w g' w') : ∀ xs us, RCs g w xs us → RCs g' w' xs us
  | [], us, h => by simpa [RCs] using h
  | x :: xs, us, h => by
      simp only [RCs] at h ⊢
      obtain ⟨u1, u2, rfl, h1, h2⟩ := h
      exact ⟨u1, u2, rfl, RC_later l x u1 h1, RCs_later l xs u2 h2⟩
end

mutual
/-- What holds without names holds with them. -/
theorem RC_named (g : Gh) (w : World) : ∀ x us, RC g.bare w x us → RC g w x us
  | .any, us, h => by simp [RC] at h
  | .at v, us, h => by simpa [RC] using h
  | .agg fs, us, h => by simp only [RC] at h ⊢; exact RCs_named g w fs us h
  | .tup _, us, h => by simp [RC] at h
  | .lst tg es, us, h => by
      simp only [RC] at h ⊢
      rcases h with ⟨he, hu, hn⟩ | ⟨b, o, cap, ds, hu, hc, ht, hr, hf, ha⟩
      · refine .inl ⟨he, hu, ?_⟩
        cases tg with
        | nil => exact hn
        | no => exact hn
        | own t nb s => cases hn.1
      · refine .inr ⟨b, o, cap, ds, hu, hc, ?_, hr, hf, ha⟩
        cases tg with
        | nil => exact ht
        | no => exact ht
        | own t nb s => cases ht.1
  | .rptr x, us, h => by simp only [RC] at h ⊢; exact h
  | .iface t x, us, h => by simp only [RC] at h ⊢; exact h
  | .clo fn caps, us, h => by simp only [RC] at h ⊢; exact h
theorem RCs_named (g : Gh) (w : World) : ∀ xs us, RCs g.bare w xs us → RCs g w xs us
  | [], us, h => by simpa [RCs] using h
  | x :: xs, us, h => by
      simp only [RCs] at h ⊢
      obtain ⟨u1, u2, rfl, h1, h2⟩ := h
      exact ⟨u1, u2, rfl, RC_named g w x u1 h1, RCs_named g w xs u2 h2⟩
end

/-- A value in a slot. -/
def RV1 (g : Gh) (w : World) (x : V) (u : Value) : Prop := ∃ us, RC g w x us ∧ u = pack x us

inductive RVs (g : Gh) (w : World) : List V → List Value → Prop where
  | nil : RVs g w [] []
  | cons {x u xs us} (h : RV1 g w x u) (hs : RVs g w xs us) : RVs g w (x :: xs) (u :: us)

def RV (g : Gh) (w : World) : V → Value → Prop
  | .any, _ => True
  | .tup vs, u => ∃ us, RVs g w vs us ∧ u = .tuple us.toArray
  | x, u => RV1 g w x u

theorem RV1.later {g g' : Gh} {w w' : World} (l : Later g w g' w') {x : V} {u : Value} (h : RV1 g w x u) : RV1 g' w' x u :=
  let ⟨us, h1, h2⟩ := h; ⟨us, RC_later l x us h1, h2⟩

theorem RVs.later {g g' : Gh} {w w' : World} (l : Later g w g' w') {xs : List V} {us : List Value} (h : RVs g w xs us) : RVs g' w' xs us := by
  induction h with
  | nil => exact .nil
  | cons h _ ih => exact .cons (h.later l) ih

theorem RV.later {g g' : Gh} {w w' : World} (l : Later g w g' w') {x : V} {u : Value} (h : RV g w x u) : RV g' w' x u := by
  cases x with
  | any => trivial
  | tup vs => obtain ⟨us, h1, h2⟩ := h; exact ⟨us, h1.later l, h2⟩
  | _ => exact RV1.later l h

theorem RV.of_RV1 {g : Gh} {w : World} {x : V} {u : Value} (h : RV1 g w x u) : RV g w x u := by
  cases x with
  | any => trivial
  | tup vs => obtain ⟨us, h1, _⟩ := h; simp [RC] at h1
  | _ => exact h

theorem RVs.get {g : Gh} {w : World} {xs : List V} {us : List Value} (h : RVs g w xs us) : ∀ (i : Nat) x, xs[i]? = some x → ∃ u, us[i]? = some u ∧ RV1 g w x u := by
  induction h with
  | nil => intro i x hx; simp at hx
  | cons h _ ih =>
    intro i x hx
    cases i with
    | zero => simp at hx; subst hx; exact ⟨_, by simp, h⟩
    | succ i => simpa using ih i x (by simpa using hx)

theorem RVs.length {g : Gh} {w : World} {xs : List V} {us : List Value} (h : RVs g w xs us) : us.length = xs.length := by
  induction h with
  | nil => rfl
  | cons _ _ ih => simp [ih]

end Go.Al
