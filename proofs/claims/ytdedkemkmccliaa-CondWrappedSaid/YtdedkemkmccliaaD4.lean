/-
  DEN, part 4: stores that answer one another; the operations on memory. General: no program in sight.
-/
import Derived.Test.YtdedkemkmccliaaD3
set_option linter.unusedVariables false
set_option linter.unusedSimpArgs false
namespace Go.Den
open Go.Al

section
variable {U : TyU} {C : Cod U} {P : Program} {Tb : TypeId → TD U} {R : Type} {r : R} {N : NM}

def trB (C : Cod U) (N : NM) (l : Nat) : Bx U → List V × Nat
  | .st cs => (cs.map (trT C N), cs.length)
  | .ar i xs => (flats (xs.map (C.encV i)), N.cp l * C.cells i)

def wfB (C : Cod U) (N : NM) (nl nx l : Nat) : Bx U → Prop
  | .st cs => bdds nl nx cs = true ∧ oneAll cs = true
  | .ar i xs => N.sz l = C.cells i ∧ xs.length ≤ N.cp l

/-- A typed store and an abstract one. -/
structure SSim (C : Cod U) (N : NM) (st : St U) (s : S) : Prop where
  box : ∀ l b, lk st.bx l = some b → Al.look s.box (N.bl l) = some (trB C N l b)
  lt : ∀ l b, lk st.bx l = some b → l < st.nl
  wf : ∀ l b, lk st.bx l = some b → wfB C N st.nl st.nx l b
  inj : ∀ l l' b b', lk st.bx l = some b → lk st.bx l' = some b' → N.bl l = N.bl l' → l = l'
  tgIn : ∀ t ∈ st.tg, N.tk t ∈ s.tg
  tgInj : ∀ t ∈ st.tg, ∀ t' ∈ st.tg, N.tk t = N.tk t' → t = t'
  tgLt : ∀ t ∈ st.tg, t < st.nx
  nm : ∀ t ∈ st.tg, N.tk t < s.nx

/-- A typed frame and an abstract one. -/
def ESim (C : Cod U) (N : NM) (st : St U) (e : En U) (E : Env) : Prop := ∀ k, VR C N (eget e k) (E.get k) ∧ bdd st.nl st.nx (eget e k) = true

/-- How a store has turned. -/
structure Turn (N : NM) (st : St U) (N' : NM) (st' : St U) : Prop where
  ext : Ext st.nl st.nx N N'
  nl : st.nl ≤ st'.nl
  nx : st.nx ≤ st'.nx

theorem Turn.refl (N : NM) (st : St U) : Turn N st N st := ⟨.refl _ _ _, Nat.le_refl _, Nat.le_refl _⟩
theorem Turn.trans {N N1 N2 : NM} {st st1 st2 : St U} (h : Turn N st N1 st1) (h' : Turn N1 st1 N2 st2) : Turn N st N2 st2 :=
  ⟨h.ext.trans h'.ext h.nl h.nx, Nat.le_trans h.nl h'.nl, Nat.le_trans h.nx h'.nx⟩

theorem ESim.turn {N N' : NM} {st st' : St U} {e : En U} {E : Env} (h : ESim C N st e E) (t : Turn N st N' st') : ESim C N' st' e E := fun k => by
  obtain ⟨h1, h2⟩ := h k
  exact ⟨h1.imp id fun h => by rw [h, trT_ext C t.ext _ h2], bdd_mono t.nl t.nx _ h2⟩

theorem beq_ne {a b : Nat} (h : a ≠ b) : Nat.beq a b = false := by
  cases e : Nat.beq a b with
  | false => rfl
  | true => exact absurd (Nat.eq_of_beq_eq_true e) h

theorem ESim.put {st : St U} {e : En U} {E : Env} (h : ESim C N st e E) {v : T U} {v' : V} (hv : VR C N v v') (hb : bdd st.nl st.nx v = true) (d : Option Nat) : ESim C N st (eput e d v) (E.putO d v') := fun k => by
  cases d with
  | none => exact h k
  | some t =>
    simp only [eput, eget, Env.putO, Env.get_put]
    by_cases hk : t = k
    · subst hk
      simpa using ⟨hv, hb⟩
    · have : Nat.beq t k = false := beq_ne hk
      simpa [this, hk] using h k

theorem ESim.ev {st : St U} {e : En U} {E : Env} (h : ESim C N st e E) (x : Operand) : VR C N (evT e x) (E.ev x) := by
  cases x with
  | tmp t => exact (h t).1
  | const v => exact .inr (cT_tr C N v).symm
  | global g => exact .inr rfl
  | func f => exact .inr rfl

/-- What an operation's result has to lead to. -/
def Kok (C : Cod U) (N : NM) (st : St U) (K : V → S → Prop) (k : T U → St U → Option R) (r : R) : Prop :=
  ∀ N' st' s' v v', k v st' = some r → Turn N st N' st' → SSim C N' st' s' → VR C N' v v' → K v' s'

theorem hasN_mem : ∀ {l : List Nat} {t : Nat}, hasN l t = true → t ∈ l
  | [], _, h => by simp [hasN] at h
  | k :: r, t, h => by
    simp only [hasN] at h
    by_cases e : k = t
    · subst e; simp
    · have : Nat.beq k t = false := beq_ne e
      simp only [this, cond_false] at h
      exact List.mem_cons_of_mem _ (hasN_mem h)
theorem rmN_mem : ∀ {l : List Nat} {t x : Nat}, x ∈ rmN l t → x ∈ l ∧ x ≠ t
  | [], _, _, h => by simp [rmN] at h
  | k :: r, t, x, h => by
    simp only [rmN] at h
    by_cases e : k = t
    · have : Nat.beq k t = true := by simpa using e
      simp only [this, cond_true] at h
      have := rmN_mem h
      exact ⟨List.mem_cons_of_mem _ this.1, this.2⟩
    · have hb : Nat.beq k t = false := beq_ne e
      simp only [hb, cond_false, List.mem_cons] at h
      rcases h with rfl | h
      · exact ⟨by simp, e⟩
      · have := rmN_mem h
        exact ⟨List.mem_cons_of_mem _ this.1, this.2⟩

theorem lk_cons (k : Nat) (b : Option (Bx U)) (r : List (Nat × Option (Bx U))) (l : Nat) : lk ((k, b) :: r) l = if k = l then b else lk r l := by
  by_cases e : k = l
  · have : Nat.beq k l = true := by simpa using e
    simp [lk, this, e]
  · have : Nat.beq k l = false := beq_ne e
    simp [lk, this, e]

/-- N with one place more. -/
def NM.loc (N : NM) (l b c z : Nat) : NM := ⟨fun j => if j = l then b else N.bl j, fun j => if j = l then c else N.cp j, fun j => if j = l then z else N.sz j, N.tk⟩
theorem NM.ext_loc (N : NM) (l nx b c z : Nat) : Ext l nx N (N.loc l b c z) :=
  ⟨fun j hj => if_neg (by omega), fun j hj => if_neg (by omega), fun j hj => if_neg (by omega), fun _ _ => rfl⟩
/-- N with one token more. -/
def NM.tok (N : NM) (t n : Nat) : NM := ⟨N.bl, N.cp, N.sz, fun j => if j = t then n else N.tk j⟩
theorem NM.ext_tok (N : NM) (nl t n : Nat) : Ext nl t N (N.tok t n) := ⟨fun _ _ => rfl, fun _ _ => rfl, fun _ _ => rfl, fun j hj => if_neg (by omega)⟩

theorem map_tr_ext {nl nx : Nat} {N N' : NM} (h : Ext nl nx N N') {l : List (T U)} (hb : bdds nl nx l = true) : l.map (trT C N') = l.map (trT C N) := by
  rw [← trTs_map, ← trTs_map, trTs_ext C h l hb]

/-- A box read under more names. -/
theorem trB_ext {st : St U} {s : S} (hs : SSim C N st s) {nl nx : Nat} {N' : NM} (h : Ext nl nx N N') (h1 : st.nl ≤ nl) (h2 : st.nx ≤ nx) {l : Nat} {b : Bx U} (hl : lk st.bx l = some b) : trB C N' l b = trB C N l b := by
  have hlt := hs.lt l b hl
  have hw := hs.wf l b hl
  cases b with
  | st cs => simp only [trB]; rw [map_tr_ext (h.less h1 h2) hw.1]
  | ar i xs => simp only [trB]; rw [h.cp l (by omega)]
theorem wfB_ext {nl nx nl' nx' : Nat} {N N' : NM} (h : Ext nl nx N N') (h1 : nl ≤ nl') (h2 : nx ≤ nx') {l : Nat} (hl : l < nl) {b : Bx U} (hw : wfB C N nl nx l b) : wfB C N' nl' nx' l b := by
  cases b with
  | st cs => exact ⟨bdds_mono h1 h2 _ hw.1, hw.2⟩
  | ar i xs => exact ⟨(h.sz l hl).trans hw.1, by rw [h.cp l hl]; exact hw.2⟩

/-- A NEW BOX. -/
theorem SSim.newBox {st : St U} {s : S} (hs : SSim C N st s) {b c z : Nat} {bx : Bx U} (hb : Al.look s.box b = none) (hw : wfB C (N.loc st.nl b c z) (st.nl + 1) st.nx st.nl bx) :
    SSim C (N.loc st.nl b c z) ⟨(st.nl, some bx) :: st.bx, st.tg, st.nl + 1, st.nx⟩ ⟨lay s.box b (trB C (N.loc st.nl b c z) st.nl bx), s.tg, s.nx⟩ := by
  have hext := N.ext_loc st.nl st.nx b c z
  have hbl : ∀ l, l < st.nl → (N.loc st.nl b c z).bl l = N.bl l := hext.bl
  have hbn : (N.loc st.nl b c z).bl st.nl = b := if_pos rfl
  have hne : ∀ l b', lk st.bx l = some b' → b ≠ N.bl l := fun l b' hl e => by
    have := hs.box l b' hl
    rw [← e, hb] at this
    cases this
  refine ⟨?_, ?_, ?_, ?_, hs.tgIn, hs.tgInj, hs.tgLt, hs.nm⟩
  · intro l b' hl
    rw [lk_cons] at hl
    by_cases e : st.nl = l
    · rw [if_pos e] at hl
      injection hl with hl
      subst hl; subst e
      show Al.look (lay s.box b _) _ = _
      rw [hbn, look_lay, if_pos rfl]
    · rw [if_neg e] at hl
      have hlt := hs.lt l b' hl
      show Al.look (lay s.box b _) _ = _
      rw [hbl l hlt, look_lay, if_neg (hne l b' hl), hs.box l b' hl, trB_ext hs hext (Nat.le_refl _) (Nat.le_refl _) hl]
  · intro l b' hl
    rw [lk_cons] at hl
    by_cases e : st.nl = l
    · show l < st.nl + 1; omega
    · rw [if_neg e] at hl
      have hlt := hs.lt l b' hl
      show l < st.nl + 1; omega
  · intro l b' hl
    rw [lk_cons] at hl
    by_cases e : st.nl = l
    · rw [if_pos e] at hl
      injection hl with hl
      subst hl; subst e
      exact hw
    · rw [if_neg e] at hl
      exact wfB_ext hext (Nat.le_succ _) (Nat.le_refl _) (hs.lt l b' hl) (hs.wf l b' hl)
  · intro l l' b1 b2 h1 h2 he
    rw [lk_cons] at h1 h2
    by_cases e : st.nl = l
    · by_cases e' : st.nl = l'
      · omega
      · rw [if_neg e'] at h2
        subst e
        rw [hbn, hbl l' (hs.lt l' b2 h2)] at he
        exact absurd he (hne l' b2 h2)
    · rw [if_neg e] at h1
      by_cases e' : st.nl = l'
      · subst e'
        rw [hbn, hbl l (hs.lt l b1 h1)] at he
        exact absurd he.symm (hne l b1 h1)
      · rw [if_neg e'] at h2
        rw [hbl l (hs.lt l b1 h1), hbl l' (hs.lt l' b2 h2)] at he
        exact hs.inj l l' b1 b2 h1 h2 he

/-- A box goes. -/
theorem SSim.drop {st : St U} {s : S} (hs : SSim C N st s) (l0 : Nat) {b0 : Bx U} (h0 : lk st.bx l0 = some b0) : SSim C N ⟨(l0, none) :: st.bx, st.tg, st.nl, st.nx⟩ ⟨wipe s.box (N.bl l0), s.tg, s.nx⟩ := by
  have key : ∀ l b, lk ((l0, none) :: st.bx) l = some b → l ≠ l0 ∧ lk st.bx l = some b := fun l b hl => by
    rw [lk_cons] at hl
    by_cases e : l0 = l
    · rw [if_pos e] at hl; cases hl
    · rw [if_neg e] at hl; exact ⟨fun e' => e e'.symm, hl⟩
  refine ⟨fun l b hl => ?_, fun l b hl => hs.lt l b (key l b hl).2, fun l b hl => hs.wf l b (key l b hl).2, fun l l' b b' h1 h2 he => hs.inj l l' b b' (key l b h1).2 (key l' b' h2).2 he, hs.tgIn, hs.tgInj, hs.tgLt, hs.nm⟩
  obtain ⟨h1, h2⟩ := key l b hl
  show Al.look (wipe s.box _) _ = _
  rw [look_wipe, if_neg (fun e => h1 (hs.inj l l0 b b0 h2 h0 e.symm)), hs.box l b h2]

/-- A box is written. -/
theorem SSim.setBox {st : St U} {s : S} (hs : SSim C N st s) {l0 : Nat} {b0 b1 : Bx U} (h0 : lk st.bx l0 = some b0) (hw : wfB C N st.nl st.nx l0 b1) :
    SSim C N ⟨(l0, some b1) :: st.bx, st.tg, st.nl, st.nx⟩ ⟨lay s.box (N.bl l0) (trB C N l0 b1), s.tg, s.nx⟩ := by
  have key : ∀ l b, lk ((l0, some b1) :: st.bx) l = some b → (l = l0 ∧ b = b1) ∨ (l ≠ l0 ∧ lk st.bx l = some b) := fun l b hl => by
    rw [lk_cons] at hl
    by_cases e : l0 = l
    · rw [if_pos e] at hl; injection hl with hl; exact .inl ⟨e.symm, hl.symm⟩
    · rw [if_neg e] at hl; exact .inr ⟨fun e' => e e'.symm, hl⟩
  have any : ∀ l b, lk ((l0, some b1) :: st.bx) l = some b → ∃ b', lk st.bx l = some b' := fun l b hl => by
    rcases key l b hl with ⟨rfl, _⟩ | ⟨_, h⟩
    · exact ⟨_, h0⟩
    · exact ⟨_, h⟩
  refine ⟨fun l b hl => ?_, fun l b hl => ?_, fun l b hl => ?_, fun l l' b b' h1 h2 he => ?_, hs.tgIn, hs.tgInj, hs.tgLt, hs.nm⟩
  · show Al.look (lay s.box _ _) _ = _
    rcases key l b hl with ⟨rfl, rfl⟩ | ⟨h1, h2⟩
    · rw [look_lay, if_pos rfl]
    · rw [look_lay, if_neg (fun e => h1 (hs.inj l l0 b b0 h2 h0 e.symm)), hs.box l b h2]
  · obtain ⟨b', h⟩ := any l b hl
    exact hs.lt l b' h
  · rcases key l b hl with ⟨rfl, rfl⟩ | ⟨h1, h2⟩
    · exact hw
    · exact hs.wf l b h2
  · obtain ⟨x, hx⟩ := any l b h1
    obtain ⟨y, hy⟩ := any l' b' h2
    exact hs.inj l l' x y hx hy he

/-- A NEW TOKEN, in the place of others. -/
theorem SSim.newTok {st : St U} {s : S} (hs : SSim C N st s) {n : Nat} {tg : List Nat} {tg' : List Nat} {x : Nat} (h1 : ∀ t ∈ tg, t ∈ st.tg) (h2 : ∀ t ∈ tg, N.tk t ∈ tg') (h3 : ∀ t ∈ tg, N.tk t ≠ n) (h4 : s.nx ≤ x) (h5 : n < x) :
    SSim C (N.tok st.nx n) ⟨st.bx, st.nx :: tg, st.nl, st.nx + 1⟩ ⟨s.box, n :: tg', x⟩ := by
  have hext := N.ext_tok st.nl st.nx n
  have htk : ∀ t, t < st.nx → (N.tok st.nx n).tk t = N.tk t := hext.tk
  have htn : (N.tok st.nx n).tk st.nx = n := if_pos rfl
  refine ⟨fun l b hl => ?_, hs.lt, fun l b hl => ?_, fun l l' b b' q1 q2 he => hs.inj l l' b b' q1 q2 he, ?_, ?_, ?_, ?_⟩
  · rw [trB_ext hs hext (Nat.le_refl _) (Nat.le_refl _) hl]
    exact hs.box l b hl
  · exact wfB_ext hext (Nat.le_refl _) (Nat.le_succ _) (hs.lt l b hl) (hs.wf l b hl)
  · intro t ht
    rcases List.mem_cons.1 ht with rfl | ht
    · rw [htn]; simp
    · rw [htk t (hs.tgLt t (h1 t ht))]
      exact List.mem_cons_of_mem _ (h2 t ht)
  · intro t ht t' ht' he
    rcases List.mem_cons.1 ht with rfl | ht
    · rcases List.mem_cons.1 ht' with rfl | ht'
      · rfl
      · rw [htn, htk t' (hs.tgLt t' (h1 t' ht'))] at he
        exact absurd he.symm (h3 t' ht')
    · rcases List.mem_cons.1 ht' with rfl | ht'
      · rw [htn, htk t (hs.tgLt t (h1 t ht))] at he
        exact absurd he (h3 t ht)
      · rw [htk t (hs.tgLt t (h1 t ht)), htk t' (hs.tgLt t' (h1 t' ht'))] at he
        exact hs.tgInj t (h1 t ht) t' (h1 t' ht') he
  · intro t ht
    show t < st.nx + 1
    rcases List.mem_cons.1 ht with rfl | ht
    · omega
    · have := hs.tgLt t (h1 t ht); omega
  · intro t ht
    show _ < x
    rcases List.mem_cons.1 ht with rfl | ht
    · rw [htn]; exact h5
    · rw [htk t (hs.tgLt t (h1 t ht))]
      have := hs.nm t (h1 t ht); omega

theorem elsOk_map (hC : CodOk C) (i : U.I) (xs : List (U.den i)) : elsOk (C.cells i) (xs.map (C.encV i)) := fun x hx => by
  obtain ⟨y, _, rfl⟩ := List.mem_map.1 hx
  exact hC.size i y

theorem flats_length (hC : CodOk C) (i : U.I) : ∀ xs : List (U.den i), (flats (xs.map (C.encV i))).length = xs.length * C.cells i
  | [] => by simp [flats]
  | x :: r => by
    have h1 := hC.size i x
    have h2 := hC.ones i x
    have h3 : (C.encV i x).flat.length = C.cells i := by
      rw [← h1]
      cases hx : C.encV i x with
      | agg fs => rw [hx] at h2; simp only [V.flat] at h2 ⊢; simp only [V.size, sizes_one h2]
      | _ => simp [V.flat, V.size]
    simp only [List.map_cons, flats, List.length_append, flats_length hC i r, h3, List.length_cons, Nat.add_mul]
    omega
theorem flat_length (hC : CodOk C) (i : U.I) (x : U.den i) : (C.encV i x).flat.length = C.cells i := by
  have := flats_length hC i [x]
  simpa [flats] using this

theorem flats_append (a b : List V) : flats (a ++ b) = flats a ++ flats b := by
  induction a with
  | nil => rfl
  | cons x r ih => simp [flats, ih]

theorem flats_ones (hC : CodOk C) (i : U.I) : ∀ xs : List (U.den i), allOne (flats (xs.map (C.encV i)))
  | [] => rfl
  | x :: r => by
    simp only [List.map_cons, flats]
    exact allOne_append (hC.ones i x) (flats_ones hC i r)

theorem flats_take (hC : CodOk C) (i : U.I) : ∀ (xs : List (U.den i)) (n : Nat), (flats (xs.map (C.encV i))).take (n * C.cells i) = flats ((xs.take n).map (C.encV i))
  | [], n => by simp [flats]
  | x :: r, 0 => by simp [flats]
  | x :: r, n + 1 => by
    have h := flat_length hC i x
    have e : (n + 1) * C.cells i = (C.encV i x).flat.length + n * C.cells i := by rw [h, Nat.add_mul]; omega
    simp only [List.map_cons, flats, List.take_succ_cons]
    rw [e, List.take_length_add_append, flats_take hC i r n]
theorem flats_drop (hC : CodOk C) (i : U.I) : ∀ (xs : List (U.den i)) (n : Nat), (flats (xs.map (C.encV i))).drop (n * C.cells i) = flats ((xs.drop n).map (C.encV i))
  | [], n => by simp [flats]
  | x :: r, 0 => by simp [flats]
  | x :: r, n + 1 => by
    have h := flat_length hC i x
    have e : (n + 1) * C.cells i = (C.encV i x).flat.length + n * C.cells i := by rw [h, Nat.add_mul]; omega
    simp only [List.map_cons, flats, List.drop_succ_cons]
    rw [e, List.drop_length_add_append, flats_drop hC i r n]

theorem dIndexAddr_ok (hT : TbOk C P Tb) (hC : CodOk C) {st : St U} {s : S} (hs : SSim C N st s) {t : TypeId} {x n : T U} {xv nv : V} {K : V → Prop} {k : T U → Option R} (hx : VR C N x xv) (hn : VR C N n nv)
    (h : dIndexAddr C Tb st t x n k = some r) (hK : ∀ v, k v = some r → K (trT C N v)) : aIndexAddr P t xv nv K := by
  unfold dIndexAddr at h
  obtain ⟨i, el, hh, h1, h2, h3, h4⟩ := codeEl_ok hT h
  clear h
  have h := hh
  clear hh
  simp only at h
  split at h
  · rename_i _ n'
    split at h
    · rename_i m j xs
      obtain ⟨h5, h6⟩ := bif_some h
      simp only [Bool.and_eq_true, decide_eq_true_eq] at h5
      obtain ⟨rfl, h5⟩ := h5
      have hb := inB_spec h5
      have hlt : n'.toNat < xs.length := by omega
      rw [hx.get (by simp), hn.get (by simp)]
      simp only [trT, aIndexAddr, h1, List.length_map]
      rw [getD_tr xs _ hlt (C.dflt j)]
      refine ⟨h2.has, hb, by rw [hC.size, h3], ?_⟩
      have := hK _ h6
      simp only [trT, hC.enc] at this
      exact this
    · rename_i l m
      split at h
      · rename_i j ys hl
        obtain ⟨h5, h6⟩ := bif_some h
        simp only [Bool.and_eq_true, decide_eq_true_eq] at h5
        obtain ⟨rfl, h5⟩ := h5
        have hb := inB_spec h5
        rw [hx.get (by simp), hn.get (by simp)]
        simp only [trT, aIndexAddr, h1]
        refine ⟨h2.has, hb, ?_⟩
        have := hK _ h6
        have hw := hs.wf l _ hl
        simp only [trT, hw.1, Nat.add_zero, h3] at this
        simpa using this
      · cases h
    · cases h
  · cases h

theorem part_of_el (hC : CodOk C) (i : U.I) (xs : List (U.den i)) (a o z : Nat) (ha : a < xs.length) (hz : o + z ≤ C.cells i) :
    (((flats (xs.map (C.encV i))).drop (a * C.cells i + o)).take z = ((C.encV i (xs.getD a (C.dflt i))).flat.drop o).take z) ∧
    (o < C.cells i → (flats (xs.map (C.encV i))).getD (a * C.cells i + o) .any = (C.encV i (xs.getD a (C.dflt i))).flat.getD o .any) := by
  have h1 : (flats (xs.map (C.encV i))).drop (a * C.cells i) = (C.encV i (xs.getD a (C.dflt i))).flat ++ flats ((xs.drop (a + 1)).map (C.encV i)) := by
    rw [flats_drop hC, List.drop_eq_getElem_cons ha]
    simp only [List.map_cons, flats, List.getD_eq_getElem?_getD, List.getElem?_eq_getElem ha, Option.getD_some]
  have h2 := flat_length hC i (xs.getD a (C.dflt i))
  refine ⟨?_, fun ho => ?_⟩
  · rw [← List.drop_drop, h1, List.drop_append_of_le_length (by omega), List.take_append_of_le_length (by rw [List.length_drop]; omega)]
  · have e : (flats (xs.map (C.encV i))).getD (a * C.cells i + o) .any = ((flats (xs.map (C.encV i))).drop (a * C.cells i)).getD o .any := by
      simp only [List.getD_eq_getElem?_getD, List.getElem?_drop]
    rw [e, h1]
    rw [List.getD_eq_getElem?_getD (l := _ ++ _), List.getElem?_append_left (by omega), ← List.getD_eq_getElem?_getD]

theorem dLoad_ok (hT : TbOk C P Tb) (hC : CodOk C) {st : St U} {s : S} (hs : SSim C N st s) {t : TypeId} {x : T U} {xv : V} {K : V → Prop} {k : T U → Option R} (hx : VR C N x xv)
    (h : dLoad C Tb st t x k = some r) (hK : ∀ v, k v = some r → K (trT C N v)) : aLoad P s t xv K := by
  unfold dLoad at h
  split at h
  · obtain ⟨h1, h2⟩ := bif_some h
    rw [hx.get (by simp)]
    exact ⟨fitsD_ok (fun hh => hT _ hh) h1, hK _ h2⟩
  · rename_i l o
    split at h
    · rename_i cs hl
      rw [hx.get (by simp)]
      simp only [trT, aLoad, hs.box l _ hl, trB]
      exact dPart_ok (fun hh => hT _ hh) h hK
    · cases h
  · rename_i l a o
    split at h
    · rename_i i xs hl
      obtain ⟨h1, h2⟩ := bif_some h
      simp only [Bool.and_eq_true, Nat.ble_eq] at h1
      have ha := blt_lt h1.2
      have hw := hs.wf l _ hl
      rw [hx.get (by simp)]
      simp only [trT, aLoad, hs.box l _ hl, trB, hw.1]
      rw [feL_eq] at h2
      obtain ⟨q1, q2⟩ := dPart_ok (P := P) (t := t) (fun hh => hT _ hh) h2 hK
      have e0 : (C.enc i (xs.getD a (C.dflt i))).flat.map (trT C N) = (C.encV i (xs.getD a (C.dflt i))).flat := by rw [← flat_tr, hC.enc]
      rw [e0] at q1 q2
      obtain ⟨p1, p2, p3⟩ := q1
      have hc : P.cellsOf t = (Tb t).cells := by
        have : (Tb t).has = true := by
          unfold dPart at h2
          have := (bif_some h2).1
          simp only [Bool.and_eq_true] at this
          exact this.1.1
        exact (hT t this).cells
      have hfl := flat_length hC i (xs.getD a (C.dflt i))
      have hlen := flats_length hC i xs
      have hmul : (a + 1) * C.cells i ≤ xs.length * C.cells i := Nat.mul_le_mul_right _ ha
      rw [Nat.add_mul, Nat.one_mul] at hmul
      have hpe := part_of_el hC i xs a o (P.cellsOf t) ha (by rw [hc]; exact h1.1)
      refine ⟨⟨p1, by omega, p3⟩, ?_⟩
      unfold partV at q2 ⊢
      split at q2
      · rename_i hag
        rw [if_pos hag, hpe.1]; exact q2
      · rename_i hag
        rw [if_neg hag, hpe.2 (by have := p3 (by simpa using hag); omega)]; exact q2
    · cases h
  · cases h

theorem dNew_ok {st : St U} {s : S} (hs : SSim C N st s) {cs : List (T U)} {cv : List V} (hcv : cs.map (trT C N) = cv) {K : V → S → Prop} {k : T U → St U → Option R} (h : dNew st cs k = some r) (hK : Kok C N st K k r) : aNew s cv K := by
  subst hcv
  unfold dNew at h
  obtain ⟨h1, h2⟩ := bif_some h
  simp only [Bool.and_eq_true] at h1
  refine ⟨(allOne_tr C N cs).2 h1.1, fun b hb => ?_⟩
  have hn := hs.newBox (b := b) (c := 0) (z := 0) (bx := .st cs) hb ⟨bdds_mono (Nat.le_succ _) (Nat.le_refl _) _ h1.2, h1.1⟩
  have hext := N.ext_loc st.nl st.nx b 0 0
  simp only [trB, map_tr_ext hext h1.2] at hn
  have := hK _ _ _ _ _ h2 ⟨hext, Nat.le_succ _, Nat.le_refl _⟩ hn (.inr rfl)
  simp only [trT] at this
  have e : (N.loc st.nl b 0 0).bl st.nl = b := if_pos rfl
  rw [e] at this
  simpa using this

theorem dStore_ok (hT : TbOk C P Tb) (hC : CodOk C) {st : St U} {s : S} (hs : SSim C N st s) {t : TypeId} {x y : T U} {xv yv : V} {K : S → Prop} {k : St U → Option R} (hx : VR C N x xv) (hy : VR C N y yv)
    (h : dStore C Tb st t x y k = some r) (hK : ∀ st' s', k st' = some r → Turn N st N st' → SSim C N st' s' → K s') : aStore P s t xv yv K := by
  unfold dStore at h
  rw [feL_eq] at h
  have hq := bif_some h
  clear h
  obtain ⟨h1, h⟩ := hq
  simp only [Bool.and_eq_true, Nat.beq_eq] at h1
  obtain ⟨⟨h1, h2⟩, h3⟩ := h1
  have hf := hT t h1
  have hyn : y ≠ .any := fun e => by subst e; simp [T.flat, oneAll, T.isOne] at h3
  have hyv := hy.get hyn
  subst hyv
  split at h
  · rename_i l o
    split at h
    · rename_i cs hl
      obtain ⟨h4, h5⟩ := bif_some h
      simp only [Bool.and_eq_true, Nat.ble_eq] at h4
      rw [feL_eq] at h5
      rw [hx.get (by simp)]
      simp only [trT, aStore, hs.box l _ hl, trB, flat_tr, List.length_map]
      refine ⟨hf.has, by rw [hf.cells]; exact h2, (allOne_tr C N _).2 h3, h4.1, ?_⟩
      have hw := hs.wf l _ hl
      have hlen : (splT cs o y.flat).length = cs.length := by simp [splT]; omega
      have hone : oneAll (splT cs o y.flat) = true := by
        have h1 := hw.2
        unfold oneAll at *
        rw [List.all_eq_true] at *
        intro z hz
        simp only [splT, List.mem_append] at hz
        rcases hz with (hz | hz) | hz
        · exact h1 z (List.mem_of_mem_take hz)
        · exact h3 z hz
        · exact h1 z (List.mem_of_mem_drop hz)
      have hbd : bdds st.nl st.nx (splT cs o y.flat) = true := by
        have key : ∀ l : List (T U), bdds st.nl st.nx l = true ↔ ∀ z ∈ l, bdd st.nl st.nx z = true := fun l => by
          induction l with
          | nil => simp [bdds]
          | cons a r ih => simp [bdds, ih]
        rw [key]
        intro z hz
        simp only [splT, List.mem_append] at hz
        rcases hz with (hz | hz) | hz
        · exact (key _).1 hw.1 z (List.mem_of_mem_take hz)
        · exact (key _).1 h4.2 z hz
        · exact (key _).1 hw.1 z (List.mem_of_mem_drop hz)
      have hn := hs.setBox (b1 := .st (splT cs o y.flat)) hl ⟨hbd, hone⟩
      simp only [trB, splT_tr, hlen] at hn
      exact hK _ _ h5 ⟨.refl _ _ _, Nat.le_refl _, Nat.le_refl _⟩ hn
    · cases h
  · rename_i l a o
    split at h
    · rename_i i xs hl
      obtain ⟨h4, h5⟩ := bif_some h
      simp only [Bool.and_eq_true, Nat.ble_eq] at h4
      obtain ⟨⟨hp, ho⟩, ha⟩ := h4
      have ha := blt_lt ha
      obtain ⟨x', h6, h7⟩ := hC.decP i _ _ _ hp h5
      have hw := hs.wf l _ hl
      rw [hx.get (by simp)]
      simp only [trT, aStore, hs.box l _ hl, trB, flat_tr, List.length_map, hw.1]
      have hlen := flats_length hC i xs
      have hfl := flat_length hC i (xs.getD a (C.dflt i))
      have hmul : (a + 1) * C.cells i ≤ xs.length * C.cells i := Nat.mul_le_mul_right _ ha
      rw [Nat.add_mul, Nat.one_mul] at hmul
      refine ⟨hf.has, by rw [hf.cells]; exact h2, (allOne_tr C N _).2 h3, by omega, ?_⟩
      have hn := hs.setBox (b1 := .ar i (xs.set a x')) hl ⟨hw.1, by rw [List.length_set]; exact hw.2⟩
      simp only [trB] at hn
      have e : spl (flats (xs.map (C.encV i))) (a * C.cells i + o) (y.flat.map (trT C N)) = flats ((xs.set a x').map (C.encV i)) := by
        have h8 := h7 N
        have e1 : (C.enc i (xs.getD a (C.dflt i))).flat.map (trT C N) = (C.encV i (xs.getD a (C.dflt i))).flat := by rw [← flat_tr, hC.enc]
        have e2 : (C.encV i x').flat = spl (C.encV i (xs.getD a (C.dflt i))).flat o (y.flat.map (trT C N)) := by
          rw [← h8, flat_tr, ← e1, ← splT_tr]
          unfold asEl
          cases hag : C.agg i with
          | true => rfl
          | false =>
            have h9 := hC.one i hag
            have h10 : (C.enc i (xs.getD a (C.dflt i))).flat.length = 1 := by
              have := congrArg List.length e1
              rw [List.length_map, hfl, h9] at this
              exact this
            have h11 : (splT (C.enc i (xs.getD a (C.dflt i))).flat o y.flat).length = 1 := by rw [splT, List.length_append, List.length_append, List.length_take, List.length_drop, h10]; omega
            match hq : splT (C.enc i (xs.getD a (C.dflt i))).flat o y.flat, h11 with
            | [z], _ =>
              simp only [cond_false, List.headD_cons]
              have : oneAll [z] = true := by
                rw [← hq]
                unfold oneAll
                rw [List.all_eq_true]
                intro u hu
                simp only [splT, List.mem_append] at hu
                have hones : oneAll (C.enc i (xs.getD a (C.dflt i))).flat = true := (allOne_tr C N _).1 (by rw [e1]; exact hC.ones i _)
                unfold oneAll at hones h3
                rw [List.all_eq_true] at hones h3
                rcases hu with (hu | hu) | hu
                · exact hones u (List.mem_of_mem_take hu)
                · exact h3 u hu
                · exact hones u (List.mem_of_mem_drop hu)
              cases z <;> simp [oneAll, T.isOne] at this <;> rfl
        have ex : xs.set a x' = xs.take a ++ x' :: xs.drop (a + 1) := by rw [List.set_eq_take_append_cons_drop, if_pos ha]
        rw [ex, List.map_append, flats_append, List.map_cons]
        simp only [flats]
        rw [e2]
        unfold spl
        rw [← flats_take hC, ← flats_drop hC]
        have d1 : (flats (xs.map (C.encV i))).take (a * C.cells i + o) = (flats (xs.map (C.encV i))).take (a * C.cells i) ++ (C.encV i (xs.getD a (C.dflt i))).flat.take o := by
          rw [List.take_add]
          congr 1
          have := (part_of_el hC i xs a 0 o ha (by omega)).1
          simpa using this
        have d2 : (flats (xs.map (C.encV i))).drop (a * C.cells i + o + (y.flat.map (trT C N)).length) = (C.encV i (xs.getD a (C.dflt i))).flat.drop (o + (y.flat.map (trT C N)).length) ++ (flats (xs.map (C.encV i))).drop ((a + 1) * C.cells i) := by
          have hd : (flats (xs.map (C.encV i))).drop (a * C.cells i) = (C.encV i (xs.getD a (C.dflt i))).flat ++ flats ((xs.drop (a + 1)).map (C.encV i)) := by
            rw [flats_drop hC, List.drop_eq_getElem_cons ha]
            simp only [List.map_cons, flats, List.getD_eq_getElem?_getD, List.getElem?_eq_getElem ha, Option.getD_some]
          rw [Nat.add_assoc, ← List.drop_drop, hd, List.drop_append_of_le_length (by rw [List.length_map]; omega), flats_drop hC]
        rw [d1, d2]
        simp
      rw [e]
      exact hK _ _ h6 ⟨.refl _ _ _, Nat.le_refl _, Nat.le_refl _⟩ hn
    · cases h
  · cases h

theorem sameC_ok {i j : U.I} {xs : List (U.den j)} {k : List (U.den i) → Option R} (h : sameC i j xs k = some r) : ∃ e : j = i, k (castL e xs) = some r := by
  unfold sameC at h
  split at h
  · rename_i e; exact ⟨e, h⟩
  · cases h

theorem okN_spec {b n : Nat} (h : okN b n = true) : n * b ≤ 140737488355328 ∧ n ≤ maxLen := by
  simpa [okN] using h

theorem zeroLen (hT : TbOk C P Tb) {el : TypeId} (hf : Facts C P el (Tb el)) (h : (match (Tb el).zero with | some z => Nat.beq z.length (Tb el).cells | none => false) = true) :
    (zeroC P el).isSome = true ∧ (zeroC P el).map List.length = some (P.cellsOf el) := by
  rw [hf.zero ⟨id, id, id, id⟩, hf.cells]
  split at h
  · rename_i z hz
    rw [hz]
    simp only [Nat.beq_eq] at h
    simp [h]
  · cases h

theorem dAppend_ok (hT : TbOk C P Tb) (hC : CodOk C) {L : Pol} {st : St U} {s : S} (hs : SSim C N st s) {dst : Option Nat} {t t2 : TypeId} {x y : T U} {xv yv : V} {K : V → S → Prop} {k : T U → St U → Option R}
    (hx : VR C N x xv) (hy : VR C N y yv) (h : dAppend Tb L.wr dst st t t2 x y k = some r) (hK : Kok C N st K k r) : aAppend P L dst s t t2 xv yv K := by
  unfold dAppend at h
  obtain ⟨i, el, hh, h1, h2, h3, h4⟩ := codeEl_ok hT h
  clear h
  have h := hh
  clear hh
  simp only at h
  have hq := bif_some h
  clear h
  obtain ⟨h5, h⟩ := hq
  simp only [Bool.and_eq_true, Nat.beq_eq] at h5
  obtain ⟨rfl, hz⟩ := h5
  have hz := (zeroLen hT h2 hz).2
  have hwd : wrD L.wr dst = (dst.map L.wr).getD false := by cases dst <;> rfl
  rw [hwd] at h
  split at h
  · rename_i m j ys'
    have hq := sameC_ok h; clear h; obtain ⟨rfl, h⟩ := hq
    simp only [castL] at h
    have hyv := hy.get (by simp)
    subst hyv
    simp only [trT, aAppend, h1]
    refine ⟨trivial, h2.has, hz, by rw [← h3]; exact hC.pos j, by rw [← h3]; exact elsOk_map hC j ys', ?_⟩
    split at h
    · have hq := bif_some h
      clear h
      obtain ⟨h6, h⟩ := hq
      have h6 := okN_spec h6
      rw [hx.get (by simp)]
      simp only [trT, List.length_map]
      refine ⟨by rw [h2.bytes]; exact h6.1, h6.2, ?_⟩
      split
      · rename_i hw
        rw [hw] at h
        simp only [cond_true] at h
        have hq := bif_some h
        clear h
        obtain ⟨h7, h⟩ := hq
        refine ⟨by cases ys' <;> simp at h7 ⊢, flats_ones hC j ys', fun b cap hb hcap => ?_⟩
        have hn := hs.newBox (b := b) (c := cap) (z := C.cells j) (bx := .ar j ys') hb ⟨if_pos rfl, by show _ ≤ if _ then _ else _; rw [if_pos rfl]; exact hcap⟩
        have hext := N.ext_loc st.nl st.nx b cap (C.cells j)
        have ec : (N.loc st.nl b cap (C.cells j)).cp st.nl = cap := if_pos rfl
        have eb : (N.loc st.nl b cap (C.cells j)).bl st.nl = b := if_pos rfl
        simp only [trB, ec] at hn
        have := hK _ _ _ _ _ h ⟨hext, Nat.le_succ _, Nat.le_refl _⟩ hn (.inr rfl)
        simp only [trT, ec, eb] at this
        rw [← h3]
        exact this
      · rename_i hw
        have hw : (Option.map L.wr dst).getD false = false := by simpa using hw
        rw [hw] at h
        simp only [cond_false] at h
        have hn := hs.newTok (n := s.nx) (tg := st.tg) (tg' := s.tg) (x := s.nx + 1) (fun _ h => h) hs.tgIn (fun t ht => Nat.ne_of_lt (hs.nm t ht)) (Nat.le_succ _) (Nat.lt_succ_self _)
        have := hK _ _ _ _ _ h ⟨N.ext_tok st.nl st.nx s.nx, Nat.le_refl _, Nat.le_succ _⟩ hn (.inr rfl)
        simp only [trT, trM] at this
        have e : (N.tok st.nx s.nx).tk st.nx = s.nx := if_pos rfl
        rw [e, h3] at this
        exact this
    · rename_i m' j' xs'
      split at h
      · rename_i tk nb
        have hq := sameC_ok h; clear h; obtain ⟨rfl, h⟩ := hq
        simp only [castL] at h
        have hq := bif_some h
        clear h
        obtain ⟨h6, h⟩ := hq
        simp only [Bool.and_eq_true] at h6
        have h7 := okN_spec h6.2
        have hm := hasN_mem h6.1
        rw [hx.get (by simp)]
        simp only [trT, trM, List.length_map]
        refine ⟨hs.tgIn _ hm, h3, by rw [h2.bytes]; exact h7.1, h7.2, ?_⟩
        have hn := hs.newTok (n := s.nx) (tg := rmN st.tg tk) (tg' := s.tg.erase (N.tk tk)) (x := s.nx + 1) (fun t ht => (rmN_mem ht).1) (fun t ht => by
          obtain ⟨q1, q2⟩ := rmN_mem ht
          exact (List.mem_erase_of_ne (fun e => q2 (hs.tgInj t q1 tk hm e))).2 (hs.tgIn t q1)) (fun t ht => Nat.ne_of_lt (hs.nm t (rmN_mem ht).1)) (Nat.le_succ _) (Nat.lt_succ_self _)
        have := hK _ _ _ _ _ h ⟨N.ext_tok st.nl st.nx s.nx, Nat.le_refl _, Nat.le_succ _⟩ hn (.inr rfl)
        simp only [trT, trM] at this
        have e : (N.tok st.nx s.nx).tk st.nx = s.nx := if_pos rfl
        rw [e, List.map_append] at this
        exact this
      · cases h
    · rename_i l n
      split at h
      · rename_i j' xs' hl
        have hq := sameC_ok h; clear h; obtain ⟨rfl, h⟩ := hq
        simp only [castL] at h
        have hq := bif_some h
        clear h
        obtain ⟨h6, h⟩ := hq
        simp only [Bool.and_eq_true, Nat.ble_eq] at h6
        obtain ⟨⟨h7, h8⟩, h9⟩ := h6
        have h9 := okN_spec h9
        have hw := hs.wf l _ hl
        rw [hx.get (by simp)]
        simp only [trT, hs.box l _ hl, trB, List.length_map]
        refine ⟨h7, by rw [h3], by have := hw.2; omega, by rw [flats_length hC, ← h3]; exact Nat.mul_le_mul_right _ h8, by rw [h2.bytes]; exact h9.1, h9.2, flats_ones hC j' ys', fun b' cap' hb hcap => ?_⟩
        have hd := hs.drop l hl
        have hn := hd.newBox (b := b') (c := cap') (z := C.cells j') (bx := .ar j' (xs'.take n ++ ys')) hb ⟨if_pos rfl, by
          show _ ≤ if _ then _ else _
          rw [if_pos rfl, List.length_append, List.length_take]; omega⟩
        have hext := N.ext_loc st.nl st.nx b' cap' (C.cells j')
        have ec : (N.loc st.nl b' cap' (C.cells j')).cp st.nl = cap' := if_pos rfl
        have eb : (N.loc st.nl b' cap' (C.cells j')).bl st.nl = b' := if_pos rfl
        simp only [trB, ec] at hn
        have := hK _ _ _ _ _ h ⟨hext, Nat.le_succ _, Nat.le_refl _⟩ hn (.inr rfl)
        simp only [trT, ec, eb] at this
        rw [List.map_append, flats_append, ← flats_take hC] at this
        rw [← h3]
        exact this
      · cases h
    · cases h
  · cases h

end
end Go.Den
