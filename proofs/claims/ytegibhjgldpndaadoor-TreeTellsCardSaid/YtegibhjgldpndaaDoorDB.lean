/-
  DEN, part 6: ghost steps; kinds of what a loop carries: laid into a store, and read out of one. General: no program in sight.
-/
import Derived.Test.YtegibhjgldpndaaDoorDA
set_option linter.unusedVariables false
set_option linter.unusedSimpArgs false
namespace Go.Den
open Go.Al

/-- A ghost step: the world stays, what is known of it turns. -/
def Gst (X : Cx) (E : Env) (s : S) (E' : Env) (s' : S) : Prop := ∀ g a w, Rel X g E s a w → ∃ g', Step X.B g w g' w ∧ Rel X g' E' s' a w

theorem Gst.refl (X : Cx) (E : Env) (s : S) : Gst X E s E s := fun g a w h => ⟨g, .refl _ _ _, h⟩
theorem Gst.trans {X : Cx} {E E1 E2 : Env} {s s1 s2 : S} (h : Gst X E s E1 s1) (h' : Gst X E1 s1 E2 s2) : Gst X E s E2 s2 := fun g a w hr => by
  obtain ⟨g1, k1, k2⟩ := h g a w hr
  obtain ⟨g2, k3, k4⟩ := h' g1 a w k2
  exact ⟨g2, k1.trans k3, k4⟩
theorem awp_gst {P : Program} {X : Cx} {Q : Exit → Env → S → Prop} {c : Code} {E E' : Env} {s s' : S} (hg : Gst X E s E' s') (h : awp P X c Q E' s') : awp P X c Q E s := by
  intro g a w hr
  obtain ⟨g1, k1, k2⟩ := hg g a w hr
  refine wpIn_mono (h g1 a w k2) ?_
  rintro ex a' w' ⟨g', e', st', q1, q2, q3⟩
  exact ⟨g', e', st', k1.trans q1, q2, q3⟩

theorem gst_mkown {X : Cx} {E : Env} {s : S} (k sz : Nat) (h0 : E.get k = .lst .nil []) : Gst X E s (E.put k (.lst (.own s.nx true sz) [])) ⟨s.box, s.nx :: s.tg, s.nx + 1⟩ := by
  intro g a w hr
  obtain ⟨i2, l2⟩ := hr.inv.addTag rfl none (fun _ _ _ _ e => by cases e)
  have h1 := hr.env k
  rw [h0] at h1
  have h2 := RV_nil h1
  refine ⟨⟨g.wm, fun j => if j = s.nx then some none else g.tb j⟩, ⟨l2, .refl _ _, .refl _, fun _ _ => rfl⟩, i2, fun j => ?_, hr.size, hr.df, hr.gl⟩
  rw [Env.get_put]
  split
  · rename_i e1
    subst e1
    rw [h2]
    refine RV_lst_mk ?_
    simp only [RC]
    exact .inl ⟨trivial, trivial, if_pos rfl, rfl⟩
  · exact (hr.env j).later l2

theorem RCs_set_of {g : Gh} {w : World} {x y : V} (hx : ∀ u, RC g w x u → RC g w y u) : ∀ {cs : List V} {us : List Value} {j : Nat}, cs[j]? = some x → RCs g w cs us → RCs g w (cs.set j y) us
  | [], us, j, hj, _ => by simp at hj
  | c :: r, us, 0, hj, h => by
    simp only [RCs] at h
    obtain ⟨u1, u2, rfl, h1, h2⟩ := h
    simp only [List.getElem?_cons_zero, Option.some.injEq] at hj
    subst hj
    simp only [List.set_cons_zero, RCs]
    exact ⟨u1, u2, rfl, hx _ h1, h2⟩
  | c :: r, us, j + 1, hj, h => by
    simp only [RCs] at h
    obtain ⟨u1, u2, rfl, h1, h2⟩ := h
    simp only [List.getElem?_cons_succ] at hj
    simp only [List.set_cons_succ, RCs]
    exact ⟨u1, u2, rfl, h1, RCs_set_of hx hj h2⟩

theorem gst_mkownB {X : Cx} {E : Env} {s : S} (b j sz : Nat) {cs : List V} {k : Nat} (h0 : Al.look s.box b = some (cs, k)) (hj : cs[j]? = some (.lst .nil [])) :
    Gst X E s E ⟨lay s.box b (cs.set j (.lst (.own s.nx true sz) []), k), s.nx :: s.tg, s.nx + 1⟩ := by
  intro g a w hr
  obtain ⟨i2, l2⟩ := hr.inv.addTag rfl none (fun _ _ _ _ e => by cases e)
  obtain ⟨p1, p2, p3, p4, arr, el, us, p5, p6, p7, p8⟩ := i2.box b cs k h0
  refine ⟨⟨g.wm, fun j => if j = s.nx then some none else g.tb j⟩, ⟨l2, .refl _ _, .refl _, fun _ _ => rfl⟩, ?_, fun i => (hr.env i).later l2, hr.size, hr.df, hr.gl⟩
  have := i2.addBox (b := b) (arr := arr) (el := el) (cs := cs.set j (.lst (.own s.nx true sz) [])) (us := us) p1 p2 p5 (by simp; omega)
    (fun c hc => by
      rcases List.mem_or_eq_of_mem_set hc with h2 | h2
      · exact p4 c h2
      · subst h2; rfl)
    (RCs_set_of (fun u hu => by
      simp only [RC] at hu ⊢
      rcases hu with ⟨_, hu, _⟩ | ⟨b, o, cap, ds, _, _, ht, _⟩
      · exact .inl ⟨trivial, hu, if_pos rfl, rfl⟩
      · exact ht.elim) hj p7) (by simpa using p8) (fun t ht d hd => by
        obtain ⟨cap', n', sz'⟩ := d
        obtain ⟨r1, r2, r3, r4, r5, r6⟩ := i2.own t ht b cap' n' sz' hd
        have h0' : Al.look (⟨s.box, s.nx :: s.tg, s.nx + 1⟩ : S).box b = some (cs, k) := h0
        rw [h0'] at r5; cases r5)
  rw [p6] at this
  exact this

theorem gst_trunc {X : Cx} {E : Env} {s : S} (b m : Nat) {cs : List V} {k : Nat} (h0 : Al.look s.box b = some (cs, k)) : Gst X E s E ⟨lay s.box b (cs.take m, k), s.tg, s.nx⟩ := by
  intro g a w hr
  have hi := hr.inv
  obtain ⟨p1, p2, p3, p4, arr, el, us, p5, p6, p7, p8⟩ := hi.box b cs k h0
  refine ⟨g, .refl _ _ _, ?_, hr.env, hr.size, hr.df, hr.gl⟩
  have hone : allOne cs := by unfold allOne; rw [List.all_eq_true]; exact p4
  have hul := RCs_length g w cs us p7
  rw [sizes_one hone] at hul
  have := hi.addBox (b := b) (arr := arr) (el := el) (cs := cs.take m) (us := us.take m) p1 p2 p5 (by simp; omega)
    (fun c hc => p4 c (List.mem_of_mem_take hc)) (RCs_take_drop hone p7 m).1 (by
      rw [← p8, List.take_take, List.length_take]) (fun t ht d hd => by
        obtain ⟨cap', n', sz'⟩ := d
        obtain ⟨r1, r2, r3, r4, r5, r6⟩ := hi.own t ht b cap' n' sz' hd
        rw [h0] at r5; cases r5)
  rw [p6] at this
  exact this

/-- Kinds of what a loop carries. -/
inductive SK (U : TyU) where
  | int (k : IntKind)
  | bool
  | str
  | dl (i : U.I)
  | bl (i : U.I)
  | ow (nb : Bool) (i : U.I)
  | arr (i : U.I)
  | box (cs : List (SK U))
  | st (i : U.I)

mutual
def denK {U : TyU} : SK U → Type
  | .int _ => Int
  | .bool => Bool
  | .str => List UInt8
  | .dl i => List (U.den i)
  | .bl i => Bool × List (U.den i)
  | .ow _ i => List (U.den i)
  | .arr i => Option (List (U.den i))
  | .box cs => denKs cs
  | .st i => U.den i
def denKs {U : TyU} : List (SK U) → Type
  | [] => Unit
  | k :: r => denK k × denKs r
end

/-- The two cases of what is there or not, as they stand in what is printed. -/
def oCase {α β : Type} (o : Option α) (a : β) (f : α → β) : β :=
  match o with
  | none => a
  | some x => f x

def takeL {α : Type} (n : Nat) (xs : List α) : List α := xs.take n
def eqN (a b : Nat) : Bool := Nat.beq a b

section
variable {U : TyU} (C : Cod U) {R : Type}

mutual
def putK : (s : SK U) → denK s → St U → (T U → St U → Option R) → Option R
  | .int k, x, st, K => K (.int k x) st
  | .bool, x, st, K => K (.bool x) st
  | .str, x, st, K => K (.str x) st
  | .dl i, x, st, K => K (.lst .dl i x) st
  | .bl i, x, st, K => K (.lst (.b x.1) i x.2) st
  | .ow nb i, x, st, K => K (.lst (.ow st.nx nb) i x) ⟨st.bx, st.nx :: st.tg, st.nl, st.nx + 1⟩
  | .arr i, x, st, K => oCase x (K .nil st) fun ys => K (.sl st.nl ys.length) ⟨(st.nl, some (.ar i ys)) :: st.bx, st.tg, st.nl + 1, st.nx⟩
  | .box cs, x, st, K => putKs cs x st fun vs st' => bif oneAll vs then K (.ptr st'.nl 0) ⟨(st'.nl, some (.st vs)) :: st'.bx, st'.tg, st'.nl + 1, st'.nx⟩ else none
  | .st i, x, st, K => K (C.enc i x) st
def putKs : (l : List (SK U)) → denKs l → St U → (List (T U) → St U → Option R) → Option R
  | [], _, st, K => K [] st
  | k :: r, x, st, K => putK k x.1 st fun v st' => feS st' fun st' => putKs r x.2 st' fun vs st'' => K (v :: vs) st''
end

/-- It is as it reads without its name. -/
def exact1 : T U → Bool
  | .lst m _ _ => (match m with | .ow _ _ => false | _ => true)
  | _ => true
def exactT : T U → Bool
  | .agg fs => fs.all exact1
  | x => exact1 x

mutual
def getK : (s : SK U) → T U → St U → (denK s → St U → Option R) → Option R
  | .int k, v, st, K => (match v with | .int k' n => bif decide (k' = k) then K n st else none | _ => none)
  | .bool, v, st, K => (match v with | .bool b => K b st | _ => none)
  | .str, v, st, K => (match v with | .str s => K s st | _ => none)
  | .dl i, v, st, K => (match v with
    | .nil => K [] st
    | .lst m j ys => sameC i j ys fun xs => (match m with
      | .dl => K xs st
      | .b n => bif (bif n then xs.isEmpty else !xs.isEmpty) then K xs st else none
      | .ow _ _ => none)
    | _ => none)
  | .bl i, v, st, K => (match v with
    | .nil => K (true, []) st
    | .lst m j ys => sameC i j ys fun xs => (match m with
      | .dl => K (xs.isEmpty, xs) st
      | .b n => K (n, xs) st
      | .ow _ _ => none)
    | _ => none)
  | .ow nb i, v, st, K => (match v with
    | .lst m j ys => sameC i j ys fun xs => (match m with
      | .ow t nb' => bif beqB nb' nb && hasN st.tg t then K xs ⟨st.bx, rmN st.tg t, st.nl, st.nx⟩ else none
      | _ => none)
    | _ => none)
  | .arr i, v, st, K => (match v with
    | .nil => K none st
    | .sl l n => (match lk st.bx l with
      | some (.ar j ys) => sameC i j ys fun xs => bif eqN n xs.length then K (some xs) ⟨(l, none) :: st.bx, st.tg, st.nl, st.nx⟩ else none
      | _ => none)
    | _ => none)
  | .box cs, v, st, K => (match v with
    | .ptr l o => bif Nat.beq o 0 then (match lk st.bx l with
      | some (.st vs) => feS ⟨(l, none) :: st.bx, st.tg, st.nl, st.nx⟩ fun st' => getKs cs vs st' K
      | _ => none) else none
    | _ => none)
  | .st i, v, st, K => bif exactT v then C.dec i v fun x => K x st else none
def getKs : (l : List (SK U)) → List (T U) → St U → (denKs l → St U → Option R) → Option R
  | [], vs, st, K => (match vs with | [] => K () st | _ :: _ => none)
  | k :: r, vs, st, K => (match vs with
    | [] => none
    | v :: vs => getK k v st fun x st' => feS st' fun st' => getKs r vs st' fun xs st'' => K (x, xs) st'')
end

/-- What belongs to one alone: names, blocks. -/
abbrev Res := Nat ⊕ Nat

mutual
/-- An abstract value is of a kind; what it holds alone. -/
def VK (s : S) : (k : SK U) → denK k → V → List Res → Prop
  | .int k, x, v, rs => v = .at (.int k x) ∧ rs = []
  | .bool, x, v, rs => v = .at (.bool x) ∧ rs = []
  | .str, x, v, rs => v = trT C ⟨id, id, id, id⟩ (.str x) ∧ rs = []
  | .dl i, x, v, rs => v = .lst (tagOf (x.map (C.encV i))) (x.map (C.encV i)) ∧ rs = []
  | .bl i, x, v, rs => v = .lst (if x.1 then .nil else .no) (x.2.map (C.encV i)) ∧ rs = []
  | .ow nb i, x, v, rs => ∃ n, v = .lst (.own n nb (C.cells i)) (x.map (C.encV i)) ∧ n ∈ s.tg ∧ n < s.nx ∧ rs = [.inl n]
  | .arr i, x, v, rs => match x with
    | none => v = .lst .nil [] ∧ rs = []
    | some xs => ∃ b cap, v = .at (.slice (some ⟨b, 0, none⟩) xs.length cap) ∧ xs.length ≤ cap ∧ Al.look s.box b = some (flats (xs.map (C.encV i)), cap * C.cells i) ∧ rs = [.inr b]
  | .box cs, x, v, rs => ∃ b vs rs', v = .at (.pointer (some ⟨b, 0, none⟩)) ∧ Al.look s.box b = some (vs, vs.length) ∧ VKs s cs x vs rs' ∧ rs = .inr b :: rs'
  | .st i, x, v, rs => v = C.encV i x ∧ rs = []
def VKs (s : S) : (l : List (SK U)) → denKs l → List V → List Res → Prop
  | [], _, vs, rs => vs = [] ∧ rs = []
  | k :: r, x, vs, rs => ∃ v vs' r1 r2, vs = v :: vs' ∧ rs = r1 ++ r2 ∧ VK s k x.1 v r1 ∧ VKs s r x.2 vs' r2
end

/-- What a typed store holds alone. -/
def Has (N : NM) (st : St U) : Res → Prop
  | .inl n => ∃ t ∈ st.tg, N.tk t = n
  | .inr b => ∃ l x, lk st.bx l = some x ∧ N.bl l = b

variable {C}

theorem SSim.addBox {N : NM} {st : St U} {s : S} (hs : SSim C N st s) {b c z : Nat} {bx : Bx U} (hno : ¬ Has N st (.inr b)) (hl : Al.look s.box b = some (trB C (N.loc st.nl b c z) st.nl bx)) (hw : wfB C (N.loc st.nl b c z) (st.nl + 1) st.nx st.nl bx) :
    SSim C (N.loc st.nl b c z) ⟨(st.nl, some bx) :: st.bx, st.tg, st.nl + 1, st.nx⟩ s := by
  have hext := N.ext_loc st.nl st.nx b c z
  have hbl : ∀ l, l < st.nl → (N.loc st.nl b c z).bl l = N.bl l := hext.bl
  have hbn : (N.loc st.nl b c z).bl st.nl = b := if_pos rfl
  have hne : ∀ l b', lk st.bx l = some b' → b ≠ N.bl l := fun l b' hl e => hno ⟨l, b', hl, e.symm⟩
  refine ⟨?_, ?_, ?_, ?_, hs.tgIn, hs.tgInj, hs.tgLt, hs.nm⟩
  · intro l b' hl'
    rw [lk_cons] at hl'
    by_cases e : st.nl = l
    · rw [if_pos e] at hl'
      injection hl' with hl'
      subst hl'; subst e
      rw [hbn]; exact hl
    · rw [if_neg e] at hl'
      rw [hbl l (hs.lt l b' hl'), hs.box l b' hl', trB_ext hs hext (Nat.le_refl _) (Nat.le_refl _) hl']
  · intro l b' hl'
    rw [lk_cons] at hl'
    by_cases e : st.nl = l
    · show l < st.nl + 1; omega
    · rw [if_neg e] at hl'
      have hlt := hs.lt l b' hl'
      show l < st.nl + 1; omega
  · intro l b' hl'
    rw [lk_cons] at hl'
    by_cases e : st.nl = l
    · rw [if_pos e] at hl'
      injection hl' with hl'
      subst hl'; subst e
      exact hw
    · rw [if_neg e] at hl'
      exact wfB_ext hext (Nat.le_succ _) (Nat.le_refl _) (hs.lt l b' hl') (hs.wf l b' hl')
  · intro l l' b1 b2 h1 h2 he
    rw [lk_cons] at h1 h2
    by_cases e : st.nl = l
    · by_cases e' : st.nl = l'
      · omega
      · rw [if_neg e'] at h2
        subst e
        rw [hbn, hbl l' (hs.lt l' b2 h2)] at he
        exact absurd he (hne l' b2 h2)
    · rw [if_neg e] at h1
      by_cases e' : st.nl = l'
      · subst e'
        rw [hbn, hbl l (hs.lt l b1 h1)] at he
        exact absurd he.symm (hne l b1 h1)
      · rw [if_neg e'] at h2
        rw [hbl l (hs.lt l b1 h1), hbl l' (hs.lt l' b2 h2)] at he
        exact hs.inj l l' b1 b2 h1 h2 he

theorem SSim.addTok {N : NM} {st : St U} {s : S} (hs : SSim C N st s) {n : Nat} (hno : ¬ Has N st (.inl n)) (h1 : n ∈ s.tg) (h2 : n < s.nx) :
    SSim C (N.tok st.nx n) ⟨st.bx, st.nx :: st.tg, st.nl, st.nx + 1⟩ s := by
  have hext := N.ext_tok st.nl st.nx n
  have htk : ∀ t, t < st.nx → (N.tok st.nx n).tk t = N.tk t := hext.tk
  have htn : (N.tok st.nx n).tk st.nx = n := if_pos rfl
  have hne : ∀ t ∈ st.tg, N.tk t ≠ n := fun t ht e => hno ⟨t, ht, e⟩
  refine ⟨fun l b hl => ?_, hs.lt, fun l b hl => ?_, fun l l' b b' q1 q2 he => hs.inj l l' b b' q1 q2 he, ?_, ?_, ?_, ?_⟩
  · rw [trB_ext hs hext (Nat.le_refl _) (Nat.le_refl _) hl]
    exact hs.box l b hl
  · exact wfB_ext hext (Nat.le_refl _) (Nat.le_succ _) (hs.lt l b hl) (hs.wf l b hl)
  · intro t ht
    rcases List.mem_cons.1 ht with rfl | ht
    · rw [htn]; exact h1
    · rw [htk t (hs.tgLt t ht)]; exact hs.tgIn t ht
  · intro t ht t' ht' he
    rcases List.mem_cons.1 ht with rfl | ht
    · rcases List.mem_cons.1 ht' with rfl | ht'
      · rfl
      · rw [htn, htk t' (hs.tgLt t' ht')] at he
        exact absurd he.symm (hne t' ht')
    · rcases List.mem_cons.1 ht' with rfl | ht'
      · rw [htn, htk t (hs.tgLt t ht)] at he
        exact absurd he (hne t ht)
      · rw [htk t (hs.tgLt t ht), htk t' (hs.tgLt t' ht')] at he
        exact hs.tgInj t ht t' ht' he
  · intro t ht
    show t < st.nx + 1
    rcases List.mem_cons.1 ht with rfl | ht
    · omega
    · have := hs.tgLt t ht; omega
  · intro t ht
    rcases List.mem_cons.1 ht with rfl | ht
    · rw [htn]; exact h2
    · rw [htk t (hs.tgLt t ht)]; exact hs.nm t ht

theorem has_loc {N : NM} {st : St U} {s : S} (hs : SSim C N st s) {b c z : Nat} {bx : Option (Bx U)} {x : Res} (h : Has (N.loc st.nl b c z) ⟨(st.nl, bx) :: st.bx, st.tg, st.nl + 1, st.nx⟩ x) : x = .inr b ∨ Has N st x := by
  have hext := N.ext_loc st.nl st.nx b c z
  cases x with
  | inl n => exact .inr h
  | inr b' =>
    obtain ⟨l, y, hl, he⟩ := h
    have hl' : lk ((st.nl, bx) :: st.bx) l = some y := hl
    rw [lk_cons] at hl'
    by_cases e : st.nl = l
    · subst e
      have : (N.loc st.nl b c z).bl st.nl = b := if_pos rfl
      rw [this] at he
      exact .inl (by rw [he])
    · rw [if_neg e] at hl'
      rw [hext.bl l (hs.lt l y hl')] at he
      exact .inr ⟨l, y, hl', he⟩
theorem has_tok {N : NM} {st : St U} {s : S} (hs : SSim C N st s) {n : Nat} {x : Res} (h : Has (N.tok st.nx n) ⟨st.bx, st.nx :: st.tg, st.nl, st.nx + 1⟩ x) : x = .inl n ∨ Has N st x := by
  have hext := N.ext_tok st.nl st.nx n
  cases x with
  | inr b => exact .inr h
  | inl n' =>
    obtain ⟨t, ht, he⟩ := h
    rcases List.mem_cons.1 ht with rfl | ht
    · have : (N.tok st.nx n).tk st.nx = n := if_pos rfl
      rw [this] at he
      exact .inl (by rw [he])
    · rw [hext.tk t (hs.tgLt t ht)] at he
      exact .inr ⟨t, ht, he⟩

mutual
/-- LAID DOWN. -/
theorem putK_ok (hC : CodOk C) {r : R} : ∀ (k : SK U) (x : denK k) {N : NM} {st : St U} {s : S} {v : V} {rs : List Res} {K : T U → St U → Option R}, SSim C N st s → VK C s k x v rs → rs.Nodup → (∀ y ∈ rs, ¬ Has N st y) → putK C k x st K = some r →
    ∃ N' v' st', K v' st' = some r ∧ Turn N st N' st' ∧ SSim C N' st' s ∧ trT C N' v' = v ∧ bdd st'.nl st'.nx v' = true ∧ (∀ y, Has N' st' y → Has N st y ∨ y ∈ rs)
  | .int k, x, N, st, s, v, rs, K, hs, hv, _, _, h => by
    simp only [VK] at hv; simp only [putK] at h
    exact ⟨N, _, st, h, .refl _ _, hs, hv.1.symm, rfl, fun y hy => .inl hy⟩
  | .bool, x, N, st, s, v, rs, K, hs, hv, _, _, h => by
    simp only [VK] at hv; simp only [putK] at h
    exact ⟨N, _, st, h, .refl _ _, hs, hv.1.symm, rfl, fun y hy => .inl hy⟩
  | .str, x, N, st, s, v, rs, K, hs, hv, _, _, h => by
    simp only [VK] at hv; simp only [putK] at h
    exact ⟨N, _, st, h, .refl _ _, hs, hv.1.symm, rfl, fun y hy => .inl hy⟩
  | .dl i, x, N, st, s, v, rs, K, hs, hv, _, _, h => by
    simp only [VK] at hv; simp only [putK] at h
    exact ⟨N, _, st, h, .refl _ _, hs, by rw [hv.1]; rfl, rfl, fun y hy => .inl hy⟩
  | .bl i, x, N, st, s, v, rs, K, hs, hv, _, _, h => by
    simp only [VK] at hv; simp only [putK] at h
    exact ⟨N, _, st, h, .refl _ _, hs, by rw [hv.1]; rfl, rfl, fun y hy => .inl hy⟩
  | .st i, x, N, st, s, v, rs, K, hs, hv, _, _, h => by
    simp only [VK] at hv; simp only [putK] at h
    exact ⟨N, _, st, h, .refl _ _, hs, (hC.enc N i x).trans hv.1.symm, bdd_mono (Nat.zero_le _) (Nat.zero_le _) _ (hC.bd i x), fun y hy => .inl hy⟩
  | .ow nb i, x, N, st, s, v, rs, K, hs, hv, _, hd, h => by
    simp only [VK] at hv; simp only [putK] at h
    obtain ⟨n, rfl, h1, h2, rfl⟩ := hv
    refine ⟨_, _, _, h, ⟨N.ext_tok st.nl st.nx n, Nat.le_refl _, Nat.le_succ _⟩, hs.addTok (hd _ (by simp)) h1 h2, ?_, ?_, fun y hy => ?_⟩
    · have e : (N.tok st.nx n).tk st.nx = n := if_pos rfl
      simp only [trT, trM, e]
    · simp [bdd, Nat.blt_eq]
    · rcases has_tok hs hy with rfl | hy
      · exact .inr (by simp)
      · exact .inl hy
  | .arr i, x, N, st, s, v, rs, K, hs, hv, _, hd, h => by
    cases x with
    | none =>
      simp only [VK] at hv; simp only [putK, oCase] at h
      exact ⟨N, _, st, h, .refl _ _, hs, by rw [hv.1]; rfl, rfl, fun y hy => .inl hy⟩
    | some xs =>
      simp only [VK] at hv; simp only [putK, oCase] at h
      obtain ⟨b, cap, rfl, h1, h2, rfl⟩ := hv
      have ec : (N.loc st.nl b cap (C.cells i)).cp st.nl = cap := if_pos rfl
      have eb : (N.loc st.nl b cap (C.cells i)).bl st.nl = b := if_pos rfl
      refine ⟨_, _, _, h, ⟨N.ext_loc st.nl st.nx b cap (C.cells i), Nat.le_succ _, Nat.le_refl _⟩, hs.addBox (bx := .ar i xs) (hd _ (by simp)) (by simp only [trB, ec]; exact h2) ⟨if_pos rfl, by rw [ec]; exact h1⟩, ?_, ?_, fun y hy => ?_⟩
      · simp only [trT, ec, eb]
      · simp [bdd, Nat.blt_eq]
      · rcases has_loc hs hy with rfl | hy
        · exact .inr (by simp)
        · exact .inl hy
  | .box cs, x, N, st, s, v, rs, K, hs, hv, hn, hd, h => by
    simp only [VK] at hv; simp only [putK] at h
    obtain ⟨b, vs, rs', rfl, h1, h2, rfl⟩ := hv
    obtain ⟨hn1, hn2⟩ := List.nodup_cons.1 hn
    obtain ⟨N1, vs', st1, h3, h4, h5, h6, h7, h8⟩ := putKs_ok hC cs x hs h2 hn2 (fun y hy => hd y (by simp [hy])) h
    obtain ⟨h9, h10⟩ := bif_some h3
    have ext := N1.ext_loc st1.nl st1.nx b 0 0
    have eb : (N1.loc st1.nl b 0 0).bl st1.nl = b := if_pos rfl
    have hlen : vs'.length = vs.length := by have := congrArg List.length h6; simpa using this
    refine ⟨_, _, _, h10, h4.trans ⟨ext, Nat.le_succ _, Nat.le_refl _⟩, h5.addBox (bx := .st vs') (fun hh => ?_) (by simp only [trB]; rw [map_tr_ext ext h7, h6, hlen]; exact h1) ⟨bdds_mono (Nat.le_succ _) (Nat.le_refl _) _ h7, h9⟩, ?_, ?_, fun y hy => ?_⟩
    · rcases h8 _ hh with q | q
      · exact hd _ (by simp) q
      · exact hn1 q
    · simp only [trT, eb]
    · simp [bdd, Nat.blt_eq]
    · rcases has_loc h5 hy with rfl | hy
      · exact .inr (by simp)
      · rcases h8 _ hy with q | q
        · exact .inl q
        · exact .inr (by simp [q])
theorem putKs_ok (hC : CodOk C) {r : R} : ∀ (l : List (SK U)) (x : denKs l) {N : NM} {st : St U} {s : S} {vs : List V} {rs : List Res} {K : List (T U) → St U → Option R}, SSim C N st s → VKs C s l x vs rs → rs.Nodup → (∀ y ∈ rs, ¬ Has N st y) → putKs C l x st K = some r →
    ∃ N' vs' st', K vs' st' = some r ∧ Turn N st N' st' ∧ SSim C N' st' s ∧ vs'.map (trT C N') = vs ∧ bdds st'.nl st'.nx vs' = true ∧ (∀ y, Has N' st' y → Has N st y ∨ y ∈ rs)
  | [], x, N, st, s, vs, rs, K, hs, hv, _, _, h => by
    simp only [VKs] at hv; simp only [putKs] at h
    exact ⟨N, _, st, h, .refl _ _, hs, by rw [hv.1]; rfl, rfl, fun y hy => .inl hy⟩
  | k :: rest, x, N, st, s, vs, rs, K, hs, hv, hn, hd, h => by
    simp only [VKs] at hv; simp only [putKs, feS_eq] at h
    obtain ⟨v, vs', r1, r2, rfl, rfl, h1, h2⟩ := hv
    obtain ⟨hn1, hn2, hn3⟩ := List.nodup_append.1 hn
    obtain ⟨N1, v1, st1, h3, h4, h5, h6, h7, h8⟩ := putK_ok hC k x.1 hs h1 hn1 (fun y hy => hd y (by simp [hy])) h
    obtain ⟨N2, vs2, st2, q3, q4, q5, q6, q7, q8⟩ := putKs_ok hC rest x.2 h5 h2 hn2 (fun y hy hh => by
      rcases h8 y hh with q | q
      · exact hd y (by simp [hy]) q
      · exact hn3 y q y hy rfl) h3
    refine ⟨N2, _, st2, q3, h4.trans q4, q5, ?_, ?_, fun y hy => ?_⟩
    · rw [List.map_cons, q6, trT_ext C q4.ext _ h7, h6]
    · simp only [bdds, q7, bdd_mono q4.nl q4.nx _ h7, Bool.and_self]
    · rcases q8 y hy with q | q
      · rcases h8 y q with q' | q'
        · exact .inl q'
        · exact .inr (by simp [q'])
      · exact .inr (by simp [q])
end

end
end Go.Den

/-
  DEN, part 7: what a loop carries, read out of a store; what is known is brought into its form. General: no program in sight.
-/
namespace Go.Den
open Go.Al

section
variable {U : TyU} {C : Cod U} {R : Type}

/-- Without a place. -/
theorem SSim.less {N : NM} {st : St U} {s : S} (hs : SSim C N st s) (l0 : Nat) : SSim C N ⟨(l0, none) :: st.bx, st.tg, st.nl, st.nx⟩ s := by
  have key : ∀ l b, lk ((l0, none) :: st.bx) l = some b → lk st.bx l = some b := fun l b hl => by
    rw [lk_cons] at hl
    by_cases e : l0 = l
    · rw [if_pos e] at hl; cases hl
    · rw [if_neg e] at hl; exact hl
  exact ⟨fun l b hl => hs.box l b (key l b hl), fun l b hl => hs.lt l b (key l b hl), fun l b hl => hs.wf l b (key l b hl), fun l l' b b' h1 h2 he => hs.inj l l' b b' (key l b h1) (key l' b' h2) he, hs.tgIn, hs.tgInj, hs.tgLt, hs.nm⟩
theorem SSim.lessT {N : NM} {st : St U} {s : S} (hs : SSim C N st s) (t : Nat) : SSim C N ⟨st.bx, rmN st.tg t, st.nl, st.nx⟩ s :=
  ⟨hs.box, hs.lt, hs.wf, hs.inj, fun t ht => hs.tgIn t (rmN_mem ht).1, fun t ht t' ht' => hs.tgInj t (rmN_mem ht).1 t' (rmN_mem ht').1, fun t ht => hs.tgLt t (rmN_mem ht).1, fun t ht => hs.nm t (rmN_mem ht).1⟩

theorem has_less {N : NM} {st : St U} {l0 : Nat} {y : Res} (h : Has N ⟨(l0, none) :: st.bx, st.tg, st.nl, st.nx⟩ y) : Has N st y := by
  cases y with
  | inl n => exact h
  | inr b =>
    obtain ⟨l, x, hl, he⟩ := h
    have hl' : lk ((l0, none) :: st.bx) l = some x := hl
    rw [lk_cons] at hl'
    by_cases e : l0 = l
    · rw [if_pos e] at hl'; cases hl'
    · rw [if_neg e] at hl'; exact ⟨l, x, hl', he⟩
theorem has_gone {N : NM} {st : St U} {s : S} (hs : SSim C N st s) {l0 : Nat} {x0 : Bx U} (h0 : lk st.bx l0 = some x0) : ¬ Has N ⟨(l0, none) :: st.bx, st.tg, st.nl, st.nx⟩ (.inr (N.bl l0)) := by
  rintro ⟨l, x, hl, he⟩
  have hl' : lk ((l0, none) :: st.bx) l = some x := hl
  rw [lk_cons] at hl'
  by_cases e : l0 = l
  · rw [if_pos e] at hl'; cases hl'
  · rw [if_neg e] at hl'; exact e (hs.inj l0 l x0 x h0 hl' he.symm)
theorem has_lessT {N : NM} {st : St U} {t : Nat} {y : Res} (h : Has N ⟨st.bx, rmN st.tg t, st.nl, st.nx⟩ y) : Has N st y := by
  cases y with
  | inl n => obtain ⟨t', ht, he⟩ := h; exact ⟨t', (rmN_mem ht).1, he⟩
  | inr b => exact h
theorem has_goneT {N : NM} {st : St U} {s : S} (hs : SSim C N st s) {t : Nat} (h0 : t ∈ st.tg) : ¬ Has N ⟨st.bx, rmN st.tg t, st.nl, st.nx⟩ (.inl (N.tk t)) := by
  rintro ⟨t', ht, he⟩
  obtain ⟨h1, h2⟩ := rmN_mem ht
  exact h2 (hs.tgInj t' h1 t h0 he)

theorem exact1_tr {N : NM} {x : T U} (h : exact1 x = true) : untag1 (trT C N x) = trT C N x := by
  cases x with
  | lst m i xs =>
    cases m with
    | b n => cases n <;> rfl
    | dl => simp only [trT, trM]; exact untag1_tagOf _
    | ow t nb => simp [exact1] at h
  | _ => rfl
theorem exactT_tr {N : NM} {x : T U} (h : exactT x = true) : (trT C N x).untag = trT C N x := by
  cases x with
  | agg fs =>
    simp only [exactT, List.all_eq_true] at h
    simp only [trT, trTs_map, V.untag, List.map_map]
    congr 1
    exact List.map_congr_left fun x hx => exact1_tr (h x hx)
  | lst m i xs => exact exact1_tr (x := .lst m i xs) h
  | _ => rfl

theorem beqB_eq {a b : Bool} (h : beqB a b = true) : a = b := by simpa [beqB] using h

mutual
/-- READ OUT. -/
theorem getK_ok (hC : CodOk C) {r : R} : ∀ (k : SK U) {N : NM} {st : St U} {s : S} {v : T U} {v' : V} {K : denK k → St U → Option R}, SSim C N st s → VR C N v v' → getK C k v st K = some r →
    ∃ x st' rs, K x st' = some r ∧ SSim C N st' s ∧ st'.nl = st.nl ∧ st'.nx = st.nx ∧ VK C s k x v' rs ∧ rs.Nodup ∧ (∀ y ∈ rs, Has N st y ∧ ¬ Has N st' y) ∧ (∀ y, Has N st' y → Has N st y)
  | .int k, N, st, s, v, v', K, hs, hv, h => by
    simp only [getK] at h
    split at h
    · obtain ⟨h1, h2⟩ := bif_some h
      simp only [decide_eq_true_eq] at h1
      subst h1
      exact ⟨_, st, [], h2, hs, rfl, rfl, by simp only [VK]; exact ⟨hv.get (by simp), trivial⟩, List.nodup_nil, (by simp), fun y hy => hy⟩
    · cases h
  | .bool, N, st, s, v, v', K, hs, hv, h => by
    simp only [getK] at h
    split at h
    · exact ⟨_, st, [], h, hs, rfl, rfl, by simp only [VK]; exact ⟨hv.get (by simp), trivial⟩, List.nodup_nil, (by simp), fun y hy => hy⟩
    · cases h
  | .str, N, st, s, v, v', K, hs, hv, h => by
    simp only [getK] at h
    split at h
    · exact ⟨_, st, [], h, hs, rfl, rfl, by simp only [VK]; exact ⟨hv.get (by simp), trivial⟩, List.nodup_nil, (by simp), fun y hy => hy⟩
    · cases h
  | .dl i, N, st, s, v, v', K, hs, hv, h => by
    simp only [getK] at h
    split at h
    · exact ⟨_, st, [], h, hs, rfl, rfl, by simp only [VK]; exact ⟨hv.get (by simp), trivial⟩, List.nodup_nil, (by simp), fun y hy => hy⟩
    · rename_i m j ys
      have hq := sameC_ok h; clear h; obtain ⟨rfl, h⟩ := hq
      simp only [castL] at h
      split at h
      · exact ⟨_, st, [], h, hs, rfl, rfl, by simp only [VK]; exact ⟨hv.get (by simp), trivial⟩, List.nodup_nil, (by simp), fun y hy => hy⟩
      · rename_i n
        obtain ⟨h1, h2⟩ := bif_some h
        refine ⟨_, st, [], h2, hs, rfl, rfl, ?_, List.nodup_nil, (by simp), fun y hy => hy⟩
        simp only [VK]
        refine ⟨(hv.get (by simp)).trans ?_, trivial⟩
        simp only [trT, trM]
        cases n <;> cases ys <;> simp at h1 <;> rfl
      · cases h
    · cases h
  | .bl i, N, st, s, v, v', K, hs, hv, h => by
    simp only [getK] at h
    split at h
    · exact ⟨_, st, [], h, hs, rfl, rfl, by simp only [VK]; exact ⟨hv.get (by simp), trivial⟩, List.nodup_nil, (by simp), fun y hy => hy⟩
    · rename_i m j ys
      have hq := sameC_ok h; clear h; obtain ⟨rfl, h⟩ := hq
      simp only [castL] at h
      split at h
      · refine ⟨_, st, [], h, hs, rfl, rfl, ?_, List.nodup_nil, (by simp), fun y hy => hy⟩
        simp only [VK]
        refine ⟨(hv.get (by simp)).trans ?_, trivial⟩
        simp only [trT, trM]
        cases ys <;> rfl
      · exact ⟨_, st, [], h, hs, rfl, rfl, by simp only [VK]; exact ⟨hv.get (by simp), trivial⟩, List.nodup_nil, (by simp), fun y hy => hy⟩
      · cases h
    · cases h
  | .ow nb i, N, st, s, v, v', K, hs, hv, h => by
    simp only [getK] at h
    split at h
    · rename_i m j ys
      have hq := sameC_ok h; clear h; obtain ⟨rfl, h⟩ := hq
      simp only [castL] at h
      split at h
      · rename_i t nb'
        obtain ⟨h1, h2⟩ := bif_some h
        simp only [Bool.and_eq_true] at h1
        have hnb := beqB_eq h1.1
        subst hnb
        have hm := hasN_mem h1.2
        refine ⟨_, _, [.inl (N.tk t)], h2, hs.lessT t, rfl, rfl, ?_, by simp, ?_, fun y hy => has_lessT hy⟩
        · simp only [VK]
          exact ⟨_, hv.get (by simp), hs.tgIn t hm, hs.nm t hm, rfl⟩
        · intro y hy
          simp only [List.mem_singleton] at hy
          subst hy
          exact ⟨⟨t, hm, rfl⟩, has_goneT hs hm⟩
      · cases h
    · cases h
  | .arr i, N, st, s, v, v', K, hs, hv, h => by
    simp only [getK] at h
    split at h
    · exact ⟨_, st, [], h, hs, rfl, rfl, by simp only [VK]; exact ⟨hv.get (by simp), trivial⟩, List.nodup_nil, (by simp), fun y hy => hy⟩
    · rename_i l n
      split at h
      · rename_i j ys hl
        have hq := sameC_ok h; clear h; obtain ⟨rfl, h⟩ := hq
        simp only [castL] at h
        obtain ⟨h1, h2⟩ := bif_some h
        simp only [eqN, Nat.beq_eq] at h1
        have hw := hs.wf l _ hl
        refine ⟨_, _, [.inr (N.bl l)], h2, hs.less l, rfl, rfl, ?_, by simp, ?_, fun y hy => has_less hy⟩
        · simp only [VK]
          exact ⟨N.bl l, N.cp l, by rw [hv.get (by simp)]; simp only [trT, h1], hw.2, by rw [hs.box l _ hl]; rfl, rfl⟩
        · intro y hy
          simp only [List.mem_singleton] at hy
          subst hy
          exact ⟨⟨l, _, hl, rfl⟩, has_gone hs hl⟩
      · cases h
    · cases h
  | .box cs, N, st, s, v, v', K, hs, hv, h => by
    simp only [getK] at h
    split at h
    · rename_i l o
      obtain ⟨h1, h2⟩ := bif_some h
      clear h
      simp only [Nat.beq_eq] at h1
      subst h1
      split at h2
      · rename_i vs hl
        rw [feS_eq] at h2
        obtain ⟨x, st', rs, q1, q2, q3, q4, q5, q6, q7, q8⟩ := getKs_ok hC cs (vs := vs) (vs' := vs.map (trT C N)) (hs.less l) (by simp) (fun j x v a b => by
          rw [List.getElem?_map, a] at b
          injection b with b
          exact .inr b.symm) h2
        have hbox := hs.box l _ hl
        refine ⟨x, st', .inr (N.bl l) :: rs, q1, q2, q3, q4, ?_, ?_, ?_, fun y hy => has_less (q8 y hy)⟩
        · simp only [VK]
          exact ⟨N.bl l, vs.map (trT C N), rs, hv.get (by simp), by rw [hbox]; simp [trB], q5, rfl⟩
        · exact List.nodup_cons.2 ⟨fun hh => has_gone hs hl (q7 _ hh).1, q6⟩
        · intro y hy
          rcases List.mem_cons.1 hy with rfl | hy
          · exact ⟨⟨l, _, hl, rfl⟩, fun hh => has_gone hs hl (q8 _ hh)⟩
          · exact ⟨has_less (q7 y hy).1, (q7 y hy).2⟩
      · cases h2
    · cases h
  | .st i, N, st, s, v, v', K, hs, hv, h => by
    simp only [getK] at h
    obtain ⟨h1, h2⟩ := bif_some h
    obtain ⟨x, h3, h4⟩ := hC.dec i _ _ _ h2
    refine ⟨x, st, [], h3, hs, rfl, rfl, ?_, List.nodup_nil, (by simp), fun y hy => hy⟩
    simp only [VK]
    have hne : v ≠ .any := fun e => by
      subst e
      have := h4 N
      have h5 := hC.size i x
      have h6 := hC.ones i x
      simp only [trT, V.untag, untag1] at this
      rw [← this] at h6
      simp [allOne, V.flat, V.isOne] at h6
    exact ⟨by rw [hv.get hne, ← h4 N, exactT_tr h1], trivial⟩
theorem getKs_ok (hC : CodOk C) {r : R} : ∀ (l : List (SK U)) {N : NM} {st : St U} {s : S} {vs : List (T U)} {vs' : List V} {K : denKs l → St U → Option R}, SSim C N st s → vs'.length = vs.length → (∀ (j : Nat) (x : T U) (v : V), vs[j]? = some x → vs'[j]? = some v → VR C N x v) → getKs C l vs st K = some r →
    ∃ x st' rs, K x st' = some r ∧ SSim C N st' s ∧ st'.nl = st.nl ∧ st'.nx = st.nx ∧ VKs C s l x vs' rs ∧ rs.Nodup ∧ (∀ y ∈ rs, Has N st y ∧ ¬ Has N st' y) ∧ (∀ y, Has N st' y → Has N st y)
  | [], N, st, s, vs, vs', K, hs, hl, hv, h => by
    simp only [getKs] at h
    cases vs with
    | cons _ _ => cases h
    | nil =>
      have : vs' = [] := by cases vs' <;> simp at hl ⊢
      exact ⟨_, st, [], h, hs, rfl, rfl, by simp only [VKs]; exact ⟨this, trivial⟩, List.nodup_nil, (by simp), fun y hy => hy⟩
  | k :: rest, N, st, s, vs, vs', K, hs, hl, hv, h => by
    simp only [getKs, feS_eq] at h
    cases vs with
    | nil => cases h
    | cons v vs =>
      cases vs' with
      | nil => simp at hl
      | cons v' vs' =>
        simp only at h
        obtain ⟨x, st1, r1, q1, q2, q3, q4, q5, q6, q7, q8⟩ := getK_ok hC k hs (hv 0 v v' rfl rfl) h
        obtain ⟨xs, st2, r2, p1, p2, p3, p4, p5, p6, p7, p8⟩ := getKs_ok hC rest (vs := vs) (vs' := vs') q2 (by simpa using hl) (fun j x v a b => hv (j + 1) x v (by simpa using a) (by simpa using b)) q1
        refine ⟨_, st2, r1 ++ r2, p1, p2, p3.trans q3, p4.trans q4, ?_, ?_, ?_, fun y hy => q8 y (p8 y hy)⟩
        · simp only [VKs]
          exact ⟨v', vs', r1, r2, rfl, rfl, q5, p5⟩
        · refine List.nodup_append.2 ⟨q6, p6, fun a ha b hb e => ?_⟩
          subst e
          exact (q7 a ha).2 (p7 a hb).1
        · intro y hy
          rcases List.mem_append.1 hy with hy | hy
          · exact ⟨(q7 y hy).1, fun hh => (q7 y hy).2 (p8 y hh)⟩
          · exact ⟨q8 y (p7 y hy).1, (p7 y hy).2⟩
end

/- BROUGHT INTO FORM: what is nil and is to grow gets a token; what has been cut is cut. -/
def normCells (l : Nat) : List (SK U) → Nat → St U → (St U → Option R) → Option R
  | [], _, st, K => K st
  | k :: r, j, st, K =>
    match lk st.bx l with
    | some (.st vs) =>
      (match k with
      | .ow nb i => bif nb then (match vs.getD j .any with
        | .nil => feL (vs.set j (.lst (.ow st.nx true) i [])) fun vs' => bif oneAll vs' && bdds st.nl (st.nx + 1) vs' && Nat.blt j vs.length then (feS ⟨(l, some (.st vs')) :: st.bx, st.nx :: st.tg, st.nl, st.nx + 1⟩ fun st' => normCells l r (j + 1) st' K) else none
        | _ => normCells l r (j + 1) st K) else normCells l r (j + 1) st K
      | .arr _ => (match vs.getD j .any with
        | .sl l2 n => (match lk st.bx l2 with
          | some (.ar i' xs) => (feS ⟨(l2, some (.ar i' (takeL n xs))) :: st.bx, st.tg, st.nl, st.nx⟩ fun st' => normCells l r (j + 1) st' K)
          | _ => normCells l r (j + 1) st K)
        | _ => normCells l r (j + 1) st K)
      | _ => normCells l r (j + 1) st K)
    | _ => none

def normVars : List (Nat × SK U) → En U → St U → (En U → St U → Option R) → Option R
  | [], e, st, K => K e st
  | p :: r, e, st, K =>
    match p.2 with
    | .ow nb i => bif nb then (match eget e p.1 with
      | .nil => feS ⟨st.bx, st.nx :: st.tg, st.nl, st.nx + 1⟩ fun st' => normVars r ((p.1, .lst (.ow st.nx true) i []) :: e) st' K
      | _ => normVars r e st K) else normVars r e st K
    | .arr _ => (match eget e p.1 with
      | .sl l n => (match lk st.bx l with
        | some (.ar i' xs) => feS ⟨(l, some (.ar i' (takeL n xs))) :: st.bx, st.tg, st.nl, st.nx⟩ fun st' => normVars r e st' K
        | _ => normVars r e st K)
      | _ => normVars r e st K)
    | .box cs => (match eget e p.1 with
      | .ptr l _ => normCells l cs 0 st fun st' => feS st' fun st' => normVars r e st' K
      | _ => normVars r e st K)
    | _ => normVars r e st K

/-- What is known turns along with the ghost. -/
theorem trunc_ok (hC : CodOk C) {X : Cx} {N : NM} {st : St U} {s : S} (hs : SSim C N st s) {E : Env} {l n : Nat} {i : U.I} {xs : List (U.den i)} (hl : lk st.bx l = some (.ar i xs)) :
    ∃ s', Gst X E s E s' ∧ SSim C N ⟨(l, some (.ar i (takeL n xs))) :: st.bx, st.tg, st.nl, st.nx⟩ s' := by
  have hw := hs.wf l _ hl
  have h1 := hs.setBox (b1 := .ar i (takeL n xs)) hl ⟨hw.1, by unfold takeL; rw [List.length_take]; have := hw.2; omega⟩
  refine ⟨_, ?_, h1⟩
  simp only [trB, takeL, ← flats_take hC]
  exact gst_trunc _ _ (hs.box l _ hl)

/-- The same with new tokens: those that are there, and what is known of them, stay. -/
theorem mkown_ok (hC : CodOk C) {X : Cx} {N : NM} {st : St U} {s : S} (hs : SSim C N st s) {e : En U} {E : Env} (he : ESim C N st e E) (k : Nat) (i : U.I) (hk : eget e k = .nil) :
    ∃ N' E' s', Gst X E s E' s' ∧ Turn N st N' ⟨st.bx, st.nx :: st.tg, st.nl, st.nx + 1⟩ ∧ SSim C N' ⟨st.bx, st.nx :: st.tg, st.nl, st.nx + 1⟩ s' ∧ ESim C N' ⟨st.bx, st.nx :: st.tg, st.nl, st.nx + 1⟩ (eput e (some k) (.lst (.ow st.nx true) i [])) E' := by
  have h1 := (he k).1
  rw [hk] at h1
  have h2 : E.get k = .lst .nil [] := h1.get (by simp)
  have ht : Turn N st (N.tok st.nx s.nx) ⟨st.bx, st.nx :: st.tg, st.nl, st.nx + 1⟩ := ⟨N.ext_tok st.nl st.nx s.nx, Nat.le_refl _, Nat.le_succ _⟩
  refine ⟨N.tok st.nx s.nx, _, _, gst_mkown k (C.cells i) h2, ht, hs.newTok (n := s.nx) (tg := st.tg) (tg' := s.tg) (x := s.nx + 1) (fun _ h => h) hs.tgIn (fun t ht => Nat.ne_of_lt (hs.nm t ht)) (Nat.le_succ _) (Nat.lt_succ_self _), ?_⟩
  refine (he.turn ht).put (.inr ?_) (by simp [bdd, Nat.blt_eq]) (some k)
  have e1 : (N.tok st.nx s.nx).tk st.nx = s.nx := if_pos rfl
  simp [trT, trM, e1]

theorem mkownB_ok (hC : CodOk C) {X : Cx} {N : NM} {st : St U} {s : S} (hs : SSim C N st s) {e : En U} {E : Env} (he : ESim C N st e E) {l j : Nat} {i : U.I} {vs : List (T U)} (hl : lk st.bx l = some (.st vs)) (hj : vs.getD j .any = .nil) (hjl : j < vs.length)
    (h1 : oneAll (vs.set j (.lst (.ow st.nx true) i [])) = true) (h2 : bdds st.nl (st.nx + 1) (vs.set j (.lst (.ow st.nx true) i [])) = true) :
    ∃ N' s', Gst X E s E s' ∧ Turn N st N' ⟨(l, some (.st (vs.set j (.lst (.ow st.nx true) i [])))) :: st.bx, st.nx :: st.tg, st.nl, st.nx + 1⟩ ∧
      SSim C N' ⟨(l, some (.st (vs.set j (.lst (.ow st.nx true) i [])))) :: st.bx, st.nx :: st.tg, st.nl, st.nx + 1⟩ s' ∧ ESim C N' ⟨(l, some (.st (vs.set j (.lst (.ow st.nx true) i [])))) :: st.bx, st.nx :: st.tg, st.nl, st.nx + 1⟩ e E := by
  have hb := hs.box l _ hl
  have hw := hs.wf l _ hl
  have hj' : vs[j]? = some .nil := by
    rw [List.getD_eq_getElem?_getD, List.getElem?_eq_getElem hjl] at hj
    rw [List.getElem?_eq_getElem hjl]
    exact congrArg some hj
  have ht : Turn N st (N.tok st.nx s.nx) ⟨(l, some (.st (vs.set j (.lst (.ow st.nx true) i [])))) :: st.bx, st.nx :: st.tg, st.nl, st.nx + 1⟩ := ⟨N.ext_tok st.nl st.nx s.nx, Nat.le_refl _, Nat.le_succ _⟩
  have hn := hs.newTok (n := s.nx) (tg := st.tg) (tg' := s.tg) (x := s.nx + 1) (fun _ h => h) hs.tgIn (fun t ht => Nat.ne_of_lt (hs.nm t ht)) (Nat.le_succ _) (Nat.lt_succ_self _)
  have hn2 := hn.setBox (l0 := l) (b1 := .st (vs.set j (.lst (.ow st.nx true) i []))) hl ⟨h2, h1⟩
  refine ⟨N.tok st.nx s.nx, _, ?_, ht, hn2, he.turn ht⟩
  have e1 : (N.tok st.nx s.nx).tk st.nx = s.nx := if_pos rfl
  have e2 : (vs.set j (.lst (.ow st.nx true) i [])).map (trT C (N.tok st.nx s.nx)) = (vs.map (trT C N)).set j (.lst (.own s.nx true (C.cells i)) []) := by
    rw [List.map_set, map_tr_ext ht.ext hw.1]
    simp [trT, trM, e1]
  simp only [trB, e2, List.length_set]
  exact gst_mkownB _ j (C.cells i) hb (by rw [List.getElem?_map, hj']; rfl)

end
end Go.Den

/-
  DEN, part 8: code, run on typed values; IT ANSWERS AS THE PROGRAM DOES. General: no program in sight.
-/
namespace Go.Den
open Go.Al

section
variable {U : TyU} {C : Cod U} {R : Type} {r : R}

theorem normCells_ok (hC : CodOk C) {X : Cx} {l : Nat} {e : En U} {E : Env} : ∀ (ks : List (SK U)) (j : Nat) {N : NM} {st : St U} {s : S} {K : St U → Option R}, SSim C N st s → ESim C N st e E → normCells l ks j st K = some r →
    ∃ N' st' s', K st' = some r ∧ Gst X E s E s' ∧ Turn N st N' st' ∧ SSim C N' st' s' ∧ ESim C N' st' e E
  | [], j, N, st, s, K, hs, he, h => ⟨N, st, s, h, .refl _ _ _, .refl _ _, hs, he⟩
  | k :: rest, j, N, st, s, K, hs, he, h => by
    simp only [normCells, feS_eq] at h
    have go : normCells l rest (j + 1) st K = some r → ∃ N' st' s', K st' = some r ∧ Gst X E s E s' ∧ Turn N st N' st' ∧ SSim C N' st' s' ∧ ESim C N' st' e E := fun hh => normCells_ok hC rest (j + 1) hs he hh
    split at h
    · rename_i vs hl
      split at h
      · rename_i nb i
        cases nb with
        | false => exact go h
        | true =>
          simp only [cond_true] at h
          split at h
          · rename_i hj
            rw [feL_eq] at h
            obtain ⟨h1, h2⟩ := bif_some h
            simp only [Bool.and_eq_true] at h1
            obtain ⟨N1, s1, q1, q2, q3, q4⟩ := mkownB_ok (X := X) hC hs he hl hj (blt_lt h1.2) h1.1.1 h1.1.2
            obtain ⟨N2, st2, s2, p1, p2, p3, p4, p5⟩ := normCells_ok hC rest (j + 1) q3 q4 h2
            exact ⟨N2, st2, s2, p1, q1.trans p2, q2.trans p3, p4, p5⟩
          · exact go h
      · split at h
        · rename_i l2 n _
          split at h
          · rename_i i' xs hl2
            obtain ⟨s1, q1, q2⟩ := trunc_ok (X := X) (E := E) hC hs (n := n) hl2
            have ht : Turn N st N ⟨(l2, some (.ar i' (takeL n xs))) :: st.bx, st.tg, st.nl, st.nx⟩ := ⟨.refl _ _ _, Nat.le_refl _, Nat.le_refl _⟩
            obtain ⟨N2, st2, s2, p1, p2, p3, p4, p5⟩ := normCells_ok hC rest (j + 1) q2 (he.turn ht) h
            exact ⟨N2, st2, s2, p1, q1.trans p2, ht.trans p3, p4, p5⟩
          · exact go h
        · exact go h
      · exact go h
    · cases h

theorem normVars_ok (hC : CodOk C) {X : Cx} : ∀ (vars : List (Nat × SK U)) {e : En U} {E : Env} {N : NM} {st : St U} {s : S} {K : En U → St U → Option R}, SSim C N st s → ESim C N st e E → normVars vars e st K = some r →
    ∃ N' e' st' E' s', K e' st' = some r ∧ Gst X E s E' s' ∧ Turn N st N' st' ∧ SSim C N' st' s' ∧ ESim C N' st' e' E' ∧ ∀ j, (∀ p ∈ vars, p.1 ≠ j) → eget e' j = eget e j
  | [], e, E, N, st, s, K, hs, he, h => ⟨N, e, st, E, s, h, .refl _ _ _, .refl _ _, hs, he, fun _ _ => rfl⟩
  | p :: rest, e, E, N, st, s, K, hs, he, h => by
    simp only [normVars, feS_eq] at h
    have go : normVars rest e st K = some r → ∃ N' e' st' E' s', K e' st' = some r ∧ Gst X E s E' s' ∧ Turn N st N' st' ∧ SSim C N' st' s' ∧ ESim C N' st' e' E' ∧ ∀ j, (∀ q ∈ p :: rest, q.1 ≠ j) → eget e' j = eget e j := fun hh => by
      obtain ⟨N', e', st', E', s', q1, q2, q3, q4, q5, q6⟩ := normVars_ok hC rest hs he hh
      exact ⟨N', e', st', E', s', q1, q2, q3, q4, q5, fun j hj => q6 j fun q hq => hj q (by simp [hq])⟩
    split at h
    · rename_i nb i _
      cases nb with
      | false => exact go h
      | true =>
        simp only [cond_true] at h
        split at h
        · rename_i hk
          obtain ⟨N1, E1, s1, q1, q2, q3, q4⟩ := mkown_ok (X := X) hC hs he p.1 i hk
          obtain ⟨N2, e2, st2, E2, s2, p1, p2, p3, p4, p5, p6⟩ := normVars_ok hC rest q3 q4 h
          refine ⟨N2, e2, st2, E2, s2, p1, q1.trans p2, q2.trans p3, p4, p5, fun j hj => ?_⟩
          rw [p6 j fun q hq => hj q (by simp [hq])]
          have hne := hj p (by simp)
          simp [eput, eget, beq_ne hne]
        · exact go h
    · split at h
      · rename_i l n _
        split at h
        · rename_i i' xs hl
          obtain ⟨s1, q1, q2⟩ := trunc_ok (X := X) (E := E) hC hs (n := n) hl
          have ht : Turn N st N ⟨(l, some (.ar i' (takeL n xs))) :: st.bx, st.tg, st.nl, st.nx⟩ := ⟨.refl _ _ _, Nat.le_refl _, Nat.le_refl _⟩
          obtain ⟨N2, e2, st2, E2, s2, p1, p2, p3, p4, p5, p6⟩ := normVars_ok hC rest q2 (he.turn ht) h
          exact ⟨N2, e2, st2, E2, s2, p1, q1.trans p2, ht.trans p3, p4, p5, fun j hj => p6 j fun q hq => hj q (by simp [hq])⟩
        · exact go h
      · exact go h
    · split at h
      · rename_i cs _ _ l _ _
        obtain ⟨N1, st1, s1, q1, q2, q3, q4, q5⟩ := normCells_ok (X := X) hC cs 0 hs he h
        obtain ⟨N2, e2, st2, E2, s2, p1, p2, p3, p4, p5, p6⟩ := normVars_ok hC rest q4 q5 q1
        exact ⟨N2, e2, st2, E2, s2, p1, q2.trans p2, q3.trans p3, p4, p5, fun j hj => p6 j fun q hq => hj q (by simp [hq])⟩
      · exact go h
    · exact go h

variable (C)
/-- Where a loop, or a joining of ways, begins anew: slots that stay; slots that it carries. -/
structure Head (U : TyU) where
  fixed : List Nat
  vars : List (Nat × SK U)

/-- How a function is run: which new slices are written, or grow; the slots live behind a region; its loops (by their first region); where ways join. -/
structure FI (U : TyU) where
  wr : Nat → Bool
  own : Nat → Bool
  kf : Nat → List Nat
  hd : Nat → Option (Head U)
  jn : Nat → Option (Head U)

/-- The first region. -/
def hid : Code → Nat
  | .region id _ _ => id
  | .seq a _ => hid a
  | .cond _ a _ => hid a
  | .block _ b => hid b
  | .loop b => hid b
  | _ => 0

/-- The slots that code writes. -/
def dsts (fi : FI U) : Code → List Nat
  | .region _ ops _ => dstL ops.toList
  | .seq a b => dsts fi a ++ ((match fi.jn (hid b) with | some h => h.vars.map (·.1) | none => []) ++ dsts fi b)
  | .cond _ a b => dsts fi a ++ dsts fi b
  | .block _ b => dsts fi b
  | .loop b => (match fi.hd (hid b) with | some h => h.vars.map (·.1) | none => []) ++ dsts fi b
  | _ => []

def keepK {R : Type} : List Nat → En U → (En U → Option R) → Option R
  | [], _, K => K []
  | k :: r, e, K => fe (eget e k) fun v => keepK r e fun l => K ((k, v) :: l)

theorem keepK_eq {R : Type} : ∀ (ks : List Nat) (e : En U) (K : En U → Option R), keepK ks e K = K (ks.map fun k => (k, eget e k))
  | [], _, _ => rfl
  | k :: r, e, K => by simp only [keepK, fe_eq, keepK_eq r, List.map_cons]

def isAny : T U → Bool
  | .any => true
  | _ => false
def allThere : List Nat → En U → Bool
  | [], _ => true
  | k :: r, e => !(isAny (eget e k)) && allThere r e
def noneIn : List Nat → List Nat → Bool
  | [], _ => true
  | k :: r, l => !(hasN l k) && noneIn r l

def zipV : List (Nat × SK U) → List (T U) → En U
  | p :: r, v :: vs => (p.1, v) :: zipV r vs
  | _, _ => []

/-- The slots that are carried. -/
def slotsV : List (Nat × SK U) → En U → List (T U)
  | [], _ => []
  | p :: r, e => eget e p.1 :: slotsV r e
def kindsV : List (Nat × SK U) → List (SK U)
  | [] => []
  | p :: r => p.2 :: kindsV r

def iter {σ R : Type} : Nat → ((σ → Option R) → σ → Option R) → σ → Option R
  | 0, _, _ => none
  | n + 1, F, s => F (iter n F) s

/-- Where ways join. -/
def joinC {σ R : Type} (F : (σ → Option R) → Option R) (j : σ → Option R) : Option R := F j

/-- What stays within loops, and ahead of where ways join, is not written there. -/
def headOk (fi : FI U) : Code → Bool
  | .seq a b => (match fi.jn (hid b) with | some h => noneIn h.fixed (h.vars.map (·.1) ++ dsts fi a) | none => true) && (headOk fi a && headOk fi b)
  | .cond _ a b => headOk fi a && headOk fi b
  | .block _ b => headOk fi b
  | .loop b => (match fi.hd (hid b) with | some h => noneIn h.fixed (h.vars.map (·.1) ++ dsts fi b) | none => true) && headOk fi b
  | _ => true

variable (Tb : TypeId → TD U)

/-- A frame, worked out. -/
def feE {R : Type} : En U → (En U → Option R) → Option R
  | [], k => k []
  | p :: r, k => match p with | (i, x) => fN i fun i => feE r fun r' => k ((i, x) :: r')
theorem feE_eq {R : Type} : ∀ (l : En U) (k : En U → Option R), feE l k = k l
  | [], _ => rfl
  | (i, x) :: r, k => by simp only [feE, fN_eq, feE_eq r]

/-- What a test has told. -/
def told (e : En U) (c : Operand) (t : Bool) : En U :=
  match c with
  | .tmp d => eput e (some d) (.bool t)
  | _ => e

def drun (fu : Nat) (call : Call U R) (fi : FI U) : Code → En U → St U → (Exit → En U → St U → Option R) → Option R
  | .skip, e, st, k => k .normal e st
  | .region id ops _, e, st, k => dops C Tb call fi.wr fi.own (ops.toList.map (·.dst)) ops.toList e st fun e' st' => keepK (fi.kf id) e' fun e'' => k .normal e'' st'
  | .seq a b, e, st, k =>
    match fi.jn (hid b) with
    | none => drun fu call fi a e st fun ex e' st' => match ex with | .normal => drun fu call fi b e' st' k | ex => k ex e' st'
    | some h =>
        keepK h.fixed e fun fx => bif allThere h.fixed fx then
          joinC (fun j => drun fu call fi a e st fun ex e' st' => match ex with
              | .normal => bif allThere h.fixed e' then normVars h.vars e' st' fun e'' st'' => feA (slotsV h.vars e'') fun vs' => getKs C (kindsV h.vars) vs' st'' fun x _ => j x else none
              | ex => k ex e' st')
            fun x => putKs C (kindsV h.vars) x ⟨[], [], st.nl, st.nx⟩ fun vs st2 => feE (fx ++ zipV h.vars vs) fun e0 => drun fu call fi b e0 st2 k
        else none
  | .cond c a b, e, st, k => match evT e c with
    | .bool t => bif t then drun fu call fi a (told e c true) st k else drun fu call fi b (told e c false) st k
    | _ => none
  | .block id b, e, st, k => drun fu call fi b e st fun ex e' st' => match ex with
    | .exit id' => bif Nat.beq id' id then k .normal e' st' else k (.exit id') e' st'
    | ex => k ex e' st'
  | .loop b, e, st, k =>
    match fi.hd (hid b) with
    | none => none
    | some h =>
        keepK h.fixed e fun fx => bif allThere h.fixed fx then
          normVars h.vars e st fun e1 st1 => feA (slotsV h.vars e1) fun vs' => getKs C (kindsV h.vars) vs' st1 fun x0 _ =>
          iter fu (fun rec x => putKs C (kindsV h.vars) x ⟨[], [], st.nl, st.nx⟩ fun vs st2 =>
            feE (fx ++ zipV h.vars vs) fun e0 => drun fu call fi b e0 st2 fun ex e' st' => match ex with
              | .normal => bif allThere h.fixed e' then normVars h.vars e' st' fun e'' st'' => feA (slotsV h.vars e'') fun vs' => getKs C (kindsV h.vars) vs' st'' fun x _ => rec x else none
              | ex => k ex e' st') x0
        else none
  | .exit id, e, st, k => k (.exit id) e st
  | .ret, e, st, k => k .ret e st
  | _, _, _, _ => none

end
end Go.Den

/-
  DEN, part 9: WHAT IS RUN ON TYPED VALUES IS WHAT THE PROGRAM DOES. General: no program in sight.
-/
namespace Go.Den
open Go.Al

section
variable {U : TyU} {C : Cod U} {P : Program} {Tb : TypeId → TD U} {R : Type} {r : R}

/-- A loop, with ghost steps. -/
theorem awp_loopG {X : Cx} {Q : Exit → Env → S → Prop} {c : Code} {α : Type} (I : α → Env → S → Prop) (μ : α → Nat) {x₀ : α} {E E0 : Env} {s s0 : S} (h0 : I x₀ E0 s0) (hg : Gst X E s E0 s0)
    (round : ∀ x E s, I x E s → awp P X c (thenE (fun E' s' => ∃ x' E2 s2, I x' E2 s2 ∧ μ x' < μ x ∧ Gst X E' s' E2 s2) Q) E s) : awp P X (.loop c) Q E s := by
  refine awp_gst hg ?_
  intro g a w hr
  refine wpIn_loop_ghost (fun n a' w' => ∃ x E s g', μ x = n ∧ I x E s ∧ Step X.B g w g' w' ∧ Rel X g' E s a' w') (μ x₀) ⟨x₀, E0, s0, g, rfl, h0, .refl _ _ _, hr⟩ ?_
  rintro n a1 w1 ⟨x, E1, s1, g1, rfl, p1, p2, p3⟩
  refine wpIn_mono (round x E1 s1 p1 g1 a1 w1 p3) ?_
  rintro ex a2 w2 ⟨g2, e2, st2, q1, q2, q3⟩
  cases ex with
  | normal =>
    obtain ⟨x2, E2, s2, r1, r2, r3⟩ := q3
    obtain ⟨g3, r4, r5⟩ := r3 g2 a2 w2 q2
    exact ⟨μ x2, r2, x2, E2, s2, g3, rfl, r1, (p2.trans q1).trans r4, r5⟩
  | exit id => exact ⟨g2, e2, st2, p2.trans q1, q2, q3⟩
  | goto l => exact ⟨g2, e2, st2, p2.trans q1, q2, q3⟩
  | ret => exact ⟨g2, e2, st2, p2.trans q1, q2, q3⟩
  | panic c => exact ⟨g2, e2, st2, p2.trans q1, q2, q3⟩
  | outgrown => exact ⟨g2, e2, st2, p2.trans q1, q2, q3⟩

theorem hasN_iff {l : List Nat} {t : Nat} : hasN l t = true ↔ t ∈ l := by
  refine ⟨hasN_mem, fun h => ?_⟩
  induction l with
  | nil => simp at h
  | cons k r ih =>
    simp only [hasN]
    by_cases e : k = t
    · have : Nat.beq k t = true := by simpa using e
      simp [this]
    · simp only [beq_ne e, cond_false]
      rcases List.mem_cons.1 h with h | h
      · exact absurd h.symm e
      · exact ih h

theorem noneIn_spec : ∀ {a l : List Nat}, noneIn a l = true → ∀ k ∈ a, k ∉ l
  | [], _, _, k, hk => by simp at hk
  | x :: r, l, h, k, hk => by
    simp only [noneIn, Bool.and_eq_true, Bool.not_eq_true'] at h
    rcases List.mem_cons.1 hk with rfl | hk
    · intro hh
      have := hasN_iff.2 hh
      rw [this] at h
      simp at h
    · exact noneIn_spec h.2 k hk

theorem noneIn_left : ∀ {f v w : List Nat}, noneIn f (v ++ w) = true → noneIn f v = true
  | [], _, _, _ => rfl
  | a :: r, v, w, h => by
    simp only [noneIn, Bool.and_eq_true, Bool.not_eq_true'] at h ⊢
    refine ⟨?_, noneIn_left h.2⟩
    cases hh : hasN v a with
    | false => rfl
    | true =>
      have := hasN_iff.2 (List.mem_append_left w (hasN_iff.1 hh))
      rw [this] at h; simp at h

theorem allThere_spec : ∀ {a : List Nat} {e : En U}, allThere a e = true → ∀ k ∈ a, eget e k ≠ .any
  | [], _, _, k, hk => by simp at hk
  | x :: r, e, h, k, hk => by
    simp only [allThere, Bool.and_eq_true, Bool.not_eq_true'] at h
    rcases List.mem_cons.1 hk with rfl | hk
    · intro hh
      rw [hh] at h
      simp [isAny] at h
    · exact allThere_spec h.2 k hk

theorem eget_keep (ks : List Nat) (e : En U) (k : Nat) : eget (ks.map fun k => (k, eget e k)) k = if k ∈ ks then eget e k else .any := by
  induction ks with
  | nil => rfl
  | cons x r ih =>
    simp only [List.map_cons, eget]
    by_cases hx : x = k
    · subst hx
      have : Nat.beq x x = true := by simp
      simp [this]
    · simp only [beq_ne hx, cond_false, ih, List.mem_cons]
      have : ¬ k = x := fun e => hx e.symm
      simp [this]
theorem get_keepE (ks : List Nat) (E : Env) (k : Nat) : (keepE ks E).get k = if k ∈ ks then E.get k else .any := by
  induction ks with
  | nil => rfl
  | cons x r ih =>
    simp only [keepE, List.map_cons, Env.get]
    by_cases hx : x = k
    · subst hx; simp
    · have h2 : ¬ k = x := fun e => hx e.symm
      simp only [if_neg hx, List.mem_cons, h2, false_or]
      exact ih

theorem ESim.keep {N : NM} {st : St U} {e : En U} {E : Env} (h : ESim C N st e E) (ks : List Nat) : ESim C N st (ks.map fun k => (k, eget e k)) (keepE ks E) := fun k => by
  rw [eget_keep, get_keepE]
  split
  · exact h k
  · exact ⟨.inl rfl, rfl⟩

theorem eget_append (a b : En U) (k : Nat) : eget (a ++ b) k = if k ∈ a.map (·.1) then eget a k else eget b k := by
  induction a with
  | nil => simp
  | cons p r ih =>
    simp only [List.cons_append, eget, List.map_cons, List.mem_cons]
    by_cases hx : p.1 = k
    · have : Nat.beq p.1 k = true := by simpa using hx
      simp [this, hx]
    · have h2 : ¬ k = p.1 := fun e => hx e.symm
      simp only [beq_ne hx, cond_false, ih, h2, false_or]

/-- What is carried, as the abstract frame and store have it. -/
def HI (C : Cod U) (N0 : NM) (h : Head U) (fx : En U) (x : denKs (kindsV h.vars)) (E : Env) (s : S) : Prop :=
  (∃ rs, VKs C s (kindsV h.vars) x (h.vars.map fun p => E.get p.1) rs ∧ rs.Nodup) ∧ ∀ k ∈ h.fixed, E.get k = trT C N0 (eget fx k)

theorem slotsV_eq : ∀ (vars : List (Nat × SK U)) (e : En U), slotsV vars e = vars.map fun p => eget e p.1
  | [], _ => rfl
  | p :: r, e => by simp [slotsV, slotsV_eq r]

theorem enter_ok (hC : CodOk C) {X : Cx} {N0 N : NM} {st0 st : St U} {e0 e : En U} {E : Env} {s : S} {h : Head U} (ht : Turn N0 st0 N st) (hs : SSim C N st s) (he : ESim C N st e E)
    (hb : ∀ k ∈ h.fixed, bdd st0.nl st0.nx (eget e0 k) = true) (hne : ∀ k ∈ h.fixed, eget e k ≠ .any) (hfx : ∀ k ∈ h.fixed, eget e k = eget e0 k) (hno : noneIn h.fixed (h.vars.map (·.1)) = true) {j : denKs (kindsV h.vars) → Option R}
    (hh : (normVars h.vars e st fun e'' st'' => feA (slotsV h.vars e'') fun vs' => getKs C (kindsV h.vars) vs' st'' fun x _ => j x) = some r) :
    ∃ x E2 s2, j x = some r ∧ Gst X E s E2 s2 ∧ HI C N0 h (h.fixed.map fun k => (k, eget e0 k)) x E2 s2 := by
  obtain ⟨N1, e1, st1, E1, s1, q1, q2, q3, q4, q5, q6⟩ := normVars_ok (X := X) hC h.vars hs he hh
  rw [feA_eq] at q1
  obtain ⟨x, st2, rs, p1, p2, p3, p4, p5, p6, p7, p8⟩ := getKs_ok hC (kindsV h.vars) (vs := slotsV h.vars e1) (vs' := h.vars.map fun p => E1.get p.1) q4 (by simp [slotsV_eq]) (fun i x v a b => by
    rw [slotsV_eq, List.getElem?_map] at a
    rw [List.getElem?_map] at b
    cases hv : h.vars[i]? with
    | none => rw [hv] at a; cases a
    | some p =>
      rw [hv] at a b
      injection a with a
      injection b with b
      subst a; subst b
      exact (q5 p.1).1) q1
  refine ⟨x, E1, s1, p1, q2, ⟨rs, p5, p6⟩, fun k hk => ?_⟩
  have h1 : eget e1 k = eget e k := q6 k fun p hp e' => noneIn_spec hno k hk (List.mem_map.2 ⟨p, hp, e'⟩)
  rw [eget_keep, if_pos hk, ← trT_ext C ((ht.trans q3).ext) _ (hb k hk), ← hfx k hk, ← h1]
  exact (q5 k).1.get (by rw [h1]; exact hne k hk)

theorem zipV_ok {N : NM} {E : Env} : ∀ {vars : List (Nat × SK U)} {vs : List (T U)}, vs.map (trT C N) = vars.map (fun p => E.get p.1) → ∀ k, VR C N (eget (zipV vars vs) k) (E.get k)
  | [], vs, h, k => by cases vs <;> exact .inl rfl
  | p :: rest, [], h, k => .inl rfl
  | p :: rest, v :: vs, h, k => by
    simp only [List.map_cons, List.cons.injEq] at h
    simp only [zipV, eget]
    by_cases hp : p.1 = k
    · have : Nat.beq p.1 k = true := by simpa using hp
      simp only [this, cond_true]
      exact .inr (by rw [← hp, h.1])
    · simp only [beq_ne hp, cond_false]
      exact zipV_ok h.2 k
theorem zipV_bdd {nl nx : Nat} : ∀ {vars : List (Nat × SK U)} {vs : List (T U)}, bdds nl nx vs = true → ∀ k, bdd nl nx (eget (zipV vars vs) k) = true
  | [], vs, h, k => by cases vs <;> rfl
  | p :: rest, [], h, k => rfl
  | p :: rest, v :: vs, h, k => by
    simp only [bdds, Bool.and_eq_true] at h
    simp only [zipV, eget]
    by_cases hp : p.1 = k
    · have : Nat.beq p.1 k = true := by simpa using hp
      simp only [this, cond_true]
      exact h.1
    · simp only [beq_ne hp, cond_false]
      exact zipV_bdd h.2 k

theorem SSim.empty (N : NM) (nl nx : Nat) (s : S) : SSim C N (⟨[], [], nl, nx⟩ : St U) s :=
  ⟨fun l b h => by simp [lk] at h, fun l b h => by simp [lk] at h, fun l b h => by simp [lk] at h, fun l l' b b' h => by simp [lk] at h, fun t h => by simp at h, fun t h => by simp at h, fun t h => by simp at h, fun t h => by simp at h⟩

theorem leave_ok (hC : CodOk C) {N0 : NM} {st0 : St U} {e0 : En U} {E : Env} {s : S} {h : Head U} {x : denKs (kindsV h.vars)} (hi : HI C N0 h (h.fixed.map fun k => (k, eget e0 k)) x E s)
    (hb : ∀ k ∈ h.fixed, bdd st0.nl st0.nx (eget e0 k) = true) {K : List (T U) → St U → Option R} (hh : putKs C (kindsV h.vars) x ⟨[], [], st0.nl, st0.nx⟩ K = some r) :
    ∃ N vs st, K vs st = some r ∧ Turn N0 st0 N st ∧ SSim C N st s ∧ ESim C N st ((h.fixed.map fun k => (k, eget e0 k)) ++ zipV h.vars vs) E := by
  obtain ⟨⟨rs, h1, h2⟩, h3⟩ := hi
  obtain ⟨N, vs, st, q1, q2, q3, q4, q5, q6⟩ := putKs_ok hC (kindsV h.vars) x (SSim.empty N0 st0.nl st0.nx s) h1 h2 (fun y hy hh => by
    cases y with
    | inl n => obtain ⟨t, ht, _⟩ := hh; simp at ht
    | inr b => obtain ⟨l, b, hl, _⟩ := hh; simp [lk] at hl) hh
  have ht : Turn N0 st0 N st := ⟨q2.ext, q2.nl, q2.nx⟩
  refine ⟨N, vs, st, q1, ht, q3, fun k => ?_⟩
  rw [eget_append]
  split
  · rename_i hk
    have hk' : k ∈ h.fixed := by
      obtain ⟨p, hp, rfl⟩ := List.mem_map.1 hk
      obtain ⟨k', hk', rfl⟩ := List.mem_map.1 hp
      exact hk'
    have h4 := h3 k hk'
    rw [eget_keep, if_pos hk'] at h4 ⊢
    exact ⟨.inr (by rw [h4, trT_ext C ht.ext _ (hb k hk')]), bdd_mono ht.nl ht.nx _ (hb k hk')⟩
  · exact ⟨zipV_ok q4 k, zipV_bdd q5 k⟩

/-- Slots that are not among these are as they were, or unknown. -/
def Fr (ds : List Nat) (e e' : En U) : Prop := ∀ j, j ∉ ds → eget e' j = eget e j ∨ eget e' j = .any

theorem Fr.refl (ds : List Nat) (e : En U) : Fr ds e e := fun _ _ => .inl rfl
theorem Fr.trans {ds : List Nat} {e e1 e2 : En U} (h : Fr ds e e1) (h' : Fr ds e1 e2) : Fr ds e e2 := fun j hj => by
  rcases h' j hj with q | q
  · rw [q]; exact h j hj
  · exact .inr q
theorem Fr.mono {ds ds' : List Nat} {e e' : En U} (h : Fr ds e e') (hd : ∀ j ∈ ds, j ∈ ds') : Fr ds' e e' := fun j hj => h j fun hh => hj (hd j hh)

/-- What has to hold of code's regions. -/
def codeOk (L : Pol) (n : Nat) : Code → Bool
  | .region _ ops d => dstsIn n ops.toList && (!d || (Region.lexB .any ops && drawOk L ops.toList))
  | .seq a b => codeOk L n a && codeOk L n b
  | .cond _ a b => codeOk L n a && codeOk L n b
  | .block _ b => codeOk L n b
  | .loop b => codeOk L n b
  | _ => true

theorem zip_any {h : Head U} {e0 : En U} {vs : List (T U)} {k : Nat} (hv : k ∉ h.vars.map (·.1)) : eget ((h.fixed.map fun k => (k, eget e0 k)) ++ zipV h.vars vs) k = eget e0 k ∨ eget ((h.fixed.map fun k => (k, eget e0 k)) ++ zipV h.vars vs) k = .any := by
  rw [eget_append]
  split
  · rename_i hk
    have hk' : k ∈ h.fixed := by
      obtain ⟨p, hp, rfl⟩ := List.mem_map.1 hk
      obtain ⟨k', hk', rfl⟩ := List.mem_map.1 hp
      exact hk'
    rw [eget_keep, if_pos hk']
    exact .inl rfl
  · right
    have : ∀ (vars : List (Nat × SK U)) (vs : List (T U)), k ∉ vars.map (·.1) → eget (zipV vars vs) k = .any := fun vars => by
      induction vars with
      | nil => intro vs _; cases vs <;> rfl
      | cons p rest ih =>
        intro vs hv
        simp only [List.map_cons, List.mem_cons, not_or] at hv
        cases vs with
        | nil => rfl
        | cons v vs =>
          simp only [zipV, eget, beq_ne (fun e => hv.1 e.symm), cond_false]
          exact ih vs hv.2
    exact this _ _ hv

theorem told_ok {N : NM} {st : St U} {e : En U} {E : Env} (he : ESim C N st e E) {c : Operand} {t : Bool} (ht : evT e c = .bool t) : ESim C N st (told e c t) E ∧ ∀ j, eget (told e c t) j = eget e j := by
  cases c with
  | tmp d =>
    have h : ∀ j, eget (told e (.tmp d) t) j = eget e j := fun j => by
      simp only [told, eput, eget]
      by_cases hj : d = j
      · subst hj
        have : Nat.beq d d = true := by simp
        simp only [this, cond_true]
        exact ht.symm
      · simp only [beq_ne hj, cond_false]
    exact ⟨fun j => by rw [h j]; exact he j, h⟩
  | const v => exact ⟨he, fun _ => rfl⟩
  | global g => exact ⟨he, fun _ => rfl⟩
  | func f => exact ⟨he, fun _ => rfl⟩

theorem run_ok (hT : TbOk C P Tb) (hC : CodOk C) (hm : P.follows .mixedOrders = true) {X : Cx} {pf : FuncId → Bool} {fi : FI U} {call : Call U R} (hcall : CallOk C P ⟨pf, fi.wr, fi.own⟩ call r) {fu : Nat} :
    ∀ (c : Code) {N : NM} {e : En U} {st : St U} {E : Env} {s : S} {k : Exit → En U → St U → Option R} {Q : Exit → Env → S → Prop}, SSim C N st s → ESim C N st e E → drun C Tb fu call fi c e st k = some r → codeOk ⟨pf, fi.wr, fi.own⟩ X.N c = true → headOk fi c = true →
      (∀ ex N' e' st' E' s', k ex e' st' = some r → Turn N st N' st' → SSim C N' st' s' → ESim C N' st' e' E' → Fr (dsts fi c) e e' → Q ex E' s') → awp P X c Q E s
  | .skip, N, e, st, E, s, k, Q, hs, he, h, _, _, hK => awp_skip (hK _ _ _ _ _ _ h (.refl _ _) hs he (.refl _ _))
  | .exit id, N, e, st, E, s, k, Q, hs, he, h, _, _, hK => awp_exit (hK _ _ _ _ _ _ h (.refl _ _) hs he (.refl _ _))
  | .ret, N, e, st, E, s, k, Q, hs, he, h, _, _, hK => awp_ret (hK _ _ _ _ _ _ h (.refl _ _) hs he (.refl _ _))
  | .region id ops d, N, e, st, E, s, k, Q, hs, he, h, hok, _, hK => by
    simp only [drun] at h
    simp only [codeOk, Bool.and_eq_true] at hok
    obtain ⟨ops⟩ := ops
    have key : ∀ KP, AL P ⟨pf, fi.wr, fi.own⟩ (ops.map (·.dst)) KP ops (fun E' s' => Q .normal (keepE (fi.kf id) E') s') E s := fun KP => by
      refine dops_ok (L := ⟨pf, fi.wr, fi.own⟩) hT hC hcall hs he h ?_
      intro N' e' st' E' s' h1 h2 h3 h4 h5
      simp only [keepK_eq] at h1
      refine hK _ _ _ _ _ _ h1 h2 h3 (h4.keep _) fun j hj => ?_
      rw [eget_keep]
      split
      · exact .inl (h5 j hj)
      · exact .inr rfl
    cases d with
    | false => exact awp_reg ⟨pf, fi.wr, fi.own⟩ fi.kf _ rfl hok.1 (key _)
    | true =>
      have h2 := hok.2
      simp only [Bool.not_true, Bool.false_or, Bool.and_eq_true] at h2
      exact awp_draw ⟨pf, fi.wr, fi.own⟩ hm fi.kf _ rfl hok.1 h2.1 h2.2 (key _)
  | .seq a b, N, e, st, E, s, k, Q, hs, he, h, hok, hho, hK => by
    simp only [drun] at h
    simp only [codeOk, Bool.and_eq_true] at hok
    simp only [headOk, Bool.and_eq_true] at hho
    refine awp_seq ?_
    split at h
    · rename_i hj
      refine run_ok hT hC hm hcall a hs he h hok.1 hho.2.1 ?_
      intro ex N' e' st' E' s' h1 h2 h3 h4 h5
      have h5' : Fr (dsts fi (.seq a b)) e e' := h5.mono fun j hj => by simp only [dsts]; simp [hj]
      cases ex <;> simp only at h1 <;> first | exact hK _ _ _ _ _ _ h1 h2 h3 h4 h5' | skip
      show awp P X b Q E' s'
      refine run_ok hT hC hm hcall b h3 h4 h1 hok.2 hho.2.2 ?_
      intro ex N2 e2 st2 E2 s2 q1 q2 q3 q4 q5
      exact hK _ _ _ _ _ _ q1 (h2.trans q2) q3 q4 (h5'.trans (q5.mono fun j hj => by simp only [dsts]; simp [hj]))
    · rename_i hd hj
      have h1 := hho.1
      rw [hj] at h1
      simp only at h1
      rw [keepK_eq] at h
      obtain ⟨h3, h4⟩ := bif_some h
      clear h
      unfold joinC at h4
      have hin := noneIn_spec h1
      have hbd : ∀ k ∈ hd.fixed, bdd st.nl st.nx (eget e k) = true := fun k _ => (he k).2
      refine run_ok hT hC hm hcall a hs he h4 hok.1 hho.2.1 ?_
      intro ex N' e' st' E' s' h5 h6 h7 h8 h9
      have h9' : Fr (dsts fi (.seq a b)) e e' := h9.mono fun j hj => by simp only [dsts]; simp [hj]
      cases ex <;> simp only at h5 <;> first | exact hK _ _ _ _ _ _ h5 h6 h7 h8 h9' | skip
      show awp P X b Q E' s'
      obtain ⟨h10, h11⟩ := bif_some h5
      have hne := allThere_spec h10
      obtain ⟨x, E2, s2, q1, q2, q3⟩ := enter_ok (X := X) (N0 := N) (st0 := st) (e0 := e) (h := hd) hC h6 h7 h8 hbd hne (fun k hk => by
        rcases h9 k (fun hh => hin k hk (by simp [hh])) with q | q
        · exact q
        · exact absurd q (hne k hk)) (noneIn_left h1) h11
      refine awp_gst q2 ?_
      obtain ⟨N2, vs, st2, p1, p2, p3, p4⟩ := leave_ok hC q3 hbd q1
      rw [feE_eq] at p1
      refine run_ok hT hC hm hcall b p3 p4 p1 hok.2 hho.2.2 ?_
      intro ex N3 e3 st3 E3 s3 r1 r2 r3 r4 r5
      refine hK _ _ _ _ _ _ r1 (p2.trans r2) r3 r4 fun j hj' => ?_
      have hv : j ∉ hd.vars.map (·.1) := fun hh => hj' (by simp only [dsts, hj]; simp only [List.mem_append]; exact .inr (.inl hh))
      rcases r5 j (fun hh => hj' (by simp only [dsts]; simp [hh])) with q | q
      · rw [q]; exact zip_any hv
      · exact .inr q
  | .cond c a b, N, e, st, E, s, k, Q, hs, he, h, hok, hho, hK => by
    simp only [drun] at h
    simp only [codeOk, Bool.and_eq_true] at hok
    simp only [headOk, Bool.and_eq_true] at hho
    split at h
    · rename_i t ht
      have h1 := he.ev c
      rw [ht] at h1
      refine awp_cond (h1.get (by simp)) (fun e1 => ?_) (fun e1 => ?_)
      · subst e1
        obtain ⟨t1, t2⟩ := told_ok he ht
        exact run_ok hT hC hm hcall a hs t1 h hok.1 hho.1 fun ex N' e' st' E' s' q1 q2 q3 q4 q5 => hK _ _ _ _ _ _ q1 q2 q3 q4 fun j hj => by
          rw [← t2 j]
          exact (q5.mono fun j hj => by simp only [dsts]; simp [hj]) j hj
      · subst e1
        obtain ⟨t1, t2⟩ := told_ok he ht
        exact run_ok hT hC hm hcall b hs t1 h hok.2 hho.2 fun ex N' e' st' E' s' q1 q2 q3 q4 q5 => hK _ _ _ _ _ _ q1 q2 q3 q4 fun j hj => by
          rw [← t2 j]
          exact (q5.mono fun j hj => by simp only [dsts]; simp [hj]) j hj
    · cases h
  | .block id b, N, e, st, E, s, k, Q, hs, he, h, hok, hho, hK => by
    simp only [drun] at h
    refine awp_block (run_ok hT hC hm hcall b hs he h (by simpa only [codeOk] using hok) (by simpa only [headOk] using hho) ?_)
    intro ex N' e' st' E' s' q1 q2 q3 q4 q5
    cases ex <;> simp only at q1 <;> first | exact hK _ _ _ _ _ _ q1 q2 q3 q4 q5 | skip
    rename_i id'
    simp only [blockE]
    by_cases e1 : id' = id
    · have : Nat.beq id' id = true := by simpa using e1
      rw [if_pos e1]
      simp only [this, cond_true] at q1
      exact hK _ _ _ _ _ _ q1 q2 q3 q4 q5
    · rw [if_neg e1]
      simp only [beq_ne e1, cond_false] at q1
      exact hK _ _ _ _ _ _ q1 q2 q3 q4 q5
  | .loop b, N, e, st, E, s, k, Q, hs, he, h, hok, hho, hK => by
    simp only [drun] at h
    simp only [codeOk] at hok
    simp only [headOk, Bool.and_eq_true] at hho
    split at h
    · cases h
    · rename_i hd hj
      have h1 := hho.1
      rw [hj] at h1
      simp only at h1
      rw [keepK_eq] at h
      obtain ⟨h3, h4⟩ := bif_some h
      clear h
      have hin := noneIn_spec h1
      have hbd : ∀ k ∈ hd.fixed, bdd st.nl st.nx (eget e k) = true := fun k _ => (he k).2
      have hne0 : ∀ k ∈ hd.fixed, eget e k ≠ .any := fun k hk => by
        have := allThere_spec h3 k hk
        rwa [eget_keep, if_pos hk] at this
      have hno : noneIn hd.fixed (hd.vars.map (·.1)) = true := noneIn_left h1
      obtain ⟨x, E2, s2, q1, q2, q3⟩ := enter_ok (X := X) (N0 := N) (st0 := st) (e0 := e) (h := hd) hC (.refl _ _) hs he hbd hne0 (fun _ _ => rfl) hno h4
      generalize hF : (fun (rec : denKs (kindsV hd.vars) → Option R) (x : denKs (kindsV hd.vars)) => putKs C (kindsV hd.vars) x ⟨[], [], st.nl, st.nx⟩ fun vs st2 =>
            feE ((hd.fixed.map fun k => (k, eget e k)) ++ zipV hd.vars vs) fun e0 => drun C Tb fu call fi b e0 st2 fun ex e' st' => match ex with
              | .normal => bif allThere hd.fixed e' then normVars hd.vars e' st' fun e'' st'' => feA (slotsV hd.vars e'') fun vs' => getKs C (kindsV hd.vars) vs' st'' fun x _ => rec x else none
              | ex => k ex e' st') = F at q1
      refine awp_loopG (fun (p : Nat × denKs (kindsV hd.vars)) E' s' => HI C N hd (hd.fixed.map fun k => (k, eget e k)) p.2 E' s' ∧ iter p.1 F p.2 = some r) (fun p => p.1) (x₀ := (fu, x)) ⟨q3, q1⟩ q2 ?_
      rintro ⟨n, x1⟩ E1 s1 ⟨hi, hr⟩
      simp only at hi hr
      cases n with
      | zero => simp [iter] at hr
      | succ n =>
        simp only [iter] at hr
        rw [← hF] at hr
        obtain ⟨N2, vs, st2, p1, p2, p3, p4⟩ := leave_ok hC hi hbd hr
        rw [feE_eq] at p1
        refine run_ok hT hC hm hcall b p3 p4 p1 hok hho.2 ?_
        intro ex N3 e3 st3 E3 s3 r1 r2 r3 r4 r5
        have hfr : Fr (dsts fi (.loop b)) e e3 := fun j hj' => by
          have hv : j ∉ hd.vars.map (·.1) := fun hh => hj' (by simp only [dsts, hj]; simp only [List.mem_append]; exact .inl hh)
          rcases r5 j (fun hh => hj' (by simp only [dsts]; simp [hh])) with q | q
          · rw [q]; exact zip_any hv
          · exact .inr q
        cases ex <;> simp only at r1 <;> first | exact hK _ _ _ _ _ _ r1 (p2.trans r2) r3 r4 hfr | skip
        obtain ⟨t1, t2⟩ := bif_some r1
        have hne := allThere_spec t1
        obtain ⟨x3, E4, s4, u1, u2, u3⟩ := enter_ok (X := X) (N0 := N) (st0 := st) (e0 := e) (h := hd) hC (p2.trans r2) r3 r4 hbd hne (fun k hk => by
          rcases r5 k (fun hh => hin k hk (by simp [hh])) with q | q
          · rw [q, eget_append, if_pos (by simp [hk]), eget_keep, if_pos hk]
          · exact absurd q (hne k hk)) hno t2
        show ∃ x' E2 s2, _ ∧ _ ∧ _
        exact ⟨(n, x3), E4, s4, ⟨u3, by rw [hF] at u1; exact u1⟩, Nat.lt_succ_self _, u2⟩
  | .rangeFunc _ _ _ _, N, e, st, E, s, k, Q, hs, he, h, _, _, _ => by simp [drun] at h
  | .scope _, N, e, st, E, s, k, Q, hs, he, h, _, _, _ => by simp [drun] at h
  | .label _, N, e, st, E, s, k, Q, hs, he, h, _, _, _ => by simp [drun] at h
  | .goto _, N, e, st, E, s, k, Q, hs, he, h, _, _, _ => by simp [drun] at h
  | .refuse _, N, e, st, E, s, k, Q, hs, he, h, _, _, _ => by simp [drun] at h

end
end Go.Den

/-
  DEN, part 10: functions: contracts, calls that are run through, A FUNCTION'S CONTRACT OUT OF ITS RUN. General: no program in sight.
-/
namespace Go.Den
open Go.Al

/-- Kinds of arguments and results. -/
inductive AK (U : TyU) where
  | int (k : IntKind)
  | bool
  | str
  | ls (i : U.I)
  | dl (i : U.I)
  | bl (i : U.I)
  | st (i : U.I)
  | err

def denA {U : TyU} : AK U → Type
  | .int _ => Int
  | .bool => Bool
  | .str => List UInt8
  | .ls i => List (U.den i)
  | .dl i => List (U.den i)
  | .bl i => Bool × List (U.den i)
  | .st i => U.den i
  | .err => Bool
def denAs {U : TyU} : List (AK U) → Type
  | [] => Unit
  | a :: r => denA a × denAs r

/-- A contract: of a function that leaves memory alone. -/
structure Con (U : TyU) where
  as : List (AK U)
  rs : List (AK U)
  fn : denAs as → Option (denAs rs)

/-- A function's text. -/
structure FD (U : TyU) where
  fi : FI U
  body : Code
  n : Nat
  rs : List ResultVar

section
variable {U : TyU} (C : Cod U) (Tb : TypeId → TD U) {R : Type}

/-- An argument; the Bool tells whether a slice is nil. -/
def argT : (a : AK U) → Bool → denA a → T U
  | .int k, _, x => .int k x
  | .bool, _, x => .bool x
  | .str, _, x => .str x
  | .ls i, n, x => .lst (.b n) i x
  | .dl i, _, x => .lst .dl i x
  | .bl i, _, x => .lst (.b x.1) i x.2
  | .st i, _, x => C.enc i x
  | .err, _, x => bif x then .ifx else .con .nilIface
def argTs : (as : List (AK U)) → (Nat → Bool) → Nat → denAs as → List (T U)
  | [], _, _, _ => []
  | a :: r, nf, j, x => argT C a (nf j) x.1 :: argTs r nf (j + 1) x.2

/-- The same, in parts where it hangs on what is told. -/
def argK {R : Type} : (as : List (AK U)) → denAs as → (List (T U) → Option R) → Option R
  | [], _, K => K []
  | a :: r, x, K => match a, x with
    | .err, x => bif x.1 then argK r x.2 fun vs => K (.ifx :: vs) else argK r x.2 fun vs => K (.con .nilIface :: vs)
    | .int k, x => argK r x.2 fun vs => K (.int k x.1 :: vs)
    | .bool, x => argK r x.2 fun vs => K (.bool x.1 :: vs)
    | .str, x => argK r x.2 fun vs => K (.str x.1 :: vs)
    | .ls i, x => argK r x.2 fun vs => K (.lst (.b false) i x.1 :: vs)
    | .dl i, x => argK r x.2 fun vs => K (.lst .dl i x.1 :: vs)
    | .bl i, x => argK r x.2 fun vs => K (.lst (.b x.1.1) i x.1.2 :: vs)
    | .st i, x => argK r x.2 fun vs => K (C.enc i x.1 :: vs)
theorem argK_eq {R : Type} : ∀ (as : List (AK U)) (x : denAs as) (j : Nat) (K : List (T U) → Option R), argK C as x K = K (argTs C as (fun _ => false) j x)
  | [], _, _, _ => rfl
  | a :: r, x, j, K => by
    cases a with
    | err =>
      obtain ⟨b, xs⟩ := x
      cases b with
      | true => simp only [argK, cond_true, argTs, argT, argK_eq r _ (j + 1)]
      | false => simp only [argK, cond_false, argTs, argT, argK_eq r _ (j + 1)]
    | _ => simp only [argK, argTs, argT, argK_eq r _ (j + 1)]

/-- How an argument reads. -/
def ArgV : (a : AK U) → denA a → V → Prop
  | .ls i, x, v => ∃ n : Bool, v = .lst (if n then .nil else .no) (x.map (C.encV i))
  | a, x, v => v = trT C ⟨id, id, id, id⟩ (argT C a false x)
def ArgVs : (as : List (AK U)) → denAs as → List V → Prop
  | [], _, vs => vs = []
  | a :: r, x, vs => ∃ v vs', vs = v :: vs' ∧ ArgV C a x.1 v ∧ ArgVs r x.2 vs'

/-- Read as an argument, or as a result. -/
def decA : (a : AK U) → T U → (denA a → Option R) → Option R
  | .int k, v, K => (match v with | .int k' n => bif decide (k' = k) then K n else none | _ => none)
  | .bool, v, K => (match v with | .bool b => K b | _ => none)
  | .str, v, K => (match v with | .str s => K s | _ => none)
  | .ls i, v, K => (match v with
    | .nil => K []
    | .lst m j ys => sameC i j ys K
    | _ => none)
  | .dl i, v, K => (match v with
    | .nil => K []
    | .lst m j ys => sameC i j ys fun xs => (match m with
      | .dl => K xs
      | .b n => bif (bif n then xs.isEmpty else !xs.isEmpty) then K xs else none
      | .ow _ nb => bif nb then K xs else bif !xs.isEmpty then K xs else none)
    | _ => none)
  | .bl i, v, K => (match v with
    | .nil => K (true, [])
    | .lst m j ys => sameC i j ys fun xs => (match m with
      | .dl => K (xs.isEmpty, xs)
      | .b n => K (n, xs)
      | .ow _ nb => bif nb then K (xs.isEmpty, xs) else K (false, xs))
    | _ => none)
  | .st i, v, K => C.dec i v K
  | .err, v, K => (match v with
    | .ifx => K true
    | .con v => bif isNilI v then K false else none
    | _ => none)
def decAs : (as : List (AK U)) → List (T U) → (denAs as → Option R) → Option R
  | [], vs, K => (match vs with | [] => K () | _ :: _ => none)
  | a :: r, vs, K => (match vs with
    | [] => none
    | v :: vs => decA C a v fun x => decAs r vs fun xs => K (x, xs))

def finT : List (T U) → T U
  | [] => .tup []
  | x :: r => match r with
    | [] => x
    | _ :: _ => .tup (x :: r)

def dres (e : En U) (st : St U) : List ResultVar → (List (T U) → Option R) → Option R
  | [], K => K []
  | v :: r, K => match v with
    | .tmp t => fe (eget e t) fun v => bif oneAll v.flat then dres e st r fun vs => K (v :: vs) else none
    | .cell p t => dLoad C Tb st t (eget e p) fun v => fe v fun v => bif oneAll v.flat then dres e st r fun vs => K (v :: vs) else none

def argsT : Nat → List (T U) → En U
  | _, [] => []
  | n, x :: xs => (n, x) :: argsT (n + 1) xs

/-- Calls: by contracts; or run through, so deep at most. -/
def callD (fu : Nat) (inl : Nat → Option (FD U)) (orc : Nat → Option (Con U)) : Nat → Call U R
  | 0, _, _, _, _ => none
  | d + 1, f, args, st, k =>
    match orc f with
    | some c => decAs C c.as args fun x => Option.bind (c.fn x) fun y => argK C c.rs y fun vs => k (finT vs) st
    | none =>
      match inl f with
      | some fd => bif Nat.ble args.length fd.n then
          drun C Tb fu (callD fu inl orc d) fd.fi fd.body (argsT 0 args) st fun ex e' st' => match ex with
            | .normal => dres C Tb e' st' fd.rs fun vs => k (finT vs) st'
            | .ret => dres C Tb e' st' fd.rs fun vs => k (finT vs) st'
            | _ => none
        else none
      | none => none

/-- A function's run. -/
def runF (fu d : Nat) (inl : Nat → Option (FD U)) (orc : Nat → Option (Con U)) (fd : FD U) (as rs : List (AK U)) (nf : Nat → Bool) (x : denAs as) : Option (denAs rs) :=
  drun C Tb fu (callD C Tb fu inl orc d) fd.fi fd.body (argsT 0 (argTs C as nf 0 x)) ⟨[], [], 0, 0⟩ fun ex e' st' => match ex with
    | .normal => dres C Tb e' st' fd.rs fun vs => decAs C rs vs some
    | .ret => dres C Tb e' st' fd.rs fun vs => decAs C rs vs some
    | _ => none

variable {C Tb} {P : Program} {r : R}

structure FDOk (P : Program) (pf : FuncId → Bool) (f : Nat) (fd : FD U) : Prop where
  fn : ∃ fn, P.funcs[f]? = some fn ∧ fn.body = some fd.body ∧ fn.ntmps = fd.n ∧ fn.results = fd.rs.toArray
  code : isCode P f = true
  ok : codeOk ⟨pf, fd.fi.wr, fd.fi.own⟩ fd.n fd.body = true
  hok : headOk fd.fi fd.body = true

def ConOk (C : Cod U) (P : Program) (f : Nat) (c : Con U) : Prop := ∀ x y, c.fn x = some y → ∀ vs, ArgVs C c.as x vs → PureF P f vs (finV ((argTs C c.rs (fun _ => false) 0 y).map (trT C ⟨id, id, id, id⟩)))

theorem argT_bdd (hC : CodOk C) (a : AK U) (n : Bool) (x : denA a) : bdd 0 0 (argT C a n x) = true := by
  cases a <;> first | rfl | exact hC.bd _ _ | (cases x <;> rfl)
theorem argTs_bdd (hC : CodOk C) : ∀ (as : List (AK U)) (nf : Nat → Bool) (j : Nat) (x : denAs as), bdds 0 0 (argTs C as nf j x) = true
  | [], _, _, _ => rfl
  | a :: r, nf, j, x => by simp only [argTs, bdds, argT_bdd hC, argTs_bdd hC r, Bool.and_self]

theorem tr_any (hC : CodOk C) (N N' : NM) {l : List (T U)} (h : bdds 0 0 l = true) : l.map (trT C N') = l.map (trT C N) :=
  map_tr_ext (nl := 0) (nx := 0) ⟨fun _ h => by omega, fun _ h => by omega, fun _ h => by omega, fun _ h => by omega⟩ h

theorem decA_ok (hC : CodOk C) : ∀ (a : AK U) {v : T U} {K : denA a → Option R}, decA C a v K = some r → ∃ x, K x = some r ∧ ∀ N, ArgV C a x ((trT C N v).untag)
  | .int k, v, K, h => by
    simp only [decA] at h
    split at h
    · obtain ⟨h1, h2⟩ := bif_some h
      simp only [decide_eq_true_eq] at h1
      subst h1
      exact ⟨_, h2, fun N => rfl⟩
    · cases h
  | .bool, v, K, h => by
    simp only [decA] at h
    split at h
    · exact ⟨_, h, fun N => rfl⟩
    · cases h
  | .str, v, K, h => by
    simp only [decA] at h
    split at h
    · exact ⟨_, h, fun N => rfl⟩
    · cases h
  | .ls i, v, K, h => by
    simp only [decA] at h
    split at h
    · exact ⟨_, h, fun N => ⟨true, rfl⟩⟩
    · rename_i m j ys
      have hq := sameC_ok h; clear h; obtain ⟨rfl, h⟩ := hq
      simp only [castL] at h
      refine ⟨_, h, fun N => ?_⟩
      cases m with
      | b n => cases n with
        | false => exact ⟨false, rfl⟩
        | true => exact ⟨true, rfl⟩
      | dl => cases ys with
        | nil => exact ⟨true, rfl⟩
        | cons y ys => exact ⟨false, rfl⟩
      | ow t nb => cases nb with
        | false => exact ⟨false, rfl⟩
        | true => cases ys with
          | nil => exact ⟨true, rfl⟩
          | cons y ys => exact ⟨false, rfl⟩
    · cases h
  | .dl i, v, K, h => by
    simp only [decA] at h
    split at h
    · exact ⟨_, h, fun N => rfl⟩
    · rename_i m j ys
      have hq := sameC_ok h; clear h; obtain ⟨rfl, h⟩ := hq
      simp only [castL] at h
      split at h
      · refine ⟨_, h, fun N => ?_⟩
        cases ys <;> rfl
      · rename_i n
        obtain ⟨h1, h2⟩ := bif_some h
        refine ⟨_, h2, fun N => ?_⟩
        cases n <;> cases ys <;> simp at h1 <;> rfl
      · rename_i t nb
        cases nb with
        | true => exact ⟨_, h, fun N => rfl⟩
        | false =>
          simp only [cond_false] at h
          obtain ⟨h1, h2⟩ := bif_some h
          refine ⟨_, h2, fun N => ?_⟩
          cases ys <;> simp at h1
          rfl
    · cases h
  | .bl i, v, K, h => by
    simp only [decA] at h
    split at h
    · exact ⟨_, h, fun N => rfl⟩
    · rename_i m j ys
      have hq := sameC_ok h; clear h; obtain ⟨rfl, h⟩ := hq
      simp only [castL] at h
      split at h
      · refine ⟨_, h, fun N => ?_⟩
        cases ys <;> rfl
      · rename_i n
        refine ⟨_, h, fun N => ?_⟩
        cases n <;> rfl
      · rename_i t nb
        cases nb with
        | true => refine ⟨_, h, fun N => ?_⟩; cases ys <;> rfl
        | false => exact ⟨_, h, fun N => rfl⟩
    · cases h
  | .st i, v, K, h => by
    simp only [decA] at h
    obtain ⟨x, h1, h2⟩ := hC.dec i _ _ _ h
    exact ⟨x, h1, fun N => by show _ = trT C _ (C.enc i x); rw [hC.enc, h2]⟩
  | .err, v, K, h => by
    simp only [decA] at h
    split at h
    · exact ⟨true, h, fun N => rfl⟩
    · obtain ⟨h1, h2⟩ := bif_some h
      have e1 := isNilI_spec h1
      subst e1
      exact ⟨false, h2, fun N => rfl⟩
    · cases h

theorem decAs_ok (hC : CodOk C) : ∀ (as : List (AK U)) {vs : List (T U)} {K : denAs as → Option R}, decAs C as vs K = some r → ∃ x, K x = some r ∧ ∀ N, ArgVs C as x ((vs.map (trT C N)).map V.untag)
  | [], vs, K, h => by
    cases vs with
    | nil => exact ⟨_, h, fun N => rfl⟩
    | cons _ _ => cases h
  | a :: rest, vs, K, h => by
    cases vs with
    | nil => cases h
    | cons v vs =>
      simp only [decAs] at h
      obtain ⟨x, h1, h2⟩ := decA_ok hC a h
      obtain ⟨xs, h3, h4⟩ := decAs_ok hC rest h1
      exact ⟨_, h3, fun N => ⟨_, _, rfl, h2 N, h4 N⟩⟩

theorem finV_tr (N : NM) (vs : List (T U)) : finV (vs.map (trT C N)) = trT C N (finT vs) := by
  match vs with
  | [] => rfl
  | [x] => rfl
  | x :: y :: r => simp [finV, finT, trT, trTs_map]

theorem argsE_sim {st : St U} {N : NM} : ∀ (args : List (T U)) (n : Nat), bdds st.nl st.nx args = true → ESim C N st (argsT n args) (argsE n (args.map (trT C N)))
  | [], n, _, k => ⟨.inl rfl, rfl⟩
  | x :: xs, n, h, k => by
    simp only [bdds, Bool.and_eq_true] at h
    simp only [argsT, eget, List.map_cons, argsE, Env.get]
    by_cases e : n = k
    · subst e
      have : Nat.beq n n = true := by simp
      simp only [this, cond_true, if_true]
      exact ⟨.inr rfl, h.1⟩
    · simp only [beq_ne e, cond_false, if_neg e]
      exact argsE_sim xs (n + 1) h.2 k

theorem dres_okR (hT : TbOk C P Tb) (hC : CodOk C) {N : NM} {st : St U} {s : S} {e : En U} {E : Env} (hs : SSim C N st s) (he : ESim C N st e E) : ∀ (rs : List ResultVar) {K : List (T U) → Option R} {G : List V → Prop}, dres C Tb e st rs K = some r →
    (∀ vs, K vs = some r → G (vs.map (trT C N))) → aResultsR P rs E s G
  | [], K, G, h, hG => hG [] h
  | v :: rest, K, G, h, hG => by
    cases v with
    | tmp t =>
      simp only [dres, fe_eq] at h
      obtain ⟨h1, h2⟩ := bif_some h
      have hne : eget e t ≠ .any := fun e' => by rw [e'] at h1; simp [T.flat, oneAll, T.isOne] at h1
      simp only [aResultsR]
      rw [((he t).1).get hne, flat_tr]
      exact ⟨(allOne_tr C N _).2 h1, dres_okR hT hC hs he rest h2 fun vs hv => hG (_ :: vs) hv⟩
    | cell p t =>
      simp only [dres, fe_eq] at h
      simp only [aResultsR]
      refine dLoad_ok hT hC hs (he p).1 h fun v hv => ?_
      obtain ⟨h1, h2⟩ := bif_some hv
      rw [flat_tr]
      exact ⟨(allOne_tr C N _).2 h1, dres_okR hT hC hs he rest h2 fun vs hv => hG (_ :: vs) hv⟩

theorem dres_ok (hT : TbOk C P Tb) (hC : CodOk C) {N : NM} {st : St U} {s : S} {e : En U} {E : Env} (hs : SSim C N st s) (he : ESim C N st e E) : ∀ (rs : List ResultVar) {K : List (T U) → Option R} {G : List V → Prop}, dres C Tb e st rs K = some r →
    (∀ vs, K vs = some r → G ((vs.map (trT C N)).map V.untag)) → aResults P rs E s G
  | [], K, G, h, hG => hG [] h
  | v :: rest, K, G, h, hG => by
    cases v with
    | tmp t =>
      simp only [dres, fe_eq] at h
      obtain ⟨h1, h2⟩ := bif_some h
      have hne : eget e t ≠ .any := fun e' => by rw [e'] at h1; simp [T.flat, oneAll, T.isOne] at h1
      simp only [aResults]
      rw [((he t).1).get hne, flat_tr]
      exact ⟨(allOne_tr C N _).2 h1, dres_ok hT hC hs he rest h2 fun vs hv => hG (_ :: vs) hv⟩
    | cell p t =>
      simp only [dres, fe_eq] at h
      simp only [aResults]
      refine dLoad_ok hT hC hs (he p).1 h fun v hv => ?_
      obtain ⟨h1, h2⟩ := bif_some hv
      rw [flat_tr]
      exact ⟨(allOne_tr C N _).2 h1, dres_ok hT hC hs he rest h2 fun vs hv => hG (_ :: vs) hv⟩

theorem Sub.refl : ∀ l : List V, Sub l l
  | [] => .nil
  | _ :: r => .keep (Sub.refl r)

theorem okArgs_V (N : NM) : ∀ {l : List (T U)}, okArgs l = true → ((l.map (trT C N)).all fun x => x.flat.all V.isOne) = true
  | [], _ => rfl
  | x :: r, h => by
    simp only [okArgs, Bool.and_eq_true] at h
    simp only [List.map_cons, List.all_cons, Bool.and_eq_true]
    refine ⟨?_, okArgs_V N h.2⟩
    have := (allOne_tr C N x.flat).2 h.1
    rw [← flat_tr] at this
    exact this

/-- EVERY CALL IS SOUND. -/
theorem callD_ok (hT : TbOk C P Tb) (hC : CodOk C) (hm : P.follows .mixedOrders = true) {pf : FuncId → Bool} {fu : Nat} {inl : Nat → Option (FD U)} {orc : Nat → Option (Con U)}
    (hpf : ∀ f, pf f = (orc f).isSome) (hin : ∀ f fd, inl f = some fd → FDOk P pf f fd) (hor : ∀ f c, orc f = some c → isCode P f = true ∧ ConOk C P f c) :
    ∀ (d : Nat) (wr own : Nat → Bool), CallOk C P ⟨pf, wr, own⟩ (callD C Tb fu inl orc d : Call U R) r
  | 0, wr, own, f, args, st, k, N, s, _, _, _, h, _, _, _ => by simp [callD] at h
  | d + 1, wr, own, f, args, st, k, N, s, hs, hb, ha, h, K, KP, hK => by
    simp only [callD] at h
    split at h
    · rename_i c hc
      obtain ⟨h1, h2⟩ := hor f c hc
      obtain ⟨x, h3, h4⟩ := decAs_ok hC c.as h
      cases hx : c.fn x with
      | none => rw [hx] at h3; cases h3
      | some y =>
        rw [hx] at h3
        simp only [Option.bind_some, argK_eq C c.rs y 0] at h3
        refine ⟨h1, okArgs_V N ha, rfl, ?_⟩
        have hp : pf f = true := by rw [hpf, hc]; rfl
        show (if pf f = true then _ else _)
        rw [if_pos hp]
        refine ⟨rfl, _, h2 x y hx _ (h4 N), hK _ _ _ _ _ h3 (.refl _ _) hs (.inr ?_)⟩
        rw [tr_any hC N ⟨id, id, id, id⟩ (argTs_bdd hC c.rs _ 0 y), finV_tr]
    · rename_i hc
      split at h
      · rename_i fd hfd
        obtain ⟨h1, h2⟩ := bif_some h
        have hok := hin f fd hfd
        obtain ⟨fn, q1, q2, q3, q4⟩ := hok.fn
        refine ⟨hok.code, okArgs_V N ha, rfl, ?_⟩
        have hp : ¬ pf f = true := by rw [hpf, hc]; simp
        show (if pf f = true then _ else _)
        rw [if_neg hp]
        refine ⟨_, Sub.refl _, ?_⟩
        rw [List.append_nil]
        refine FnC_intro q1 q2 q3 q4 (by simpa [Nat.ble_eq] using h1) fun B => ?_
        refine run_ok (X := ⟨B, fd.n, none⟩) hT hC hm (callD_ok hT hC hm hpf hin hor d fd.fi.wr fd.fi.own) fd.body hs (argsE_sim args 0 hb) h2 hok.ok hok.hok ?_
        intro ex N' e' st' E' s' p1 p2 p3 p4 _
        have fin : (dres C Tb e' st' fd.rs fun vs => k (finT vs) st') = some r → aResultsR P fd.rs E' s' fun xs => ∃ s0, s'.sub s0 ∧ K (finV xs) s0 := fun hh =>
          dres_okR hT hC p3 p4 fd.rs hh fun vs hv => ⟨s', S.sub_refl _, hK _ _ _ _ _ hv p2 p3 (.inr (finV_tr N' vs))⟩
        cases ex <;> simp only at p1 <;> first | exact fin p1 | cases p1
      · cases h

/-- A FUNCTION'S CONTRACT. -/
theorem runF_ok (hT : TbOk C P Tb) (hC : CodOk C) (hm : P.follows .mixedOrders = true) {pf : FuncId → Bool} {fu d : Nat} {inl : Nat → Option (FD U)} {orc : Nat → Option (Con U)} (hpf : ∀ f, pf f = (orc f).isSome)
    (hin : ∀ f fd, inl f = some fd → FDOk P pf f fd) (hor : ∀ f c, orc f = some c → isCode P f = true ∧ ConOk C P f c) {f : Nat} {fd : FD U} (hfd : FDOk P pf f fd) {c : Con U} (hlen : c.as.length ≤ fd.n)
    (hrs : ∀ a ∈ c.rs, ∀ i, a ≠ .ls i) (h : ∀ nf x, runF C Tb fu d inl orc fd c.as c.rs nf x = c.fn x) : ConOk C P f c := by
  intro x y hx vs hvs
  obtain ⟨fn, q1, q2, q3, q4⟩ := hfd.fn
  have hnf : ∃ nf, vs = (argTs C c.as nf 0 x).map (trT C ⟨id, id, id, id⟩) := by
    have key : ∀ (as : List (AK U)) (x : denAs as) (vs : List V) (j : Nat), ArgVs C as x vs → ∃ nf : Nat → Bool, vs = (argTs C as nf j x).map (trT C ⟨id, id, id, id⟩) := by
      intro as
      induction as with
      | nil => intro x vs j h; exact ⟨fun _ => false, h⟩
      | cons a r ih =>
        intro x vs j h
        obtain ⟨v, vs', rfl, h1, h2⟩ := h
        obtain ⟨nf, h3⟩ := ih x.2 vs' (j + 1) h2
        have h4 : ∃ n, v = trT C ⟨id, id, id, id⟩ (argT C a n x.1) := by
          cases a with
          | ls i => obtain ⟨n, hn⟩ := h1; exact ⟨n, by rw [hn]; cases n <;> rfl⟩
          | _ => exact ⟨false, h1⟩
        obtain ⟨n, h4⟩ := h4
        have hcong : ∀ (as : List (AK U)) (x : denAs as) (nf nf' : Nat → Bool) (j : Nat), (∀ m, j ≤ m → nf m = nf' m) → argTs C as nf j x = argTs C as nf' j x := by
          intro as
          induction as with
          | nil => intros; rfl
          | cons a r ih =>
            intro x nf nf' j hh
            simp only [argTs, hh j (Nat.le_refl _), ih x.2 nf nf' (j + 1) fun m hm => hh m (by omega)]
        refine ⟨fun m => if m = j then n else nf m, ?_⟩
        simp only [argTs, List.map_cons, if_true]
        rw [h3, h4, hcong r x.2 (fun m => if m = j then n else nf m) nf (j + 1) fun m hm => if_neg (by omega)]
    exact key c.as x vs 0 hvs
  obtain ⟨nf, rfl⟩ := hnf
  have hlenA : ∀ (as : List (AK U)) (nf : Nat → Bool) (j : Nat) (x : denAs as), (argTs C as nf j x).length = as.length := by
    intro as
    induction as with
    | nil => intros; rfl
    | cons a r ih => intro nf j x; simp [argTs, ih]
  have hrun := (h nf x).trans hx
  unfold runF at hrun
  refine PureF_intro q1 q2 q3 q4 (by rw [List.length_map, hlenA]; exact hlen) fun B => ?_
  refine run_ok (X := ⟨B, fd.n, none⟩) hT hC hm (callD_ok hT hC hm hpf hin hor d fd.fi.wr fd.fi.own) fd.body (SSim.empty ⟨id, id, id, id⟩ 0 0 _) (argsE_sim (st := ⟨[], [], 0, 0⟩) _ 0 (argTs_bdd hC c.as nf 0 x)) hrun hfd.ok hfd.hok ?_
  intro ex N' e' st' E' s' p1 p2 p3 p4 _
  have resV : ∀ (rs : List (AK U)), (∀ a ∈ rs, ∀ i, a ≠ .ls i) → ∀ (y : denAs rs) (us : List V) (j : Nat), ArgVs C rs y us → us = (argTs C rs (fun _ => false) j y).map (trT C ⟨id, id, id, id⟩) := by
    intro rs
    induction rs with
    | nil => intro _ y us j hu; exact hu
    | cons a r ih =>
      intro hr y us j hu
      obtain ⟨v, vs', rfl, h1, h2⟩ := hu
      simp only [argTs, List.map_cons]
      rw [← ih (fun a ha => hr a (by simp [ha])) y.2 vs' (j + 1) h2]
      congr 1
      cases a with
      | ls i => exact absurd rfl (hr (.ls i) (by simp) i)
      | _ => exact h1
  have fin : (dres C Tb e' st' fd.rs fun vs => decAs C c.rs vs some) = some y → aResults P fd.rs E' s' fun xs => Outc.ret (finV xs) = .ret (finV ((argTs C c.rs (fun _ => false) 0 y).map (trT C ⟨id, id, id, id⟩))) := fun hh =>
    dres_ok hT hC p3 p4 fd.rs hh fun vs hv => by
      obtain ⟨y', h1, h2⟩ := decAs_ok hC c.rs hv
      injection h1 with h1
      subst h1
      rw [resV c.rs hrs y' _ 0 (h2 N')]
  cases ex <;> simp only at p1 <;> first | exact fin p1 | cases p1

end
end Go.Den

/-
  DEN, part 11: the parts of structs, read and laid. General: no program in sight.
-/
namespace Go.Den
open Go.Al

section
variable {U : TyU} {R : Type} {r : R}

def pInt (k : IntKind) (v : T U) (K : Int → Option R) : Option R :=
  match v with
  | .int k' n => bif decide (k' = k) then K n else none
  | _ => none
def pBool (v : T U) (K : Bool → Option R) : Option R :=
  match v with
  | .bool b => K b
  | _ => none
def pStr (v : T U) (K : List UInt8 → Option R) : Option R :=
  match v with
  | .str s => K s
  | _ => none
def pDl (i : U.I) (v : T U) (K : List (U.den i) → Option R) : Option R :=
  match v with
  | .nil => K []
  | .lst m j ys => sameC i j ys fun xs => (match m with
    | .dl => K xs
    | .b n => bif (bif n then xs.isEmpty else !xs.isEmpty) then K xs else none
    | .ow _ nb => bif nb then K xs else bif !xs.isEmpty then K xs else none)
  | _ => none

variable {C : Cod U}

theorem pInt_ok {k : IntKind} {v : T U} {K : Int → Option R} (h : pInt k v K = some r) : ∃ x, K x = some r ∧ (∀ N, trT C N v = .at (.int k x)) ∧ ∀ N, untag1 (trT C N v) = .at (.int k x) := by
  unfold pInt at h
  split at h
  · obtain ⟨h1, h2⟩ := bif_some h
    simp only [decide_eq_true_eq] at h1
    subst h1
    exact ⟨_, h2, fun _ => rfl, fun _ => rfl⟩
  · cases h
theorem pBool_ok {v : T U} {K : Bool → Option R} (h : pBool v K = some r) : ∃ x, K x = some r ∧ (∀ N, trT C N v = .at (.bool x)) ∧ ∀ N, untag1 (trT C N v) = .at (.bool x) := by
  unfold pBool at h
  split at h
  · exact ⟨_, h, fun _ => rfl, fun _ => rfl⟩
  · cases h
theorem pStr_ok {v : T U} {K : List UInt8 → Option R} (h : pStr v K = some r) : ∃ x, K x = some r ∧ (∀ N, trT C N v = .at (.string ⟨x.toArray⟩)) ∧ ∀ N, untag1 (trT C N v) = .at (.string ⟨x.toArray⟩) := by
  unfold pStr at h
  split at h
  · exact ⟨_, h, fun _ => rfl, fun _ => rfl⟩
  · cases h
theorem pDl_ok {i : U.I} {v : T U} {K : List (U.den i) → Option R} (h : pDl i v K = some r) : ∃ x, K x = some r ∧ ∀ N, untag1 (trT C N v) = .lst (tagOf (x.map (C.encV i))) (x.map (C.encV i)) := by
  unfold pDl at h
  split at h
  · exact ⟨_, h, fun N => rfl⟩
  · rename_i m j ys
    have hq := sameC_ok h; clear h; obtain ⟨rfl, h⟩ := hq
    simp only [castL] at h
    split at h
    · refine ⟨_, h, fun N => ?_⟩
      cases ys <;> rfl
    · rename_i n
      obtain ⟨h1, h2⟩ := bif_some h
      refine ⟨_, h2, fun N => ?_⟩
      cases n <;> cases ys <;> simp at h1 <;> rfl
    · rename_i t nb
      cases nb with
      | true => exact ⟨_, h, fun N => rfl⟩
      | false =>
        simp only [cond_false] at h
        obtain ⟨h1, h2⟩ := bif_some h
        refine ⟨_, h2, fun N => ?_⟩
        cases ys <;> simp at h1
        rfl
  · cases h

theorem untag_at' (v : Value) : untag1 (.at v) = .at v := rfl
theorem untag_of1 {x y : V} (h : untag1 x = y) (hy : y.isAgg = false := by rfl) : x.untag = y := by
  cases x <;> first | exact h | (subst h; cases hy)
theorem untag_dl (es : List V) : untag1 (.lst (tagOf es) es) = .lst (tagOf es) es := untag1_tagOf es
theorem bdd_dl (nl nx : Nat) {i : U.I} (xs : List (U.den i)) : bdd nl nx (.lst .dl i xs : T U) = true := rfl

/-- A table of types. -/
def findD : List (Nat × TD U) → Nat → TD U
  | [], _ => {}
  | (k, d) :: r, t => bif Nat.beq k t then d else findD r t
theorem findD_ok {P : Program} : ∀ {l : List (Nat × TD U)}, (∀ p ∈ l, Facts C P p.1 p.2) → TbOk C P (findD l)
  | [], _, t, h => by simp [findD] at h
  | (k, d) :: r, hl, t, h => by
    simp only [findD] at h ⊢
    by_cases e : k = t
    · subst e
      have : Nat.beq k k = true := by simp
      simp only [this, cond_true] at h ⊢
      exact hl (k, d) (by simp)
    · simp only [beq_ne e, cond_false] at h ⊢
      exact findD_ok (fun p hp => hl p (by simp [hp])) t h

/-- A function's code. -/
def bodyOf (fn : Func) : Code := fn.body.getD .skip

/-- Tables of functions. -/
def findF {α : Type} : List (Nat × α) → Nat → Option α
  | [], _ => none
  | (k, d) :: r, t => bif Nat.beq k t then some d else findF r t
theorem findF_ok {α : Type} {p : Nat → α → Prop} : ∀ {l : List (Nat × α)}, (∀ q ∈ l, p q.1 q.2) → ∀ f a, findF l f = some a → p f a
  | [], _, f, a, h => by simp [findF] at h
  | (k, d) :: r, hl, f, a, h => by
    simp only [findF] at h
    by_cases e : k = f
    · subst e
      have : Nat.beq k k = true := by simp
      simp only [this, cond_true] at h
      injection h with h
      subst h
      exact hl (k, d) (by simp)
    · simp only [beq_ne e, cond_false] at h
      exact findF_ok (fun q hq => hl q (by simp [hq])) f a h

theorem findF_some {α : Type} : ∀ {l : List (Nat × α)} (f : Nat), (findF l f).isSome = hasN (l.map (·.1)) f
  | [], _ => rfl
  | (k, d) :: r, f => by
    simp only [findF, List.map_cons, hasN]
    by_cases e : k = f
    · have : Nat.beq k f = true := by simpa using e
      simp [this]
    · simp only [beq_ne e, cond_false]
      exact findF_some f

def noLs : List (AK U) → Bool
  | [] => true
  | a :: r => (match a with | .ls _ => false | _ => true) && noLs r
theorem noLs_spec : ∀ {l : List (AK U)}, noLs l = true → ∀ a ∈ l, ∀ i, a ≠ .ls i
  | [], _, a, ha, _ => by simp at ha
  | b :: r, h, a, ha, i => by
    simp only [noLs, Bool.and_eq_true] at h
    rcases List.mem_cons.1 ha with rfl | ha
    · intro e; subst e; simp at h
    · exact noLs_spec h.2 a ha i

theorem ConOk.sub {P : Program} {f : Nat} {as rs : List (AK U)} {fn fn' : denAs as → Option (denAs rs)} (h : ConOk C P f ⟨as, rs, fn⟩) (hs : ∀ x y, fn' x = some y → fn x = some y) : ConOk C P f ⟨as, rs, fn'⟩ :=
  fun x y hx => h x y (hs x y hx)

theorem findF_nil {α : Type} {p : Nat → α → Prop} : ∀ f a, findF ([] : List (Nat × α)) f = some a → p f a := fun f a h => by simp [findF] at h
theorem findF_cons {α : Type} {p : Nat → α → Prop} {k : Nat} {d : α} {r : List (Nat × α)} (h0 : p k d) (hr : ∀ f a, findF r f = some a → p f a) : ∀ f a, findF ((k, d) :: r) f = some a → p f a := fun f a h => by
  simp only [findF] at h
  by_cases e : k = f
  · subst e
    have : Nat.beq k k = true := by simp
    simp only [this, cond_true] at h
    injection h with h
    subst h
    exact h0
  · simp only [beq_ne e, cond_false] at h
    exact hr f a h

/-- A loop: what holds at its head, what goes down. -/
theorem iter_ind {σ R : Type} {F : (σ → Option R) → σ → Option R} {r : R} (I : σ → Prop) (μ : σ → Nat) (step : ∀ (rec : σ → Option R) s, I s → (∀ s', I s' → μ s' < μ s → rec s' = some r) → F rec s = some r) :
    ∀ (n : Nat) (s : σ), I s → μ s < n → iter n F s = some r := by
  intro n
  induction n with
  | zero => intro s _ h; omega
  | succ n ih =>
    intro s hs hn
    simp only [iter]
    exact step _ s hs fun s' hs' hlt => ih s' hs' (by omega)

end
end Go.Den
