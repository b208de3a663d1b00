/-
  DEN, part 6: ghost steps; kinds of what a loop carries: laid into a store, and read out of one. General: no program in sight.
-/
import Derived.Test.YtdedkemkmccliaaD5
set_option linter.unusedVariables false
set_option linter.unusedSimpArgs false
namespace Go.Den
open Go.Al

/-- A ghost step: the world stays, what is known of it turns. -/
def Gst (X : Cx) (E : Env) (s : S) (E' : Env) (s' : S) : Prop := ∀ g a w, Rel X g E s a w → ∃ g', Step X.B g w g' w ∧ Rel X g' E' s' a w

theorem Gst.refl (X : Cx) (E : Env) (s : S) : Gst X E s E s := fun g a w h => ⟨g, .refl _ _ _, h⟩
theorem Gst.trans {X : Cx} {E E1 E2 : Env} {s s1 s2 : S} (h : Gst X E s E1 s1) (h' : Gst X E1 s1 E2 s2) : Gst X E s E2 s2 := fun g a w hr => by
  obtain ⟨g1, k1, k2⟩ := h g a w hr
  obtain ⟨g2, k3, k4⟩ := h' g1 a w k2
  exact ⟨g2, k1.trans k3, k4⟩
theorem awp_gst {P : Program} {X : Cx} {Q : Exit → Env → S → Prop} {c : Code} {E E' : Env} {s s' : S} (hg : Gst X E s E' s') (h : awp P X c Q E' s') : awp P X c Q E s := by
  intro g a w hr
  obtain ⟨g1, k1, k2⟩ := hg g a w hr
  refine wp_mono (h g1 a w k2) ?_
  rintro ex a' w' ⟨g', e', st', q1, q2, q3⟩
  exact ⟨g', e', st', k1.trans q1, q2, q3⟩

theorem gst_mkown {X : Cx} {E : Env} {s : S} (k sz : Nat) (h0 : E.get k = .lst .nil []) : Gst X E s (E.put k (.lst (.own s.nx true sz) [])) ⟨s.box, s.nx :: s.tg, s.nx + 1⟩ := by
  intro g a w hr
  obtain ⟨i2, l2⟩ := hr.inv.addTag rfl none (fun _ _ _ _ e => by cases e)
  have h1 := hr.env k
  rw [h0] at h1
  have h2 := RV_nil h1
  refine ⟨⟨g.wm, fun j => if j = s.nx then some none else g.tb j⟩, ⟨l2, .refl _ _, fun _ => rfl, fun _ _ => rfl⟩, i2, fun j => ?_, hr.size, hr.df⟩
  rw [Env.get_put]
  split
  · rename_i e1
    subst e1
    rw [h2]
    refine RV_lst_mk ?_
    simp only [RC]
    exact .inl ⟨trivial, trivial, if_pos rfl, rfl⟩
  · exact (hr.env j).later l2

theorem RCs_set_of {g : Gh} {w : World} {x y : V} (hx : ∀ u, RC g w x u → RC g w y u) : ∀ {cs : List V} {us : List Value} {j : Nat}, cs[j]? = some x → RCs g w cs us → RCs g w (cs.set j y) us
  | [], us, j, hj, _ => by simp at hj
  | c :: r, us, 0, hj, h => by
    simp only [RCs] at h
    obtain ⟨u1, u2, rfl, h1, h2⟩ := h
    simp only [List.getElem?_cons_zero, Option.some.injEq] at hj
    subst hj
    simp only [List.set_cons_zero, RCs]
    exact ⟨u1, u2, rfl, hx _ h1, h2⟩
  | c :: r, us, j + 1, hj, h => by
    simp only [RCs] at h
    obtain ⟨u1, u2, rfl, h1, h2⟩ := h
    simp only [List.getElem?_cons_succ] at hj
    simp only [List.set_cons_succ, RCs]
    exact ⟨u1, u2, rfl, h1, RCs_set_of hx hj h2⟩

theorem gst_mkownB {X : Cx} {E : Env} {s : S} (b j sz : Nat) {cs : List V} {k : Nat} (h0 : Al.look s.box b = some (cs, k)) (hj : cs[j]? = some (.lst .nil [])) :
    Gst X E s E ⟨lay s.box b (cs.set j (.lst (.own s.nx true sz) []), k), s.nx :: s.tg, s.nx + 1⟩ := by
  intro g a w hr
  obtain ⟨i2, l2⟩ := hr.inv.addTag rfl none (fun _ _ _ _ e => by cases e)
  obtain ⟨p1, p2, p3, p4, arr, el, us, p5, p6, p7, p8⟩ := i2.box b cs k h0
  refine ⟨⟨g.wm, fun j => if j = s.nx then some none else g.tb j⟩, ⟨l2, .refl _ _, fun _ => rfl, fun _ _ => rfl⟩, ?_, fun i => (hr.env i).later l2, hr.size, hr.df⟩
  have := i2.addBox (b := b) (arr := arr) (el := el) (cs := cs.set j (.lst (.own s.nx true sz) [])) (us := us) p1 p2 p5 (by simp; omega)
    (fun c hc => by
      rcases List.mem_or_eq_of_mem_set hc with h2 | h2
      · exact p4 c h2
      · subst h2; rfl)
    (RCs_set_of (fun u hu => by
      simp only [RC] at hu ⊢
      rcases hu with ⟨_, hu, _⟩ | ⟨b, o, cap, ds, _, _, ht, _⟩
      · exact .inl ⟨trivial, hu, if_pos rfl, rfl⟩
      · exact ht.elim) hj p7) (by simpa using p8) (fun t ht d hd => by
        obtain ⟨cap', n', sz'⟩ := d
        obtain ⟨r1, r2, r3, r4, r5, r6⟩ := i2.own t ht b cap' n' sz' hd
        have h0' : Al.look (⟨s.box, s.nx :: s.tg, s.nx + 1⟩ : S).box b = some (cs, k) := h0
        rw [h0'] at r5; cases r5)
  rw [p6] at this
  exact this

theorem gst_trunc {X : Cx} {E : Env} {s : S} (b m : Nat) {cs : List V} {k : Nat} (h0 : Al.look s.box b = some (cs, k)) : Gst X E s E ⟨lay s.box b (cs.take m, k), s.tg, s.nx⟩ := by
  intro g a w hr
  have hi := hr.inv
  obtain ⟨p1, p2, p3, p4, arr, el, us, p5, p6, p7, p8⟩ := hi.box b cs k h0
  refine ⟨g, .refl _ _ _, ?_, hr.env, hr.size, hr.df⟩
  have hone : allOne cs := by unfold allOne; rw [List.all_eq_true]; exact p4
  have hul := RCs_length g w cs us p7
  rw [sizes_one hone] at hul
  have := hi.addBox (b := b) (arr := arr) (el := el) (cs := cs.take m) (us := us.take m) p1 p2 p5 (by simp; omega)
    (fun c hc => p4 c (List.mem_of_mem_take hc)) (RCs_take_drop hone p7 m).1 (by
      rw [← p8, List.take_take, List.length_take]) (fun t ht d hd => by
        obtain ⟨cap', n', sz'⟩ := d
        obtain ⟨r1, r2, r3, r4, r5, r6⟩ := hi.own t ht b cap' n' sz' hd
        rw [h0] at r5; cases r5)
  rw [p6] at this
  exact this

/-- Kinds of what a loop carries. -/
inductive SK (U : TyU) where
  | int (k : IntKind)
  | bool
  | str
  | dl (i : U.I)
  | bl (i : U.I)
  | ow (nb : Bool) (i : U.I)
  | arr (i : U.I)
  | box (cs : List (SK U))
  | st (i : U.I)

mutual
def denK {U : TyU} : SK U → Type
  | .int _ => Int
  | .bool => Bool
  | .str => List UInt8
  | .dl i => List (U.den i)
  | .bl i => Bool × List (U.den i)
  | .ow _ i => List (U.den i)
  | .arr i => Option (List (U.den i))
  | .box cs => denKs cs
  | .st i => U.den i
def denKs {U : TyU} : List (SK U) → Type
  | [] => Unit
  | k :: r => denK k × denKs r
end

/-- The two cases of what is there or not, as they stand in what is printed. -/
def oCase {α β : Type} (o : Option α) (a : β) (f : α → β) : β :=
  match o with
  | none => a
  | some x => f x

def takeL {α : Type} (n : Nat) (xs : List α) : List α := xs.take n
def eqN (a b : Nat) : Bool := Nat.beq a b

section
variable {U : TyU} (C : Cod U) {R : Type}

mutual
def putK : (s : SK U) → denK s → St U → (T U → St U → Option R) → Option R
  | .int k, x, st, K => K (.int k x) st
  | .bool, x, st, K => K (.bool x) st
  | .str, x, st, K => K (.str x) st
  | .dl i, x, st, K => K (.lst .dl i x) st
  | .bl i, x, st, K => K (.lst (.b x.1) i x.2) st
  | .ow nb i, x, st, K => K (.lst (.ow st.nx nb) i x) ⟨st.bx, st.nx :: st.tg, st.nl, st.nx + 1⟩
  | .arr i, x, st, K => oCase x (K .nil st) fun ys => K (.sl st.nl ys.length) ⟨(st.nl, some (.ar i ys)) :: st.bx, st.tg, st.nl + 1, st.nx⟩
  | .box cs, x, st, K => putKs cs x st fun vs st' => bif oneAll vs then K (.ptr st'.nl 0) ⟨(st'.nl, some (.st vs)) :: st'.bx, st'.tg, st'.nl + 1, st'.nx⟩ else none
  | .st i, x, st, K => K (C.enc i x) st
def putKs : (l : List (SK U)) → denKs l → St U → (List (T U) → St U → Option R) → Option R
  | [], _, st, K => K [] st
  | k :: r, x, st, K => putK k x.1 st fun v st' => feS st' fun st' => putKs r x.2 st' fun vs st'' => K (v :: vs) st''
end

/-- It is as it reads without its name. -/
def exact1 : T U → Bool
  | .lst m _ _ => (match m with | .ow _ _ => false | _ => true)
  | _ => true
def exactT : T U → Bool
  | .agg fs => fs.all exact1
  | x => exact1 x

mutual
def getK : (s : SK U) → T U → St U → (denK s → St U → Option R) → Option R
  | .int k, v, st, K => (match v with | .int k' n => bif decide (k' = k) then K n st else none | _ => none)
  | .bool, v, st, K => (match v with | .bool b => K b st | _ => none)
  | .str, v, st, K => (match v with | .str s => K s st | _ => none)
  | .dl i, v, st, K => (match v with
    | .nil => K [] st
    | .lst m j ys => sameC i j ys fun xs => (match m with
      | .dl => K xs st
      | .b n => bif (bif n then xs.isEmpty else !xs.isEmpty) then K xs st else none
      | .ow _ _ => none)
    | _ => none)
  | .bl i, v, st, K => (match v with
    | .nil => K (true, []) st
    | .lst m j ys => sameC i j ys fun xs => (match m with
      | .dl => K (xs.isEmpty, xs) st
      | .b n => K (n, xs) st
      | .ow _ _ => none)
    | _ => none)
  | .ow nb i, v, st, K => (match v with
    | .lst m j ys => sameC i j ys fun xs => (match m with
      | .ow t nb' => bif beqB nb' nb && hasN st.tg t then K xs ⟨st.bx, rmN st.tg t, st.nl, st.nx⟩ else none
      | _ => none)
    | _ => none)
  | .arr i, v, st, K => (match v with
    | .nil => K none st
    | .sl l n => (match lk st.bx l with
      | some (.ar j ys) => sameC i j ys fun xs => bif eqN n xs.length then K (some xs) ⟨(l, none) :: st.bx, st.tg, st.nl, st.nx⟩ else none
      | _ => none)
    | _ => none)
  | .box cs, v, st, K => (match v with
    | .ptr l o => bif Nat.beq o 0 then (match lk st.bx l with
      | some (.st vs) => feS ⟨(l, none) :: st.bx, st.tg, st.nl, st.nx⟩ fun st' => getKs cs vs st' K
      | _ => none) else none
    | _ => none)
  | .st i, v, st, K => bif exactT v then C.dec i v fun x => K x st else none
def getKs : (l : List (SK U)) → List (T U) → St U → (denKs l → St U → Option R) → Option R
  | [], vs, st, K => (match vs with | [] => K () st | _ :: _ => none)
  | k :: r, vs, st, K => (match vs with
    | [] => none
    | v :: vs => getK k v st fun x st' => feS st' fun st' => getKs r vs st' fun xs st'' => K (x, xs) st'')
end

/-- What belongs to one alone: names, blocks. -/
abbrev Res := Nat ⊕ Nat

mutual
/-- An abstract value is of a kind; what it holds alone. -/
def VK (s : S) : (k : SK U) → denK k → V → List Res → Prop
  | .int k, x, v, rs => v = .at (.int k x) ∧ rs = []
  | .bool, x, v, rs => v = .at (.bool x) ∧ rs = []
  | .str, x, v, rs => v = trT C ⟨id, id, id, id⟩ (.str x) ∧ rs = []
  | .dl i, x, v, rs => v = .lst (tagOf (x.map (C.encV i))) (x.map (C.encV i)) ∧ rs = []
  | .bl i, x, v, rs => v = .lst (if x.1 then .nil else .no) (x.2.map (C.encV i)) ∧ rs = []
  | .ow nb i, x, v, rs => ∃ n, v = .lst (.own n nb (C.cells i)) (x.map (C.encV i)) ∧ n ∈ s.tg ∧ n < s.nx ∧ rs = [.inl n]
  | .arr i, x, v, rs => match x with
    | none => v = .lst .nil [] ∧ rs = []
    | some xs => ∃ b cap, v = .at (.slice (some ⟨b, 0, none⟩) xs.length cap) ∧ xs.length ≤ cap ∧ Al.look s.box b = some (flats (xs.map (C.encV i)), cap * C.cells i) ∧ rs = [.inr b]
  | .box cs, x, v, rs => ∃ b vs rs', v = .at (.pointer (some ⟨b, 0, none⟩)) ∧ Al.look s.box b = some (vs, vs.length) ∧ VKs s cs x vs rs' ∧ rs = .inr b :: rs'
  | .st i, x, v, rs => v = C.encV i x ∧ rs = []
def VKs (s : S) : (l : List (SK U)) → denKs l → List V → List Res → Prop
  | [], _, vs, rs => vs = [] ∧ rs = []
  | k :: r, x, vs, rs => ∃ v vs' r1 r2, vs = v :: vs' ∧ rs = r1 ++ r2 ∧ VK s k x.1 v r1 ∧ VKs s r x.2 vs' r2
end

/-- What a typed store holds alone. -/
def Has (N : NM) (st : St U) : Res → Prop
  | .inl n => ∃ t ∈ st.tg, N.tk t = n
  | .inr b => ∃ l x, lk st.bx l = some x ∧ N.bl l = b

variable {C}

theorem SSim.addBox {N : NM} {st : St U} {s : S} (hs : SSim C N st s) {b c z : Nat} {bx : Bx U} (hno : ¬ Has N st (.inr b)) (hl : Al.look s.box b = some (trB C (N.loc st.nl b c z) st.nl bx)) (hw : wfB C (N.loc st.nl b c z) (st.nl + 1) st.nx st.nl bx) :
    SSim C (N.loc st.nl b c z) ⟨(st.nl, some bx) :: st.bx, st.tg, st.nl + 1, st.nx⟩ s := by
  have hext := N.ext_loc st.nl st.nx b c z
  have hbl : ∀ l, l < st.nl → (N.loc st.nl b c z).bl l = N.bl l := hext.bl
  have hbn : (N.loc st.nl b c z).bl st.nl = b := if_pos rfl
  have hne : ∀ l b', lk st.bx l = some b' → b ≠ N.bl l := fun l b' hl e => hno ⟨l, b', hl, e.symm⟩
  refine ⟨?_, ?_, ?_, ?_, hs.tgIn, hs.tgInj, hs.tgLt, hs.nm⟩
  · intro l b' hl'
    rw [lk_cons] at hl'
    by_cases e : st.nl = l
    · rw [if_pos e] at hl'
      injection hl' with hl'
      subst hl'; subst e
      rw [hbn]; exact hl
    · rw [if_neg e] at hl'
      rw [hbl l (hs.lt l b' hl'), hs.box l b' hl', trB_ext hs hext (Nat.le_refl _) (Nat.le_refl _) hl']
  · intro l b' hl'
    rw [lk_cons] at hl'
    by_cases e : st.nl = l
    · show l < st.nl + 1; omega
    · rw [if_neg e] at hl'
      have hlt := hs.lt l b' hl'
      show l < st.nl + 1; omega
  · intro l b' hl'
    rw [lk_cons] at hl'
    by_cases e : st.nl = l
    · rw [if_pos e] at hl'
      injection hl' with hl'
      subst hl'; subst e
      exact hw
    · rw [if_neg e] at hl'
      exact wfB_ext hext (Nat.le_succ _) (Nat.le_refl _) (hs.lt l b' hl') (hs.wf l b' hl')
  · intro l l' b1 b2 h1 h2 he
    rw [lk_cons] at h1 h2
    by_cases e : st.nl = l
    · by_cases e' : st.nl = l'
      · omega
      · rw [if_neg e'] at h2
        subst e
        rw [hbn, hbl l' (hs.lt l' b2 h2)] at he
        exact absurd he (hne l' b2 h2)
    · rw [if_neg e] at h1
      by_cases e' : st.nl = l'
      · subst e'
        rw [hbn, hbl l (hs.lt l b1 h1)] at he
        exact absurd he.symm (hne l b1 h1)
      · rw [if_neg e'] at h2
        rw [hbl l (hs.lt l b1 h1), hbl l' (hs.lt l' b2 h2)] at he
        exact hs.inj l l' b1 b2 h1 h2 he

theorem SSim.addTok {N : NM} {st : St U} {s : S} (hs : SSim C N st s) {n : Nat} (hno : ¬ Has N st (.inl n)) (h1 : n ∈ s.tg) (h2 : n < s.nx) :
    SSim C (N.tok st.nx n) ⟨st.bx, st.nx :: st.tg, st.nl, st.nx + 1⟩ s := by
  have hext := N.ext_tok st.nl st.nx n
  have htk : ∀ t, t < st.nx → (N.tok st.nx n).tk t = N.tk t := hext.tk
  have htn : (N.tok st.nx n).tk st.nx = n := if_pos rfl
  have hne : ∀ t ∈ st.tg, N.tk t ≠ n := fun t ht e => hno ⟨t, ht, e⟩
  refine ⟨fun l b hl => ?_, hs.lt, fun l b hl => ?_, fun l l' b b' q1 q2 he => hs.inj l l' b b' q1 q2 he, ?_, ?_, ?_, ?_⟩
  · rw [trB_ext hs hext (Nat.le_refl _) (Nat.le_refl _) hl]
    exact hs.box l b hl
  · exact wfB_ext hext (Nat.le_refl _) (Nat.le_succ _) (hs.lt l b hl) (hs.wf l b hl)
  · intro t ht
    rcases List.mem_cons.1 ht with rfl | ht
    · rw [htn]; exact h1
    · rw [htk t (hs.tgLt t ht)]; exact hs.tgIn t ht
  · intro t ht t' ht' he
    rcases List.mem_cons.1 ht with rfl | ht
    · rcases List.mem_cons.1 ht' with rfl | ht'
      · rfl
      · rw [htn, htk t' (hs.tgLt t' ht')] at he
        exact absurd he.symm (hne t' ht')
    · rcases List.mem_cons.1 ht' with rfl | ht'
      · rw [htn, htk t (hs.tgLt t ht)] at he
        exact absurd he (hne t ht)
      · rw [htk t (hs.tgLt t ht), htk t' (hs.tgLt t' ht')] at he
        exact hs.tgInj t ht t' ht' he
  · intro t ht
    show t < st.nx + 1
    rcases List.mem_cons.1 ht with rfl | ht
    · omega
    · have := hs.tgLt t ht; omega
  · intro t ht
    rcases List.mem_cons.1 ht with rfl | ht
    · rw [htn]; exact h2
    · rw [htk t (hs.tgLt t ht)]; exact hs.nm t ht

theorem has_loc {N : NM} {st : St U} {s : S} (hs : SSim C N st s) {b c z : Nat} {bx : Option (Bx U)} {x : Res} (h : Has (N.loc st.nl b c z) ⟨(st.nl, bx) :: st.bx, st.tg, st.nl + 1, st.nx⟩ x) : x = .inr b ∨ Has N st x := by
  have hext := N.ext_loc st.nl st.nx b c z
  cases x with
  | inl n => exact .inr h
  | inr b' =>
    obtain ⟨l, y, hl, he⟩ := h
    have hl' : lk ((st.nl, bx) :: st.bx) l = some y := hl
    rw [lk_cons] at hl'
    by_cases e : st.nl = l
    · subst e
      have : (N.loc st.nl b c z).bl st.nl = b := if_pos rfl
      rw [this] at he
      exact .inl (by rw [he])
    · rw [if_neg e] at hl'
      rw [hext.bl l (hs.lt l y hl')] at he
      exact .inr ⟨l, y, hl', he⟩
theorem has_tok {N : NM} {st : St U} {s : S} (hs : SSim C N st s) {n : Nat} {x : Res} (h : Has (N.tok st.nx n) ⟨st.bx, st.nx :: st.tg, st.nl, st.nx + 1⟩ x) : x = .inl n ∨ Has N st x := by
  have hext := N.ext_tok st.nl st.nx n
  cases x with
  | inr b => exact .inr h
  | inl n' =>
    obtain ⟨t, ht, he⟩ := h
    rcases List.mem_cons.1 ht with rfl | ht
    · have : (N.tok st.nx n).tk st.nx = n := if_pos rfl
      rw [this] at he
      exact .inl (by rw [he])
    · rw [hext.tk t (hs.tgLt t ht)] at he
      exact .inr ⟨t, ht, he⟩

mutual
/-- LAID DOWN. -/
theorem putK_ok (hC : CodOk C) {r : R} : ∀ (k : SK U) (x : denK k) {N : NM} {st : St U} {s : S} {v : V} {rs : List Res} {K : T U → St U → Option R}, SSim C N st s → VK C s k x v rs → rs.Nodup → (∀ y ∈ rs, ¬ Has N st y) → putK C k x st K = some r →
    ∃ N' v' st', K v' st' = some r ∧ Turn N st N' st' ∧ SSim C N' st' s ∧ trT C N' v' = v ∧ bdd st'.nl st'.nx v' = true ∧ (∀ y, Has N' st' y → Has N st y ∨ y ∈ rs)
  | .int k, x, N, st, s, v, rs, K, hs, hv, _, _, h => by
    simp only [VK] at hv; simp only [putK] at h
    exact ⟨N, _, st, h, .refl _ _, hs, hv.1.symm, rfl, fun y hy => .inl hy⟩
  | .bool, x, N, st, s, v, rs, K, hs, hv, _, _, h => by
    simp only [VK] at hv; simp only [putK] at h
    exact ⟨N, _, st, h, .refl _ _, hs, hv.1.symm, rfl, fun y hy => .inl hy⟩
  | .str, x, N, st, s, v, rs, K, hs, hv, _, _, h => by
    simp only [VK] at hv; simp only [putK] at h
    exact ⟨N, _, st, h, .refl _ _, hs, hv.1.symm, rfl, fun y hy => .inl hy⟩
  | .dl i, x, N, st, s, v, rs, K, hs, hv, _, _, h => by
    simp only [VK] at hv; simp only [putK] at h
    exact ⟨N, _, st, h, .refl _ _, hs, by rw [hv.1]; rfl, rfl, fun y hy => .inl hy⟩
  | .bl i, x, N, st, s, v, rs, K, hs, hv, _, _, h => by
    simp only [VK] at hv; simp only [putK] at h
    exact ⟨N, _, st, h, .refl _ _, hs, by rw [hv.1]; rfl, rfl, fun y hy => .inl hy⟩
  | .st i, x, N, st, s, v, rs, K, hs, hv, _, _, h => by
    simp only [VK] at hv; simp only [putK] at h
    exact ⟨N, _, st, h, .refl _ _, hs, (hC.enc N i x).trans hv.1.symm, bdd_mono (Nat.zero_le _) (Nat.zero_le _) _ (hC.bd i x), fun y hy => .inl hy⟩
  | .ow nb i, x, N, st, s, v, rs, K, hs, hv, _, hd, h => by
    simp only [VK] at hv; simp only [putK] at h
    obtain ⟨n, rfl, h1, h2, rfl⟩ := hv
    refine ⟨_, _, _, h, ⟨N.ext_tok st.nl st.nx n, Nat.le_refl _, Nat.le_succ _⟩, hs.addTok (hd _ (by simp)) h1 h2, ?_, ?_, fun y hy => ?_⟩
    · have e : (N.tok st.nx n).tk st.nx = n := if_pos rfl
      simp only [trT, trM, e]
    · simp [bdd, Nat.blt_eq]
    · rcases has_tok hs hy with rfl | hy
      · exact .inr (by simp)
      · exact .inl hy
  | .arr i, x, N, st, s, v, rs, K, hs, hv, _, hd, h => by
    cases x with
    | none =>
      simp only [VK] at hv; simp only [putK, oCase] at h
      exact ⟨N, _, st, h, .refl _ _, hs, by rw [hv.1]; rfl, rfl, fun y hy => .inl hy⟩
    | some xs =>
      simp only [VK] at hv; simp only [putK, oCase] at h
      obtain ⟨b, cap, rfl, h1, h2, rfl⟩ := hv
      have ec : (N.loc st.nl b cap (C.cells i)).cp st.nl = cap := if_pos rfl
      have eb : (N.loc st.nl b cap (C.cells i)).bl st.nl = b := if_pos rfl
      refine ⟨_, _, _, h, ⟨N.ext_loc st.nl st.nx b cap (C.cells i), Nat.le_succ _, Nat.le_refl _⟩, hs.addBox (bx := .ar i xs) (hd _ (by simp)) (by simp only [trB, ec]; exact h2) ⟨if_pos rfl, by rw [ec]; exact h1⟩, ?_, ?_, fun y hy => ?_⟩
      · simp only [trT, ec, eb]
      · simp [bdd, Nat.blt_eq]
      · rcases has_loc hs hy with rfl | hy
        · exact .inr (by simp)
        · exact .inl hy
  | .box cs, x, N, st, s, v, rs, K, hs, hv, hn, hd, h => by
    simp only [VK] at hv; simp only [putK] at h
    obtain ⟨b, vs, rs', rfl, h1, h2, rfl⟩ := hv
    obtain ⟨hn1, hn2⟩ := List.nodup_cons.1 hn
    obtain ⟨N1, vs', st1, h3, h4, h5, h6, h7, h8⟩ := putKs_ok hC cs x hs h2 hn2 (fun y hy => hd y (by simp [hy])) h
    obtain ⟨h9, h10⟩ := bif_some h3
    have ext := N1.ext_loc st1.nl st1.nx b 0 0
    have eb : (N1.loc st1.nl b 0 0).bl st1.nl = b := if_pos rfl
    have hlen : vs'.length = vs.length := by have := congrArg List.length h6; simpa using this
    refine ⟨_, _, _, h10, h4.trans ⟨ext, Nat.le_succ _, Nat.le_refl _⟩, h5.addBox (bx := .st vs') (fun hh => ?_) (by simp only [trB]; rw [map_tr_ext ext h7, h6, hlen]; exact h1) ⟨bdds_mono (Nat.le_succ _) (Nat.le_refl _) _ h7, h9⟩, ?_, ?_, fun y hy => ?_⟩
    · rcases h8 _ hh with q | q
      · exact hd _ (by simp) q
      · exact hn1 q
    · simp only [trT, eb]
    · simp [bdd, Nat.blt_eq]
    · rcases has_loc h5 hy with rfl | hy
      · exact .inr (by simp)
      · rcases h8 _ hy with q | q
        · exact .inl q
        · exact .inr (by simp [q])
theorem putKs_ok (hC : CodOk C) {r : R} : ∀ (l : List (SK U)) (x : denKs l) {N : NM} {st : St U} {s : S} {vs : List V} {rs : List Res} {K : List (T U) → St U → Option R}, SSim C N st s → VKs C s l x vs rs → rs.Nodup → (∀ y ∈ rs, ¬ Has N st y) → putKs C l x st K = some r →
    ∃ N' vs' st', K vs' st' = some r ∧ Turn N st N' st' ∧ SSim C N' st' s ∧ vs'.map (trT C N') = vs ∧ bdds st'.nl st'.nx vs' = true ∧ (∀ y, Has N' st' y → Has N st y ∨ y ∈ rs)
  | [], x, N, st, s, vs, rs, K, hs, hv, _, _, h => by
    simp only [VKs] at hv; simp only [putKs] at h
    exact ⟨N, _, st, h, .refl _ _, hs, by rw [hv.1]; rfl, rfl, fun y hy => .inl hy⟩
  | k :: rest, x, N, st, s, vs, rs, K, hs, hv, hn, hd, h => by
    simp only [VKs] at hv; simp only [putKs, feS_eq] at h
    obtain ⟨v, vs', r1, r2, rfl, rfl, h1, h2⟩ := hv
    obtain ⟨hn1, hn2, hn3⟩ := List.nodup_append.1 hn
    obtain ⟨N1, v1, st1, h3, h4, h5, h6, h7, h8⟩ := putK_ok hC k x.1 hs h1 hn1 (fun y hy => hd y (by simp [hy])) h
    obtain ⟨N2, vs2, st2, q3, q4, q5, q6, q7, q8⟩ := putKs_ok hC rest x.2 h5 h2 hn2 (fun y hy hh => by
      rcases h8 y hh with q | q
      · exact hd y (by simp [hy]) q
      · exact hn3 y q y hy rfl) h3
    refine ⟨N2, _, st2, q3, h4.trans q4, q5, ?_, ?_, fun y hy => ?_⟩
    · rw [List.map_cons, q6, trT_ext C q4.ext _ h7, h6]
    · simp only [bdds, q7, bdd_mono q4.nl q4.nx _ h7, Bool.and_self]
    · rcases q8 y hy with q | q
      · rcases h8 y q with q' | q'
        · exact .inl q'
        · exact .inr (by simp [q'])
      · exact .inr (by simp [q])
end

end
end Go.Den
