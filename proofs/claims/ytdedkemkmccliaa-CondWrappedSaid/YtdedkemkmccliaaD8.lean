/-
  DEN, part 8: code, run on typed values; IT ANSWERS AS THE PROGRAM DOES. General: no program in sight.
-/
import Derived.Test.YtdedkemkmccliaaD7
set_option linter.unusedVariables false
set_option linter.unusedSimpArgs false
namespace Go.Den
open Go.Al

section
variable {U : TyU} {C : Cod U} {R : Type} {r : R}

theorem normCells_ok (hC : CodOk C) {X : Cx} {l : Nat} {e : En U} {E : Env} : ∀ (ks : List (SK U)) (j : Nat) {N : NM} {st : St U} {s : S} {K : St U → Option R}, SSim C N st s → ESim C N st e E → normCells l ks j st K = some r →
    ∃ N' st' s', K st' = some r ∧ Gst X E s E s' ∧ Turn N st N' st' ∧ SSim C N' st' s' ∧ ESim C N' st' e E
  | [], j, N, st, s, K, hs, he, h => ⟨N, st, s, h, .refl _ _ _, .refl _ _, hs, he⟩
  | k :: rest, j, N, st, s, K, hs, he, h => by
    simp only [normCells, feS_eq] at h
    have go : normCells l rest (j + 1) st K = some r → ∃ N' st' s', K st' = some r ∧ Gst X E s E s' ∧ Turn N st N' st' ∧ SSim C N' st' s' ∧ ESim C N' st' e E := fun hh => normCells_ok hC rest (j + 1) hs he hh
    split at h
    · rename_i vs hl
      split at h
      · rename_i nb i
        cases nb with
        | false => exact go h
        | true =>
          simp only [cond_true] at h
          split at h
          · rename_i hj
            rw [feL_eq] at h
            obtain ⟨h1, h2⟩ := bif_some h
            simp only [Bool.and_eq_true] at h1
            obtain ⟨N1, s1, q1, q2, q3, q4⟩ := mkownB_ok (X := X) hC hs he hl hj (blt_lt h1.2) h1.1.1 h1.1.2
            obtain ⟨N2, st2, s2, p1, p2, p3, p4, p5⟩ := normCells_ok hC rest (j + 1) q3 q4 h2
            exact ⟨N2, st2, s2, p1, q1.trans p2, q2.trans p3, p4, p5⟩
          · exact go h
      · split at h
        · rename_i l2 n _
          split at h
          · rename_i i' xs hl2
            obtain ⟨s1, q1, q2⟩ := trunc_ok (X := X) (E := E) hC hs (n := n) hl2
            have ht : Turn N st N ⟨(l2, some (.ar i' (takeL n xs))) :: st.bx, st.tg, st.nl, st.nx⟩ := ⟨.refl _ _ _, Nat.le_refl _, Nat.le_refl _⟩
            obtain ⟨N2, st2, s2, p1, p2, p3, p4, p5⟩ := normCells_ok hC rest (j + 1) q2 (he.turn ht) h
            exact ⟨N2, st2, s2, p1, q1.trans p2, ht.trans p3, p4, p5⟩
          · exact go h
        · exact go h
      · exact go h
    · cases h

theorem normVars_ok (hC : CodOk C) {X : Cx} : ∀ (vars : List (Nat × SK U)) {e : En U} {E : Env} {N : NM} {st : St U} {s : S} {K : En U → St U → Option R}, SSim C N st s → ESim C N st e E → normVars vars e st K = some r →
    ∃ N' e' st' E' s', K e' st' = some r ∧ Gst X E s E' s' ∧ Turn N st N' st' ∧ SSim C N' st' s' ∧ ESim C N' st' e' E' ∧ ∀ j, (∀ p ∈ vars, p.1 ≠ j) → eget e' j = eget e j
  | [], e, E, N, st, s, K, hs, he, h => ⟨N, e, st, E, s, h, .refl _ _ _, .refl _ _, hs, he, fun _ _ => rfl⟩
  | p :: rest, e, E, N, st, s, K, hs, he, h => by
    simp only [normVars, feS_eq] at h
    have go : normVars rest e st K = some r → ∃ N' e' st' E' s', K e' st' = some r ∧ Gst X E s E' s' ∧ Turn N st N' st' ∧ SSim C N' st' s' ∧ ESim C N' st' e' E' ∧ ∀ j, (∀ q ∈ p :: rest, q.1 ≠ j) → eget e' j = eget e j := fun hh => by
      obtain ⟨N', e', st', E', s', q1, q2, q3, q4, q5, q6⟩ := normVars_ok hC rest hs he hh
      exact ⟨N', e', st', E', s', q1, q2, q3, q4, q5, fun j hj => q6 j fun q hq => hj q (by simp [hq])⟩
    split at h
    · rename_i nb i _
      cases nb with
      | false => exact go h
      | true =>
        simp only [cond_true] at h
        split at h
        · rename_i hk
          obtain ⟨N1, E1, s1, q1, q2, q3, q4⟩ := mkown_ok (X := X) hC hs he p.1 i hk
          obtain ⟨N2, e2, st2, E2, s2, p1, p2, p3, p4, p5, p6⟩ := normVars_ok hC rest q3 q4 h
          refine ⟨N2, e2, st2, E2, s2, p1, q1.trans p2, q2.trans p3, p4, p5, fun j hj => ?_⟩
          rw [p6 j fun q hq => hj q (by simp [hq])]
          have hne := hj p (by simp)
          simp [eput, eget, beq_ne hne]
        · exact go h
    · split at h
      · rename_i l n _
        split at h
        · rename_i i' xs hl
          obtain ⟨s1, q1, q2⟩ := trunc_ok (X := X) (E := E) hC hs (n := n) hl
          have ht : Turn N st N ⟨(l, some (.ar i' (takeL n xs))) :: st.bx, st.tg, st.nl, st.nx⟩ := ⟨.refl _ _ _, Nat.le_refl _, Nat.le_refl _⟩
          obtain ⟨N2, e2, st2, E2, s2, p1, p2, p3, p4, p5, p6⟩ := normVars_ok hC rest q2 (he.turn ht) h
          exact ⟨N2, e2, st2, E2, s2, p1, q1.trans p2, ht.trans p3, p4, p5, fun j hj => p6 j fun q hq => hj q (by simp [hq])⟩
        · exact go h
      · exact go h
    · split at h
      · rename_i cs _ _ l _ _
        obtain ⟨N1, st1, s1, q1, q2, q3, q4, q5⟩ := normCells_ok (X := X) hC cs 0 hs he h
        obtain ⟨N2, e2, st2, E2, s2, p1, p2, p3, p4, p5, p6⟩ := normVars_ok hC rest q4 q5 q1
        exact ⟨N2, e2, st2, E2, s2, p1, q2.trans p2, q3.trans p3, p4, p5, fun j hj => p6 j fun q hq => hj q (by simp [hq])⟩
      · exact go h
    · exact go h

variable (C)
/-- Where a loop, or a joining of ways, begins anew: slots that stay; slots that it carries. -/
structure Head (U : TyU) where
  fixed : List Nat
  vars : List (Nat × SK U)

/-- How a function is run: which new slices are written, or grow; the slots live behind a region; its loops (by their first region); where ways join. -/
structure FI (U : TyU) where
  wr : Nat → Bool
  own : Nat → Bool
  kf : Nat → List Nat
  hd : Nat → Option (Head U)
  jn : Nat → Option (Head U)

/-- The first region. -/
def hid : Code → Nat
  | .region id _ _ => id
  | .seq a _ => hid a
  | .cond _ a _ => hid a
  | .block _ b => hid b
  | .loop b => hid b
  | _ => 0

/-- The slots that code writes. -/
def dsts (fi : FI U) : Code → List Nat
  | .region _ ops _ => dstL ops.toList
  | .seq a b => dsts fi a ++ ((match fi.jn (hid b) with | some h => h.vars.map (·.1) | none => []) ++ dsts fi b)
  | .cond _ a b => dsts fi a ++ dsts fi b
  | .block _ b => dsts fi b
  | .loop b => (match fi.hd (hid b) with | some h => h.vars.map (·.1) | none => []) ++ dsts fi b
  | _ => []

def keepK {R : Type} : List Nat → En U → (En U → Option R) → Option R
  | [], _, K => K []
  | k :: r, e, K => fe (eget e k) fun v => keepK r e fun l => K ((k, v) :: l)

theorem keepK_eq {R : Type} : ∀ (ks : List Nat) (e : En U) (K : En U → Option R), keepK ks e K = K (ks.map fun k => (k, eget e k))
  | [], _, _ => rfl
  | k :: r, e, K => by simp only [keepK, fe_eq, keepK_eq r, List.map_cons]

def isAny : T U → Bool
  | .any => true
  | _ => false
def allThere : List Nat → En U → Bool
  | [], _ => true
  | k :: r, e => !(isAny (eget e k)) && allThere r e
def noneIn : List Nat → List Nat → Bool
  | [], _ => true
  | k :: r, l => !(hasN l k) && noneIn r l

def zipV : List (Nat × SK U) → List (T U) → En U
  | p :: r, v :: vs => (p.1, v) :: zipV r vs
  | _, _ => []

/-- The slots that are carried. -/
def slotsV : List (Nat × SK U) → En U → List (T U)
  | [], _ => []
  | p :: r, e => eget e p.1 :: slotsV r e
def kindsV : List (Nat × SK U) → List (SK U)
  | [] => []
  | p :: r => p.2 :: kindsV r

def iter {σ R : Type} : Nat → ((σ → Option R) → σ → Option R) → σ → Option R
  | 0, _, _ => none
  | n + 1, F, s => F (iter n F) s

/-- Where ways join. -/
def joinC {σ R : Type} (F : (σ → Option R) → Option R) (j : σ → Option R) : Option R := F j

/-- What stays within loops, and ahead of where ways join, is not written there. -/
def headOk (fi : FI U) : Code → Bool
  | .seq a b => (match fi.jn (hid b) with | some h => noneIn h.fixed (h.vars.map (·.1) ++ dsts fi a) | none => true) && (headOk fi a && headOk fi b)
  | .cond _ a b => headOk fi a && headOk fi b
  | .block _ b => headOk fi b
  | .loop b => (match fi.hd (hid b) with | some h => noneIn h.fixed (h.vars.map (·.1) ++ dsts fi b) | none => true) && headOk fi b
  | _ => true

variable (Tb : TypeId → TD U)

/-- A frame, worked out. -/
def feE {R : Type} : En U → (En U → Option R) → Option R
  | [], k => k []
  | p :: r, k => match p with | (i, x) => fN i fun i => feE r fun r' => k ((i, x) :: r')
theorem feE_eq {R : Type} : ∀ (l : En U) (k : En U → Option R), feE l k = k l
  | [], _ => rfl
  | (i, x) :: r, k => by simp only [feE, fN_eq, feE_eq r]

/-- What a test has told. -/
def told (e : En U) (c : Operand) (t : Bool) : En U :=
  match c with
  | .tmp d => eput e (some d) (.bool t)
  | _ => e

def drun (fu : Nat) (call : Call U R) (fi : FI U) : Code → En U → St U → (Exit → En U → St U → Option R) → Option R
  | .skip, e, st, k => k .normal e st
  | .region id ops _, e, st, k => dops C Tb call fi.wr fi.own (ops.toList.map (·.dst)) ops.toList e st fun e' st' => keepK (fi.kf id) e' fun e'' => k .normal e'' st'
  | .seq a b, e, st, k =>
    match fi.jn (hid b) with
    | none => drun fu call fi a e st fun ex e' st' => match ex with | .normal => drun fu call fi b e' st' k | ex => k ex e' st'
    | some h =>
        keepK h.fixed e fun fx => bif allThere h.fixed fx then
          joinC (fun j => drun fu call fi a e st fun ex e' st' => match ex with
              | .normal => bif allThere h.fixed e' then normVars h.vars e' st' fun e'' st'' => feA (slotsV h.vars e'') fun vs' => getKs C (kindsV h.vars) vs' st'' fun x _ => j x else none
              | ex => k ex e' st')
            fun x => putKs C (kindsV h.vars) x ⟨[], [], st.nl, st.nx⟩ fun vs st2 => feE (fx ++ zipV h.vars vs) fun e0 => drun fu call fi b e0 st2 k
        else none
  | .cond c a b, e, st, k => match evT e c with
    | .bool t => bif t then drun fu call fi a (told e c true) st k else drun fu call fi b (told e c false) st k
    | _ => none
  | .block id b, e, st, k => drun fu call fi b e st fun ex e' st' => match ex with
    | .exit id' => bif Nat.beq id' id then k .normal e' st' else k (.exit id') e' st'
    | ex => k ex e' st'
  | .loop b, e, st, k =>
    match fi.hd (hid b) with
    | none => none
    | some h =>
        keepK h.fixed e fun fx => bif allThere h.fixed fx then
          normVars h.vars e st fun e1 st1 => feA (slotsV h.vars e1) fun vs' => getKs C (kindsV h.vars) vs' st1 fun x0 _ =>
          iter fu (fun rec x => putKs C (kindsV h.vars) x ⟨[], [], st.nl, st.nx⟩ fun vs st2 =>
            feE (fx ++ zipV h.vars vs) fun e0 => drun fu call fi b e0 st2 fun ex e' st' => match ex with
              | .normal => bif allThere h.fixed e' then normVars h.vars e' st' fun e'' st'' => feA (slotsV h.vars e'') fun vs' => getKs C (kindsV h.vars) vs' st'' fun x _ => rec x else none
              | ex => k ex e' st') x0
        else none
  | .exit id, e, st, k => k (.exit id) e st
  | .ret, e, st, k => k .ret e st
  | _, _, _, _ => none

end
end Go.Den
