/-
  WHICH BRANCHES HAVE A LINE: what is found in the tree is what the lines tell.
-/
import Derived.Test.YtdedkemkmccliaaP10
import Derived.Test.YtdedkemkmccliaaS5
set_option linter.unusedVariables false
set_option linter.unusedSimpArgs false
namespace Go.Proofs.Ytdedkemkmccliaa
open Go.Al Go.Den

theorem iter_indP {σ R : Type} {F : (σ → Option R) → σ → Option R} (P : Option R → Prop) (I : σ → Prop) (μ : σ → Nat) (step : ∀ (rec : σ → Option R) s, I s → (∀ s', I s' → μ s' < μ s → P (rec s')) → P (F rec s)) :
    ∀ (n : Nat) (s : σ), I s → μ s < n → P (iter n F s) := by
  intro n
  induction n with
  | zero => intro s _ h; omega
  | succ n ih =>
    intro s hs hn
    simp only [iter]
    exact step _ s hs fun s' hs' hlt => ih s' hs' (by omega)

theorem nil_orE (m : List Int) : orE [] m = m := rfl
theorem cons_orE (x : Int) (r m : List Int) : orE (x :: r) m = x :: r := rfl
theorem orE_nil (l : List Int) : orE l [] = l := by cases l <;> rfl
theorem orE_assoc (a b c : List Int) : orE (orE a b) c = orE a (orE b c) := by cases a <;> rfl

/-- What is found in a branch, of its line and what is found in its items. -/
def brR (ln bl : Int) (p : List Int × Bool) : List Int := if bl = ln then [bl] else match p.1 with
  | [] => if p.2 = true then [bl] else []
  | x :: xs => bl :: x :: xs
def fstB (ln : Int) : List Br → List Int
  | [] => []
  | b :: r => orE (brR ln b.line (arIts ln b.items, leafs ln b.items)) (fstB ln r)
theorem fstB_snoc (ln : Int) : ∀ (bs : List Br) (b : Br), fstB ln (bs ++ [b]) = orE (fstB ln bs) (brR ln b.line (arIts ln b.items, leafs ln b.items))
  | [], b => by simp [fstB, orE_nil, nil_orE]
  | c :: r, b => by simp only [List.cons_append, fstB, fstB_snoc ln r b, orE_assoc]
theorem arBrs_ne {ln e : Int} (h : e ≠ ln) : ∀ bs : List Br, arBrs ln e bs = fstB ln bs
  | [] => rfl
  | b :: r => by
    have he : (e == ln) = false := beq_eq_false_iff_ne.2 h
    rw [arBrs_cons, arBrs_ne h r]
    simp only [fstB, brR, he, Bool.and_false, Bool.or_false, beq_iff_eq]
    split
    · rfl
    · split
      · split <;> simp_all [nil_orE, cons_orE]
      · simp_all [nil_orE, cons_orE]
theorem arBrs_eq {ln : Int} : ∀ (bs : List Br) (b : Br), arBrs ln ln (bs ++ [b]) = orE (fstB ln bs) [b.line]
  | [], b => by simp [arBrs_cons, fstB, nil_orE]
  | c :: r, b => by
    have hr : (r ++ [b]).isEmpty = false := by cases r <;> rfl
    rw [List.cons_append, arBrs_cons, arBrs_eq r b]
    simp only [fstB, brR, hr, Bool.false_and, Bool.or_false, beq_iff_eq, orE_assoc]
    split
    · rfl
    · split
      · split <;> simp_all [nil_orE, cons_orE]
      · simp_all [nil_orE, cons_orE]
theorem arIts_snoc (ln : Int) : ∀ (a : List It) (x : It), arIts ln (a ++ [x]) = orE (arIts ln a) (arIt ln x)
  | [], x => by simp [arIts, nil_orE, orE_nil]
  | y :: r, x => by simp only [List.cons_append, arIts, arIts_snoc ln r x, orE_assoc]
theorem leafs_snoc (ln : Int) (a : List It) (x : It) : leafs ln (a ++ [x]) = (leafs ln a || (x.brs.isEmpty && x.line == ln)) := by
  unfold leafs; simp [List.any_append]

/-- What is found in the whole, of what is open and of what is found in the innermost. -/
def stO (ln : Int) : List O → List Int × Bool → List Int
  | [], p => p.1
  | o :: r, p => stO ln r (orE (arIts ln o.ah) (orE (fstB ln o.brs) (brR ln o.cur p)), leafs ln o.ah)
def stI (ln : Int) (ops : List O) (its : List It) : List Int := stO ln ops (arIts ln its, leafs ln its)

theorem stI_step {ln k i : Int} (hi : i ≠ ln) {ops : List O} {its : List It} {p : List O × List It} (h : stepP k i ops its = some p) : stI ln p.1 p.2 = stI ln ops its := by
  have hn : arIts ln [] = [] := rfl
  have hl : leafs ln [] = false := rfl
  unfold stepP at h
  split at h
  · injection h with h; subst h
    simp only [stI, stO, hn, hl, brR, if_neg hi, fstB, nil_orE, cons_orE, orE_nil, Bool.false_eq_true, if_false]
  · split at h
    · cases ops with
      | nil => cases h
      | cons o r =>
        simp only at h
        split at h
        · cases h
        · injection h with h; subst h
          simp only [stI, stO, hn, hl, fstB_snoc, Br.line, Br.items]
          congr 2
          rw [orE_assoc]
          congr 2
          simp [brR, hi, orE_nil]
    · split at h
      · cases ops with
        | nil => cases h
        | cons o r =>
          injection h with h; subst h
          simp only [stI, stO, arIts_snoc, leafs_snoc]
          congr 2
          · congr 1
            show arBrs ln i (o.brs ++ [.mk o.cur its]) = _
            rw [arBrs_ne hi, fstB_snoc]; rfl
          · have : (o.brs ++ [Br.mk o.cur its]).isEmpty = false := by cases o.brs <;> rfl
            simp [It.brs, this]
      · injection h with h; subst h
        have hb : (i == ln) = false := beq_eq_false_iff_ne.2 hi
        simp only [stI, arIts_snoc, leafs_snoc, It.line, hb, Bool.and_false, Bool.or_false]
        show stO ln ops (orE _ (arBrs ln i []), _) = _
        rw [show arBrs ln i [] = [] from rfl, orE_nil]

theorem runP_past (ln : Int) : ∀ (ks : List Int) (i : Int) (ops : List O) (its : List It), ln < i → (runP i ks ops its).2.2 = 0 → arIts ln (runP i ks ops its).1 = stI ln ops its
  | [], i, [], its, _, h => rfl
  | [], i, o :: r, its, _, h => by simp [runP] at h
  | k :: ks, i, ops, its, hi, h => by
    unfold runP at h ⊢
    cases hs : stepP k i ops its with
    | none => rw [hs] at h; simp at h
    | some p =>
      rw [hs] at h
      simp only at h ⊢
      rw [runP_past ln ks (i + 1) p.1 p.2 (by omega) h]
      exact stI_step (by omega) hs

/-- A line that is nowhere so far. -/
structure Fr (ln : Int) (ops : List O) (its : List It) : Prop where
  a : arIts ln its = []
  l : leafs ln its = false
  o : ∀ o ∈ ops, arIts ln o.ah = [] ∧ leafs ln o.ah = false ∧ fstB ln o.brs = [] ∧ o.cur ≠ ln

theorem Fr.nil (ln : Int) : Fr ln [] [] := ⟨rfl, rfl, fun o h => by simp at h⟩
theorem Fr.step {ln k i : Int} (hi : i ≠ ln) {ops : List O} {its : List It} (hf : Fr ln ops its) {p : List O × List It} (h : stepP k i ops its = some p) : Fr ln p.1 p.2 := by
  unfold stepP at h
  split at h
  · injection h with h; subst h
    refine ⟨rfl, rfl, fun o ho => ?_⟩
    rcases List.mem_cons.1 ho with rfl | ho
    · exact ⟨hf.a, hf.l, rfl, hi⟩
    · exact hf.o o ho
  · split at h
    · cases ops with
      | nil => cases h
      | cons o r =>
        simp only at h
        split at h
        · cases h
        · injection h with h; subst h
          refine ⟨rfl, rfl, fun x hx => ?_⟩
          rcases List.mem_cons.1 hx with rfl | hx
          · obtain ⟨h1, h2, h3, h4⟩ := hf.o o (by simp)
            refine ⟨h1, h2, ?_, hi⟩
            simp only [fstB_snoc, h3, Br.line, Br.items, hf.a, hf.l, brR, if_neg h4, nil_orE, cons_orE, Bool.false_eq_true, if_false]
          · exact hf.o x (by simp [hx])
    · split at h
      · cases ops with
        | nil => cases h
        | cons o r =>
          injection h with h; subst h
          obtain ⟨h1, h2, h3, h4⟩ := hf.o o (by simp)
          refine ⟨?_, ?_, fun x hx => hf.o x (by simp [hx])⟩
          · rw [arIts_snoc, h1]
            show arBrs ln i (o.brs ++ [.mk o.cur its]) = []
            rw [arBrs_ne hi]
            simp only [fstB_snoc, h3, Br.line, Br.items, hf.a, hf.l, brR, if_neg h4, nil_orE, cons_orE, Bool.false_eq_true, if_false]
          · rw [leafs_snoc, h2]
            have : (o.brs ++ [Br.mk o.cur its]).isEmpty = false := by cases o.brs <;> rfl
            simp [It.brs, this]
      · injection h with h; subst h
        have hb : (i == ln) = false := beq_eq_false_iff_ne.2 hi
        refine ⟨?_, ?_, hf.o⟩
        · rw [arIts_snoc, hf.a]; rfl
        · rw [leafs_snoc, hf.l]; simp [It.line, hb]

def curs (ops : List O) : List Int := ops.reverse.map O.cur
theorem curs_cons (o : O) (r : List O) : curs (o :: r) = curs r ++ [o.cur] := by simp [curs]
theorem stO_path (ln : Int) : ∀ (ops : List O) (l : Bool) (x : Int) (xs : List Int), (∀ o ∈ ops, arIts ln o.ah = [] ∧ leafs ln o.ah = false ∧ fstB ln o.brs = [] ∧ o.cur ≠ ln) → stO ln ops (x :: xs, l) = curs ops ++ (x :: xs)
  | [], l, x, xs, _ => rfl
  | o :: r, l, x, xs, h => by
    obtain ⟨h1, h2, h3, h4⟩ := h o (by simp)
    simp only [stO, h1, h3, nil_orE, cons_orE, brR, if_neg h4]
    rw [stO_path ln r _ _ _ fun y hy => h y (by simp [hy]), curs_cons]
    simp

/-- What is told by the line itself. -/
def outA (k ln : Int) (ops : List O) : List Int :=
  if k = 2 ∨ k = 3 ∨ k = 4 then curs ops ++ [ln] else if k = 5 ∨ k = 6 then curs ops.tail ++ [ln] else curs ops
theorem stI_at {ln k : Int} {ops : List O} {its : List It} (hf : Fr ln ops its) {p : List O × List It} (h : stepP k ln ops its = some p) : stI ln p.1 p.2 = outA k ln ops := by
  have hn : arIts ln [] = [] := rfl
  have hl : leafs ln [] = false := rfl
  unfold outA
  unfold stepP at h
  split at h
  · rename_i hk
    injection h with h; subst h
    simp only [stI, stO, hn, hl, brR, if_true, fstB, nil_orE, cons_orE, hf.a, if_pos hk]
    exact stO_path ln ops _ _ _ hf.o
  · rename_i hk
    split at h
    · rename_i hk2
      cases ops with
      | nil => cases h
      | cons o r =>
        simp only at h
        split at h
        · cases h
        · injection h with h; subst h
          obtain ⟨h1, h2, h3, h4⟩ := hf.o o (by simp)
          have e : fstB ln (o.brs ++ [Br.mk o.cur its]) = [] := by
            simp only [fstB_snoc, h3, Br.line, Br.items, hf.a, hf.l, brR, if_neg h4, nil_orE, cons_orE, Bool.false_eq_true, if_false]
          simp only [stI, stO, e, h1, brR, if_true, nil_orE, cons_orE, if_neg hk, if_pos hk2, List.tail_cons]
          exact stO_path ln r _ _ _ fun y hy => hf.o y (by simp [hy])
    · rename_i hk2
      split at h
      · cases ops with
        | nil => cases h
        | cons o r =>
          injection h with h; subst h
          obtain ⟨h1, h2, h3, h4⟩ := hf.o o (by simp)
          have e : arIt ln (It.mk o.l ln (o.brs ++ [.mk o.cur its])) = [o.cur] := by
            show arBrs ln ln (o.brs ++ [.mk o.cur its]) = _
            rw [arBrs_eq, h3]; rfl
          simp only [stI, arIts_snoc, h1, e, nil_orE, cons_orE, if_neg hk, if_neg hk2, curs_cons]
          exact stO_path ln r _ _ _ fun y hy => hf.o y (by simp [hy])
      · injection h with h; subst h
        have e : arIt ln (It.mk ln ln []) = [] := rfl
        have e2 : leafs ln (its ++ [.mk ln ln []]) = true := by rw [leafs_snoc]; simp [It.brs, It.line]
        simp only [stI, arIts_snoc, hf.a, e, e2, nil_orE, cons_orE, if_neg hk, if_neg hk2]
        cases ops with
        | nil => rfl
        | cons o r =>
          obtain ⟨h1, h2, h3, h4⟩ := hf.o o (by simp)
          simp only [stO, h1, h3, nil_orE, cons_orE, brR, if_neg h4, if_true, curs_cons]
          exact stO_path ln r _ _ _ fun y hy => hf.o y (by simp [hy])

/-- How deep what is open is, with what is within. -/
def dO : List O → Nat → Nat
  | [], d => d
  | o :: r, d => dO r (max (depthIts o.ah) (max (depthBrs o.brs) (1 + d)))
theorem dO_eq : ∀ (ops : List O) (d : Nat), dO ops d = max (dO ops 0) (ops.length + d)
  | [], d => by simp [dO]
  | o :: r, d => by
    simp only [dO, List.length_cons]
    rw [dO_eq r (max _ _), dO_eq r (max (depthIts o.ah) (max (depthBrs o.brs) (1 + 0)))]
    omega
theorem depthIts_snoc (x : It) : ∀ a : List It, depthIts (a ++ [x]) = max (depthIts a) (depthIt x)
  | [] => by simp [depthIts]
  | y :: r => by simp only [List.cons_append, depthIts, depthIts_snoc x r]; omega
theorem depthBrs_snoc (x : Br) : ∀ a : List Br, depthBrs (a ++ [x]) = max (depthBrs a) (depthBr x)
  | [] => by simp [depthBrs]
  | y :: r => by simp only [List.cons_append, depthBrs, depthBrs_snoc x r]; omega
theorem dO_step {k i : Int} {ops : List O} {its : List It} {p : List O × List It} (h : stepP k i ops its = some p) : dO p.1 (depthIts p.2) = max (dO ops (depthIts its)) (outA k i ops).length := by
  have hc : ∀ l : List O, (curs l).length = l.length := fun l => by simp [curs]
  unfold outA
  unfold stepP at h
  split at h
  · rename_i hk
    injection h with h; subst h
    simp only [dO, if_pos hk, List.length_append, hc, List.length_cons, List.length_nil, depthBrs, depthIts]
    rw [dO_eq ops (max _ _), dO_eq ops (depthIts its)]
    omega
  · rename_i hk
    split at h
    · rename_i hk2
      cases ops with
      | nil => cases h
      | cons o r =>
        simp only at h
        split at h
        · cases h
        · injection h with h; subst h
          simp only [dO, if_neg hk, if_pos hk2, List.length_append, hc, List.length_cons, List.length_nil, depthBrs_snoc, depthBr, depthIts, List.tail_cons]
          rw [dO_eq r (max _ _), dO_eq r (max (depthIts o.ah) (max (depthBrs o.brs) (1 + depthIts its)))]
          omega
    · rename_i hk2
      split at h
      · cases ops with
        | nil => cases h
        | cons o r =>
          injection h with h; subst h
          simp only [dO, if_neg hk, if_neg hk2, hc, List.length_cons, depthIts_snoc, depthIt, depthBrs_snoc, depthBr]
          rw [dO_eq r (max _ _)]
          omega
      · injection h with h; subst h
        simp only [if_neg hk, if_neg hk2, hc, depthIts_snoc, depthIt, depthBrs]
        rw [dO_eq ops (max _ _), dO_eq ops (depthIts its)]
        omega

theorem runP_fresh (ln : Int) : ∀ (ks : List Int) (i : Int) (ops : List O) (its : List It), (ln < i ∨ i + ks.length ≤ ln) → Fr ln ops its → (runP i ks ops its).2.2 = 0 → arIts ln (runP i ks ops its).1 = []
  | [], i, [], its, _, hf, h => hf.a
  | [], i, o :: r, its, _, hf, h => by simp [runP] at h
  | k :: ks, i, ops, its, hi, hf, h => by
    unfold runP at h ⊢
    cases hs : stepP k i ops its with
    | none => rw [hs] at h; simp at h
    | some p =>
      rw [hs] at h
      simp only [List.length_cons] at h hi ⊢
      exact runP_fresh ln ks (i + 1) p.1 p.2 (by omega) (hf.step (by omega) hs) h

end Go.Proofs.Ytdedkemkmccliaa
