/-
  THE ITEMS OF THE DOCUMENT: from a place on, what the machine makes there.
-/
import Derived.Test.YtdedkemkmccliaaP9
set_option linter.unusedVariables false
set_option linter.unusedSimpArgs false
namespace Go.Proofs.Ytdedkemkmccliaa
open Go.Al Go.Den

/-- From a place on, up to what ends the branch that it is in: the items, and that place. -/
def stopP : Nat → List Int → List O → List It → List It × Nat
  | i, [], _, its => (its, i)
  | i, k :: ks, ops, its => if ops.isEmpty = true ∧ (k = 5 ∨ k = 6 ∨ k = 7) then (its, i) else match stepP k i ops its with
    | none => (its, i)
    | some p => stopP (i + 1) ks p.1 p.2

theorem stepP_app {k i : Int} {ops ops0 : List O} {its : List It} (h : ¬ (ops.isEmpty = true ∧ (k = 5 ∨ k = 6 ∨ k = 7))) :
    stepP k i (ops ++ ops0) its = (stepP k i ops its).map fun p => (p.1 ++ ops0, p.2) := by
  unfold stepP
  split
  · rfl
  · split
    · cases ops with
      | nil => exact absurd ⟨rfl, by omega⟩ h
      | cons o r =>
        simp only [List.cons_append]
        split <;> rfl
    · split
      · cases ops with
        | nil => exact absurd ⟨rfl, by omega⟩ h
        | cons o r => rfl
      · rfl

theorem stopP_spec : ∀ (ks : List Int) (i : Nat) (ops : List O) (its : List It) (ops0 : List O) (ops1 : List O), (runP i ks (ops ++ ops0) its).2.2 = 0 →
    i ≤ (stopP i ks ops its).2 ∧ (stopP i ks ops its).2 ≤ i + ks.length ∧ runP i ks (ops ++ ops0) its = runP ((stopP i ks ops its).2 : Int) (ks.drop ((stopP i ks ops its).2 - i)) ops0 (stopP i ks ops its).1 ∧
      stopP i ks (ops ++ ops1) its = stopP (stopP i ks ops its).2 (ks.drop ((stopP i ks ops its).2 - i)) ops1 (stopP i ks ops its).1 ∧
      (ks.drop ((stopP i ks ops its).2 - i) = [] ∨ ∃ k r, ks.drop ((stopP i ks ops its).2 - i) = k :: r ∧ (k = 5 ∨ k = 6 ∨ k = 7))
  | [], i, ops, its, ops0, ops1, h => by
    have : ops ++ ops0 = [] := by
      cases hh : ops ++ ops0 with
      | nil => rfl
      | cons o r => rw [hh] at h; simp [runP] at h
    obtain ⟨rfl, rfl⟩ := List.append_eq_nil_iff.1 this
    simp [stopP]
  | k :: ks, i, ops, its, ops0, ops1, h => by
    by_cases hs : ops.isEmpty = true ∧ (k = 5 ∨ k = 6 ∨ k = 7)
    · have e : stopP i (k :: ks) ops its = (its, i) := by unfold stopP; rw [if_pos hs]
      have e2 : ops = [] := List.isEmpty_iff.1 hs.1
      subst e2
      rw [e]
      simp only [Nat.sub_self, List.drop_zero, List.nil_append]
      exact ⟨Nat.le_refl _, by omega, trivial, trivial, .inr ⟨k, ks, rfl, hs.2⟩⟩
    · have ha := stepP_app (i := (i : Int)) (its := its) (ops0 := ops0) hs
      have ha1 := stepP_app (i := (i : Int)) (its := its) (ops0 := ops1) hs
      have e : stopP i (k :: ks) ops its = match stepP k i ops its with | none => (its, i) | some p => stopP (i + 1) ks p.1 p.2 := by
        conv => lhs; unfold stopP
        rw [if_neg hs]
      have er : runP i (k :: ks) (ops ++ ops0) its = match stepP k i (ops ++ ops0) its with | none => ([], (i : Int), 50) | some (ops', its') => runP ((i + 1 : Nat) : Int) ks ops' its' := rfl
      have hs2 : ¬ ((ops ++ ops1).isEmpty = true ∧ (k = 5 ∨ k = 6 ∨ k = 7)) := fun hh => hs ⟨by
        have := List.isEmpty_iff.1 hh.1
        rw [(List.append_eq_nil_iff.1 this).1]; rfl, hh.2⟩
      have e3 : stopP i (k :: ks) (ops ++ ops1) its = match stepP k i (ops ++ ops1) its with | none => (its, i) | some p => stopP (i + 1) ks p.1 p.2 := by
        conv => lhs; unfold stopP
        rw [if_neg hs2]
      cases hp : stepP k i ops its with
      | none =>
        rw [hp] at ha
        simp only [Option.map_none] at ha
        rw [er, ha] at h
        simp at h
      | some p =>
        rw [hp] at ha ha1 e
        simp only [Option.map_some] at ha ha1
        rw [ha] at er
        rw [ha1] at e3
        simp only at er e e3
        rw [er] at h
        obtain ⟨q1, q2, q3, q4, q5⟩ := stopP_spec ks (i + 1) p.1 p.2 ops0 ops1 h
        have hd : (k :: ks).drop ((stopP (i + 1) ks p.1 p.2).2 - i) = ks.drop ((stopP (i + 1) ks p.1 p.2).2 - (i + 1)) := by
          have : (stopP (i + 1) ks p.1 p.2).2 - i = ((stopP (i + 1) ks p.1 p.2).2 - (i + 1)) + 1 := by omega
          rw [this, List.drop_succ_cons]
        rw [e, er, e3, hd]
        exact ⟨by omega, by simp only [List.length_cons]; omega, q3, q4, q5⟩

theorem stopP_drop (ks : List Int) (i : Nat) (h : i < ks.length) (ops : List O) (its : List It) : stopP i (ks.drop i) ops its = if ops.isEmpty = true ∧ (ks[i] = 5 ∨ ks[i] = 6 ∨ ks[i] = 7) then (its, i) else match stepP ks[i] i ops its with | none => (its, i) | some p => stopP (i + 1) (ks.drop (i + 1)) p.1 p.2 := by
  rw [List.drop_eq_getElem_cons h]; rfl

/-- The same, in a list that is the whole. -/
theorem stopP_at (ks : List Int) (i : Nat) (its : List It) (ops0 ops1 : List O) (hi : i ≤ ks.length) (h : (runP i (ks.drop i) ops0 its).2.2 = 0) :
    i ≤ (stopP i (ks.drop i) [] its).2 ∧ (stopP i (ks.drop i) [] its).2 ≤ ks.length ∧ (runP ((stopP i (ks.drop i) [] its).2 : Int) (ks.drop (stopP i (ks.drop i) [] its).2) ops0 (stopP i (ks.drop i) [] its).1).2.2 = 0 ∧
      runP i (ks.drop i) ops0 its = runP ((stopP i (ks.drop i) [] its).2 : Int) (ks.drop (stopP i (ks.drop i) [] its).2) ops0 (stopP i (ks.drop i) [] its).1 ∧
      stopP i (ks.drop i) ops1 its = stopP (stopP i (ks.drop i) [] its).2 (ks.drop (stopP i (ks.drop i) [] its).2) ops1 (stopP i (ks.drop i) [] its).1 ∧
      (∀ hl : (stopP i (ks.drop i) [] its).2 < ks.length, ks[(stopP i (ks.drop i) [] its).2] = 5 ∨ ks[(stopP i (ks.drop i) [] its).2] = 6 ∨ ks[(stopP i (ks.drop i) [] its).2] = 7) := by
  obtain ⟨q1, q2, q3, q4, q5⟩ := stopP_spec (ks.drop i) i [] its ops0 ops1 h
  simp only [List.nil_append] at q3 q4
  generalize stopP i (ks.drop i) [] its = q at *
  have e : (ks.drop i).drop (q.2 - i) = ks.drop q.2 := by rw [List.drop_drop]; congr 1; omega
  rw [e] at q3 q4 q5
  rw [List.length_drop] at q2
  refine ⟨q1, by omega, by rw [← q3]; exact h, q3, q4, fun hl => ?_⟩
  rw [List.drop_eq_getElem_cons hl] at q5
  rcases q5 with q5 | ⟨k, r, q5, q6⟩
  · cases q5
  · injection q5 with a b
    rw [a]; exact q6

/-- At the head of the walk over the branches of one. -/
def In24 (K : List Int) (base : List O) (tot : List It × Nat) (i : Nat) (out : List It) (l : Int) (brs : List Br) : Prop :=
  (brs = [] ∧ (i : Int) = l ∧ (∃ hl : i < K.length, K[i] = 2 ∨ K[i] = 3 ∨ K[i] = 4) ∧ tot = stopP i (K.drop i) [] out ∧ (runP i (K.drop i) base out).2.2 = 0) ∨
  (∃ init cur its lst, brs = init ++ [.mk cur its] ∧ (∃ hl : i < K.length, K[i] = 5 ∨ K[i] = 6 ∨ K[i] = 7) ∧ tot = stopP i (K.drop i) [⟨l, init, cur, lst, out, 0, 0, 0⟩] its ∧ (runP i (K.drop i) (⟨l, init, cur, lst, out, 0, 0, 0⟩ :: base) its).2.2 = 0)

theorem In24.lt {K : List Int} {base : List O} {tot : List It × Nat} {i : Nat} {out : List It} {l : Int} {brs : List Br} (h : In24 K base tot i out l brs) : i < K.length := by
  rcases h with ⟨_, _, ⟨h, _⟩, _⟩ | ⟨_, _, _, _, _, ⟨h, _⟩, _⟩ <;> exact h

/-- One branch more. -/
theorem In24.step {K : List Int} {base : List O} {tot : List It × Nat} {i : Nat} {out : List It} {l : Int} {brs : List Br} (h : In24 K base tot i out l brs) (hne : K[i]'h.lt ≠ 7 ∨ brs = []) :
    (∃ ops, (runP ((i + 1 : Nat) : Int) (K.drop (i + 1)) ops []).2.2 = 0) ∧ i + 1 ≤ (stopP (i + 1) (K.drop (i + 1)) [] []).2 ∧
      In24 K base tot (stopP (i + 1) (K.drop (i + 1)) [] []).2 out l (brs ++ [.mk i (stopP (i + 1) (K.drop (i + 1)) [] []).1]) := by
  have hlt := h.lt
  -- the machine behind this line
  obtain ⟨lst, h1, h2⟩ : ∃ lst, tot = stopP (i + 1) (K.drop (i + 1)) [⟨l, brs, i, lst, out, 0, 0, 0⟩] [] ∧ (runP ((i + 1 : Nat) : Int) (K.drop (i + 1)) (⟨l, brs, i, lst, out, 0, 0, 0⟩ :: base) []).2.2 = 0 := by
    rcases h with ⟨rfl, rfl, ⟨_, hk⟩, h3, h4⟩ | ⟨init, cur, its, lst, rfl, ⟨_, hk⟩, h3, h4⟩
    · refine ⟨false, ?_, ?_⟩
      · rw [h3, stopP_drop K i hlt, if_neg (fun hh => by omega)]
        unfold stepP; rw [if_pos hk]
      · rw [runP_drop K i hlt] at h4
        unfold stepP at h4; rw [if_pos hk] at h4
        exact h4
    · have hk2 : K[i] = 5 ∨ K[i] = 6 := by
        rcases hne with hne | hne
        · omega
        · simp at hne
      have hn : ¬ (K[i] = 2 ∨ K[i] = 3 ∨ K[i] = 4) := by omega
      rw [runP_drop K i hlt] at h4
      rw [stopP_drop K i hlt, if_neg (fun hh => by simp at hh)] at h3
      unfold stepP at h3 h4
      rw [if_neg hn, if_pos hk2] at h3 h4
      simp only at h3 h4
      cases lst with
      | true => rw [if_pos rfl] at h4; simp at h4
      | false =>
        rw [if_neg (by simp)] at h3 h4
        exact ⟨_, h3, h4⟩
  obtain ⟨q1, q2, q3, q4, q5, q6⟩ := stopP_at K (i + 1) [] (⟨l, brs, i, lst, out, 0, 0, 0⟩ :: base) [⟨l, brs, i, lst, out, 0, 0, 0⟩] (by omega) h2
  generalize hq : stopP (i + 1) (K.drop (i + 1)) [] [] = q at *
  refine ⟨⟨_, h2⟩, q1, .inr ⟨brs, i, q.1, lst, rfl, ?_, ?_, q3⟩⟩
  · have hl : q.2 < K.length := by
      rcases Nat.lt_or_ge q.2 K.length with hh | hh
      · exact hh
      · rw [List.drop_of_length_le hh] at q3
        simp [runP] at q3
    exact ⟨hl, q6 hl⟩
  · rw [h1, q5]

theorem sh24_spec (n fu : Nat) (c : List LineT × Int × Unit → Option (List It × Int × Unit)) (nf : Nat → Bool) (ls : List LineT) (i0 : Nat) (base : List O)
    (hc : ∀ i : Nat, i ≤ ls.length → ls.length - i < n → (∃ ops, (runP i ((ls.map LineT.kind).drop i) ops []).2.2 = 0) → c (ls, (i : Int), ()) = some ((stopP i ((ls.map LineT.kind).drop i) [] []).1, ((stopP i ((ls.map LineT.kind).drop i) [] []).2 : Int), ()))
    (h0 : i0 ≤ ls.length) (hn : ls.length - i0 < n + 1) (hfu : ls.length + 1 < fu) (hb : ls.length ≤ 1000) (hfine : (runP i0 ((ls.map LineT.kind).drop i0) base []).2.2 = 0) :
    sh24 fu c nf ls i0 = some ((stopP i0 ((ls.map LineT.kind).drop i0) [] []).1, ((stopP i0 ((ls.map LineT.kind).drop i0) [] []).2 : Int), ()) := by
  have hK : (ls.map LineT.kind).length = ls.length := by simp
  have hg : ∀ i : Nat, (h : i < ls.length) → (ls.getD i lineD).kind = (ls.map LineT.kind)[i]'(by rw [hK]; exact h) := fun i h => by simp [h]
  generalize hKK : ls.map LineT.kind = K at *
  generalize hT : stopP i0 (K.drop i0) [] [] = tot at *
  unfold sh24
  refine iter_ind (fun s => ∃ (i : Nat) (out : List It), s = ((i : Int), out, ()) ∧ i0 ≤ i ∧ i ≤ ls.length ∧ out.length ≤ i ∧ tot = stopP i (K.drop i) [] out ∧ (runP i (K.drop i) base out).2.2 = 0) (fun s => ls.length - s.1.toNat) ?_ fu _ ⟨i0, [], rfl, Nat.le_refl _, h0, Nat.zero_le _, hT.symm, hfine⟩ (by simp; omega)
  rintro rec s ⟨i, out, rfl, hi0, hi, ho, htot, hfi⟩ hrec
  simp only [ilt_len, Int.toNat_natCast]
  by_cases hlt : i < ls.length
  · have hltK : i < K.length := by rw [hK]; exact hlt
    have j2 : inB (i : Int) ls.length = true := by simp [inB] <;> omega
    have j3 : iadd .i64 (i : Int) 1 = ((i + 1 : Nat) : Int) := iadd_one i (by omega)
    have k1 : okN 40 (out.length + 1) = true := okN_spec' (by omega) (by unfold maxLen; omega)
    simp only [hlt, decide_true, cond_true, j2, hg i hlt, List.length_cons, List.length_nil, Nat.zero_add, k1, j3]
    -- a conditional
    have inner : (K[i] = 2 ∨ K[i] = 3 ∨ K[i] = 4) → ∀ (F : (Int × List It × (Int × Int × List Br × Unit) × Unit → Option (List It × Int × Unit)) → (Int × List It × (Int × Int × List Br × Unit) × Unit) → Option (List It × Int × Unit)),
        (∀ rec2 (m : Nat) (brs : List Br), m < ls.length → brs.length ≤ m → (K[m]? ≠ some 7 ∨ brs = []) → F rec2 ((m : Int), out, ((i : Int), 0, brs, ()), ()) = Option.bind (c (ls, ((m + 1 : Nat) : Int), ())) fun y => rec2 (y.2.1, out, ((i : Int), 0, brs ++ [.mk m y.1], ()), ())) →
        (∀ rec2 (m : Nat) (brs : List Br), m < ls.length → brs.length ≤ m → K[m]? = some 7 → brs ≠ [] → F rec2 ((m : Int), out, ((i : Int), 0, brs, ()), ()) = rec (((m + 1 : Nat) : Int), out ++ [.mk i m brs], ())) →
        iter fu F ((i : Int), out, ((i : Int), 0, [], ()), ()) = some (tot.1, (tot.2 : Int), ()) := by
      intro hk F hF1 hF2
      refine iter_ind (fun s => ∃ (m : Nat) (brs : List Br), s = ((m : Int), out, ((i : Int), 0, brs, ()), ()) ∧ i ≤ m ∧ brs.length ≤ m ∧ In24 K base tot m out i brs) (fun s => ls.length - s.1.toNat) ?_ fu _ ⟨i, [], rfl, Nat.le_refl _, Nat.zero_le _, .inl ⟨rfl, rfl, ⟨hltK, hk⟩, htot, hfi⟩⟩ (by simp; omega)
      rintro rec2 s ⟨m, brs, rfl, hm, hbl, hin⟩ hrec2
      have hmK := hin.lt
      by_cases h7 : K[m] ≠ 7 ∨ brs = []
      · rw [hF1 rec2 m brs (by omega) hbl (by rw [List.getElem?_eq_getElem hmK]; simpa using h7)]
        obtain ⟨e1, e2, e3⟩ := hin.step h7
        rw [hc (m + 1) (by omega) (by omega) e1]
        simp only [Option.bind_some]
        have := e3.lt
        exact hrec2 _ ⟨_, _, rfl, by omega, by simp; omega, e3⟩ (by simp; omega)
      · have h8 : K[m] = 7 := Classical.byContradiction fun e => h7 (.inl e)
        have h9 : brs ≠ [] := fun e => h7 (.inr e)
        rw [hF2 rec2 m brs (by omega) hbl (by rw [List.getElem?_eq_getElem hmK, h8]) h9]
        rcases hin with ⟨rfl, _⟩ | ⟨init, cur, its, lst, rfl, _, q1, q2⟩
        · exact absurd rfl h9
        · have hs : ∀ (r : List O), stepP K[m] m (⟨(i : Int), init, cur, lst, out, 0, 0, 0⟩ :: r) its = some (r, out ++ [.mk i m (init ++ [.mk cur its])]) := fun r => by
            unfold stepP; rw [h8, if_neg (by decide), if_neg (by decide), if_pos rfl]
          rw [stopP_drop K m hmK, if_neg (fun hh => by simp at hh), hs] at q1
          rw [runP_drop K m hmK, hs] at q2
          simp only at q1 q2
          exact hrec _ ⟨m + 1, _, rfl, by omega, by omega, by simp; omega, q1, q2⟩ (by simp; omega)
    have fin : (K[i] = 5 ∨ K[i] = 6 ∨ K[i] = 7) → some (out, (i : Int), ()) = some (tot.1, (tot.2 : Int), ()) := fun hk => by
      rw [htot, stopP_drop K i hltK, if_pos ⟨rfl, hk⟩]
    have one : (K[i] ≠ 2 ∧ K[i] ≠ 3 ∧ K[i] ≠ 4 ∧ K[i] ≠ 5 ∧ K[i] ≠ 6 ∧ K[i] ≠ 7) → rec (((i + 1 : Nat) : Int), out ++ [.mk i i []], ()) = some (tot.1, (tot.2 : Int), ()) := fun hk => by
      have hs : ∀ (r : List O), stepP K[i] i r out = some (r, out ++ [.mk i i []]) := fun r => by
        unfold stepP; rw [if_neg (by omega), if_neg (by omega), if_neg (by omega)]
      rw [stopP_drop K i hltK, if_neg (fun hh => by omega), hs] at htot
      rw [runP_drop K i hltK, hs] at hfi
      simp only at htot hfi
      exact hrec _ ⟨i + 1, _, rfl, by omega, by omega, by simp; omega, htot, hfi⟩ (by simp; omega)
    have hgm : ∀ m : Nat, m < ls.length → inB (m : Int) ls.length = true ∧ iadd .i64 (m : Int) 1 = ((m + 1 : Nat) : Int) := fun m hm => ⟨by simp [inB] <;> omega, iadd_one m (by omega)⟩
    have kb : ∀ (m : Nat) (brs : List Br), m < ls.length → brs.length ≤ m → okN 32 (brs.length + 1) = true := fun m brs h1 h2 => okN_spec' (by omega) (by unfold maxLen; omega)
    have key1 : ∀ (rec2 : Int × List It × (Int × Int × List Br × Unit) × Unit → Option (List It × Int × Unit)) (m : Nat) (brs : List Br), m < ls.length → K[m]? ≠ some 7 → ine ((ls.getD m lineD).kind) 7 = true := fun _ m brs h1 h2 => by
      have hm : m < K.length := by omega
      rw [hg m h1]
      exact ine_true fun e => h2 (by rw [List.getElem?_eq_getElem hm, e])
    have key2 : ∀ (m : Nat), m < ls.length → K[m]? = some 7 → ine ((ls.getD m lineD).kind) 7 = false := fun m h1 h2 => by
      have hm : m < K.length := by omega
      rw [hg m h1]
      rw [List.getElem?_eq_getElem hm] at h2
      injection h2 with h2
      exact ine_false h2
    have body1 : ∀ (m : Nat) (brs : List Br) (x y : Option (List It × Int × Unit)), m < ls.length → (K[m]? ≠ some 7 ∨ brs = []) → cond (ine ((ls.getD m lineD).kind) 7) x (cond (decide (lenI brs = 0)) x y) = x := fun m brs x y h1 h2 => by
      by_cases h7 : K[m]? = some 7
      · rcases h2 with h2 | rfl
        · exact absurd h7 h2
        · rw [key2 m h1 h7]; rfl
      · rw [key1 (fun _ => none) m brs h1 h7]; rfl
    have body2 : ∀ (m : Nat) (brs : List Br) (x y : Option (List It × Int × Unit)), m < ls.length → K[m]? = some 7 → brs ≠ [] → cond (ine ((ls.getD m lineD).kind) 7) x (cond (decide (lenI brs = 0)) x y) = y := fun m brs x y h1 h2 h3 => by
      rw [key2 m h1 h2]
      have : decide (lenI brs = 0) = false := by
        unfold lenI
        exact decide_eq_false (by have := List.length_pos_iff.2 h3; omega)
      rw [this]; rfl
    rcases k_cases K[i] with hk | hk | hk | hk | hk | hk | hk
    · simp only [hk, ieq_dec, Int.reduceEq, decide_false, decide_true, cond_true, cond_false]
      refine inner (by omega) _ ?_ ?_
      · intro rec2 m brs h1 h2 h3
        simp only [hgm m h1, cond_true, Int.toNat_natCast, kb m brs h1 h2, body1 m brs _ _ h1 h3]
      · intro rec2 m brs h1 h2 h3 h4
        simp only [hgm m h1, cond_true, Int.toNat_natCast, kb m brs h1 h2, body2 m brs _ _ h1 h3 h4, k1]
    · simp only [hk, ieq_dec, Int.reduceEq, decide_false, decide_true, cond_true, cond_false]
      refine inner (by omega) _ ?_ ?_
      · intro rec2 m brs h1 h2 h3
        simp only [hgm m h1, cond_true, Int.toNat_natCast, kb m brs h1 h2, body1 m brs _ _ h1 h3]
      · intro rec2 m brs h1 h2 h3 h4
        simp only [hgm m h1, cond_true, Int.toNat_natCast, kb m brs h1 h2, body2 m brs _ _ h1 h3 h4, k1]
    · simp only [hk, ieq_dec, Int.reduceEq, decide_false, decide_true, cond_true, cond_false, Bool.not_true]
      refine inner (by omega) _ ?_ ?_
      · intro rec2 m brs h1 h2 h3
        simp only [hgm m h1, cond_true, Int.toNat_natCast, kb m brs h1 h2, body1 m brs _ _ h1 h3]
      · intro rec2 m brs h1 h2 h3 h4
        simp only [hgm m h1, cond_true, Int.toNat_natCast, kb m brs h1 h2, body2 m brs _ _ h1 h3 h4, k1]
    · simp only [hk, ieq_dec, Int.reduceEq, decide_false, decide_true, cond_true, cond_false]
      exact fin (by omega)
    · simp only [hk, ieq_dec, Int.reduceEq, decide_false, decide_true, cond_true, cond_false]
      exact fin (by omega)
    · simp only [hk, ieq_dec, Int.reduceEq, decide_false, decide_true, cond_true, cond_false]
      exact fin (by omega)
    · simp only [ieq_false hk.1, ieq_false hk.2.1, ieq_false hk.2.2.1, ieq_false hk.2.2.2.1, ieq_false hk.2.2.2.2.1, ieq_false hk.2.2.2.2.2, cond_false, Bool.not_false, cond_true]
      exact one hk
  · have hie : i = ls.length := by omega
    simp only [hlt, decide_false, cond_false]
    rw [htot, List.drop_of_length_le (by omega)]
    rfl

open Classical in
noncomputable def c24n (n : Nat) (x : List LineT × Int × Unit) : Option (List It × Int × Unit) :=
  if x.1.length ≤ 1000 ∧ 0 ≤ x.2.1 ∧ x.2.1 ≤ x.1.length ∧ x.1.length - x.2.1.toNat < n ∧ ∃ ops, (runP x.2.1 ((x.1.map LineT.kind).drop x.2.1.toNat) ops []).2.2 = 0 then
    some ((stopP x.2.1.toNat ((x.1.map LineT.kind).drop x.2.1.toNat) [] []).1, ((stopP x.2.1.toNat ((x.1.map LineT.kind).drop x.2.1.toNat) [] []).2 : Int), ()) else none
theorem ok24n : ∀ n, n ≤ 2000 → ConOk CC Try.prog 24 ⟨as24, rs24, c24n n⟩
  | 0, _ => fun x y h => by
    unfold c24n at h
    simp only at h
    rw [if_neg (by omega)] at h
    cases h
  | n + 1, hn => (con24 1000001 _ (ok24n n (by omega))).sub fun x y h => by
    obtain ⟨ls, i, u⟩ := x
    unfold c24n at h
    simp only at h
    split at h
    · rename_i h1
      injection h with h
      subst h
      obtain ⟨h2, h3, h4, h5, base, h6⟩ := h1
      simp only at h2 h3 h4 h5 h6 ⊢
      obtain ⟨m, rfl⟩ := Int.eq_ofNat_of_zero_le h3
      simp only [Int.toNat_natCast] at h5 h6 ⊢
      refine sh24_spec n 1000001 _ _ ls m base (fun i q1 q2 q3 => ?_) (by omega) h5 (by omega) h2 h6
      unfold c24n
      simp only [Int.toNat_natCast]
      rw [if_pos ⟨h2, by omega, by omega, q2, q3⟩]
    · cases h
noncomputable def c24 : List LineT × Int × Unit → Option (List It × Int × Unit) := c24n 2000
theorem ok24 : ConOk CC Try.prog 24 ⟨as24, rs24, c24⟩ := ok24n 2000 (Nat.le_refl _)

/-- Parse, of the document: what the machine makes of all lines. -/
def c12 (x : List LineT × Unit) : Option (List It × Int × Int × Unit) := if x.1.length ≤ 1000 then some ((runP 0 (x.1.map LineT.kind) [] []).1, (runP 0 (x.1.map LineT.kind) [] []).2.1, (runP 0 (x.1.map LineT.kind) [] []).2.2, ()) else none
theorem runP_ok21 : ∀ (ks : List Int) (i : Int) (ops : List O) (its : List It), (runP i ks ops its).2.2 = 0 → (runP i ks ops its).2.1 = 0
  | [], i, [], its, h => rfl
  | [], i, o :: r, its, h => by simp [runP] at h
  | k :: ks, i, ops, its, h => by
    unfold runP at h ⊢
    cases hs : stepP k i ops its with
    | none => rw [hs] at h; simp at h
    | some p => rw [hs] at h; exact runP_ok21 ks (i + 1) p.1 p.2 h
theorem sh12_spec (fu : Nat) (nf : Nat → Bool) (ls : List LineT) (h1 : ls.length ≤ 1000) : sh12 fu c23 c24 nf ls = some ((runP 0 (ls.map LineT.kind) [] []).1, (runP 0 (ls.map LineT.kind) [] []).2.1, (runP 0 (ls.map LineT.kind) [] []).2.2, ()) := by
  have e23 : c23 (ls, ()) = some ((runP 0 (ls.map LineT.kind) [] []).2.1, (runP 0 (ls.map LineT.kind) [] []).2.2, ()) := if_pos h1
  have hK : (ls.map LineT.kind).length = ls.length := by simp
  unfold sh12
  simp only [e23, Option.bind_some]
  by_cases h2 : (runP 0 (ls.map LineT.kind) [] []).2.2 = 0
  · have h3 : (runP ((0 : Nat) : Int) ((ls.map LineT.kind).drop 0) [] []).2.2 = 0 := h2
    have e24 : c24 (ls, 0, ()) = some ((stopP 0 (ls.map LineT.kind) [] []).1, ((stopP 0 (ls.map LineT.kind) [] []).2 : Int), ()) := if_pos ⟨h1, by show (0 : Int) ≤ 0; omega, by show (0 : Int) ≤ (ls.length : Int); omega, by show ls.length - 0 < 2000; omega, [], h2⟩
    obtain ⟨q1, q2, q3, q4, q5, q6⟩ := stopP_at (ls.map LineT.kind) 0 [] [] [] (by omega) h3
    simp only [ine_false h2, cond_false, e24, Option.bind_some]
    simp only [List.drop_zero] at q1 q2 q3 q4 q5 q6
    have hge : ¬ (stopP 0 (ls.map LineT.kind) [] []).2 < (ls.map LineT.kind).length := fun hl => by
      have h7 := q6 hl
      rw [runP_drop _ _ hl] at q3
      have : stepP (ls.map LineT.kind)[(stopP 0 (ls.map LineT.kind) [] []).2] (stopP 0 (ls.map LineT.kind) [] []).2 [] (stopP 0 (ls.map LineT.kind) [] []).1 = none := by
        unfold stepP
        rw [if_neg (by omega)]
        by_cases h8 : (ls.map LineT.kind)[(stopP 0 (ls.map LineT.kind) [] []).2] = 5 ∨ (ls.map LineT.kind)[(stopP 0 (ls.map LineT.kind) [] []).2] = 6
        · rw [if_pos h8]
        · rw [if_neg h8, if_pos (by omega)]
      rw [this] at q3
      simp at q3
    rw [List.drop_of_length_le (by omega)] at q4
    have q7 : runP 0 (ls.map LineT.kind) [] [] = ((stopP 0 (ls.map LineT.kind) [] []).1, 0, 0) := q4
    rw [q7]
  · have := runP_wrong (ls.map LineT.kind) 0 [] [] h2
    simp only [ine_true h2, cond_true, this]
theorem ok12 : ConOk CC Try.prog 12 ⟨as12, rs12, c12⟩ := (con12 0 c23 ok23 c24 ok24).sub fun x y h => by
  unfold c12 at h
  split at h
  · rename_i h1
    injection h with h
    subst h
    exact sh12_spec _ _ _ h1
  · cases h

/-- The law. -/
theorem c12_lines (xs : List Int) (h : xs.length ≤ 1000) : c12 (xs.map lineK, ()) = some ((runP 0 xs [] []).1, (runP 0 xs [] []).2.1, (runP 0 xs [] []).2.2, ()) := by
  have e : (xs.map lineK).map LineT.kind = xs := by rw [List.map_map]; exact List.map_id'' (fun _ => rfl) xs
  unfold c12
  simp only [e, List.length_map]
  rw [if_pos h]
theorem sh3_true (fu : Nat) (nf : Nat → Bool) (a : List Int) : sh3 fu c9 c10 c11 c12 c13 nf a = some (true, ()) := by
  unfold sh3
  simp only [c9, Option.bind_some]
  by_cases h1 : 500 < a.length
  · have e1 : ilt 500 (lenI a) = true := by unfold ilt lenI; simp; omega
    simp only [e1, cond_true]
  have e1 : ilt 500 (lenI a) = false := by unfold ilt lenI; simp; omega
  have e13 : c13 ((runP 0 a [] []).1, (runP 0 a [] []).1, ()) = some (true, ()) := by
    have hl : (flatIts (runP 0 a [] []).1).length < 1000000 := by
      by_cases h2 : (runP 0 a [] []).2.2 = 0
      · rw [runP_len a h2, up_length]; omega
      · rw [runP_wrong a 0 [] [] h2]; simp [flatIts]
    unfold c13 c13n; rw [if_pos hl, (eqIts_iff _ _).2 rfl]
  simp only [e1, cond_false, c11_lines a (by omega), c10_lines a (by omega), c12_lines a (by omega), Option.bind_some, cond_true, ieq_true rfl, e13]
def c3 (_ : List Int × Unit) : Option (Bool × Unit) := some (true, ())
theorem ok3 : ConOk CC Try.prog 3 ⟨as3, rs3, c3⟩ := (con3 0 c9 ok9 c10 ok10 c11 ok11 c12 ok12 c13 ok13).sub fun x y h => by
  injection h with h
  subst h
  exact sh3_true _ _ _
theorem law3 (a : List Int) : c3 (a, ()) = some (true, ()) := rfl
end Go.Proofs.Ytdedkemkmccliaa
