/-
  RUNS OF THE MACHINE: what they leave lies in order; lines parsed further on, above open ones.
-/
import Derived.Test.YtdedkemkmccliaaP4
set_option linter.unusedVariables false
set_option linter.unusedSimpArgs false
namespace Go.Proofs.Ytdedkemkmccliaa
open Go.Al Go.Den

/-- From i on, so many. -/
def up (i : Int) : Nat → List Int
  | 0 => []
  | n + 1 => i :: up (i + 1) n
theorem up_length : ∀ (n : Nat) (i : Int), (up i n).length = n
  | 0, _ => rfl
  | n + 1, i => by simp [up, up_length n]
theorem up_get : ∀ (n : Nat) (i : Int) (k : Nat), k < n → (up i n)[k]? = some (i + k)
  | 0, _, _, h => by omega
  | n + 1, i, 0, _ => by simp [up]
  | n + 1, i, k + 1, h => by
    simp only [up, List.getElem?_cons_succ]
    rw [up_get n (i + 1) k (by omega)]
    congr 1
    omega

/-- The lines that stand in what is open. -/
def preO : List O → List Int
  | [] => []
  | o :: r => preO r ++ (flatIts o.ah ++ (flatBrs o.brs ++ [o.cur]))

theorem flatIts_snoc (its : List It) (x : It) : flatIts (its ++ [x]) = flatIts its ++ flatIt x := by
  rw [flatIts_append]; simp [flatIts]
theorem flatBrs_snoc (bs : List Br) (x : Br) : flatBrs (bs ++ [x]) = flatBrs bs ++ flatBr x := by
  rw [flatBrs_append]; simp [flatBrs]

theorem stepP_flat {k i : Int} {ops : List O} {its : List It} {p : List O × List It} (h : stepP k i ops its = some p) : preO p.1 ++ flatIts p.2 = preO ops ++ flatIts its ++ [i] := by
  unfold stepP at h
  split at h
  · injection h with h; subst h
    simp [preO, flatIts, flatBrs]
  · split at h
    · cases ops with
      | nil => cases h
      | cons o r =>
        simp only at h
        split at h
        · cases h
        · injection h with h; subst h
          simp [preO, flatIts, flatBrs_snoc, flatBr]
    · split at h
      · cases ops with
        | nil => cases h
        | cons o r =>
          injection h with h; subst h
          simp only [preO, flatIts_snoc]
          rw [flatIt_mk _ _ _ (by simp), flatBrs_snoc]
          simp [flatBr]
      · injection h with h; subst h
        simp [flatIts_snoc, flatIt]

theorem runP_flat : ∀ (ks : List Int) (i : Int) (ops : List O) (its : List It), (runP i ks ops its).2.2 = 0 → flatIts (runP i ks ops its).1 = preO ops ++ flatIts its ++ up i ks.length
  | [], i, [], its, h => by simp [runP, preO, up]
  | [], i, o :: r, its, h => by simp [runP] at h
  | k :: ks, i, ops, its, h => by
    unfold runP at h ⊢
    cases hs : stepP k i ops its with
    | none => rw [hs] at h; simp at h
    | some p =>
      rw [hs] at h
      simp only at h ⊢
      rw [runP_flat ks (i + 1) p.1 p.2 h, stepP_flat hs]
      simp [up]
theorem runP_wrong : ∀ (ks : List Int) (i : Int) (ops : List O) (its : List It), (runP i ks ops its).2.2 ≠ 0 → (runP i ks ops its).1 = []
  | [], i, [], its, h => by simp [runP] at h
  | [], i, o :: r, its, h => by simp [runP]
  | k :: ks, i, ops, its, h => by
    unfold runP at h ⊢
    cases hs : stepP k i ops its with
    | none => rfl
    | some p =>
      rw [hs] at h
      exact runP_wrong ks (i + 1) p.1 p.2 h

/- All further on. -/
mutual
def shIt (d : Int) : It → It
  | .mk l e bs => .mk (l + d) (e + d) (shBrs d bs)
def shBrs (d : Int) : List Br → List Br
  | [] => []
  | b :: r => shBr d b :: shBrs d r
def shBr (d : Int) : Br → Br
  | .mk l is => .mk (l + d) (shIts d is)
def shIts (d : Int) : List It → List It
  | [] => []
  | x :: r => shIt d x :: shIts d r
end
theorem shIts_append (d : Int) (a b : List It) : shIts d (a ++ b) = shIts d a ++ shIts d b := by
  induction a with
  | nil => rfl
  | cons x r ih => simp [shIts, ih]
theorem shBrs_append (d : Int) (a b : List Br) : shBrs d (a ++ b) = shBrs d a ++ shBrs d b := by
  induction a with
  | nil => rfl
  | cons x r ih => simp [shBrs, ih]
theorem shIts_length (d : Int) : ∀ a : List It, (shIts d a).length = a.length
  | [] => rfl
  | x :: r => by simp [shIts, shIts_length d r]
mutual
theorem flatIt_sh (d : Int) : ∀ x : It, flatIt (shIt d x) = (flatIt x).map (· + d)
  | .mk l e [] => by simp [shIt, shBrs, flatIt]
  | .mk l e (b :: r) => by
    have h := flatBrs_sh d (b :: r)
    simp only [shIt, shBrs, flatIt] at h ⊢
    rw [h]; simp
theorem flatBrs_sh (d : Int) : ∀ x : List Br, flatBrs (shBrs d x) = (flatBrs x).map (· + d)
  | [] => rfl
  | b :: r => by simp [shBrs, flatBrs, flatBr_sh d b, flatBrs_sh d r]
theorem flatBr_sh (d : Int) : ∀ x : Br, flatBr (shBr d x) = (flatBr x).map (· + d)
  | .mk l is => by simp [shBr, flatBr, flatIts_sh d is]
theorem flatIts_sh (d : Int) : ∀ x : List It, flatIts (shIts d x) = (flatIts x).map (· + d)
  | [] => rfl
  | b :: r => by simp [shIts, flatIts, flatIt_sh d b, flatIts_sh d r]
end
mutual
theorem depthIt_sh (d : Int) : ∀ x : It, depthIt (shIt d x) = depthIt x
  | .mk l e bs => by simp [shIt, depthIt, depthBrs_sh d bs]
theorem depthBrs_sh (d : Int) : ∀ x : List Br, depthBrs (shBrs d x) = depthBrs x
  | [] => rfl
  | b :: r => by simp [shBrs, depthBrs, depthBr_sh d b, depthBrs_sh d r]
theorem depthBr_sh (d : Int) : ∀ x : Br, depthBr (shBr d x) = depthBr x
  | .mk l is => by simp [shBr, depthBr, depthIts_sh d is]
theorem depthIts_sh (d : Int) : ∀ x : List It, depthIts (shIts d x) = depthIts x
  | [] => rfl
  | b :: r => by simp [shIts, depthIts, depthIt_sh d b, depthIts_sh d r]
end

/-- What is open, further on, above what was open before; what stood ahead of it all comes first. -/
def liO (d : Int) (p : List It) : List O → List O
  | [] => []
  | o :: r => ⟨o.l + d, shBrs d o.brs, o.cur + d, o.last, (if r.isEmpty then p else []) ++ shIts d o.ah, 0, 0, 0⟩ :: liO d p r
def liI (d : Int) (p : List It) (ops : List O) (its : List It) : List It := (if ops.isEmpty then p else []) ++ shIts d its

theorem stepP_li (d : Int) (p : List It) (ops0 : List O) {k i : Int} {ops : List O} {its : List It} {q : List O × List It} (h : stepP k i ops its = some q) :
    stepP k (i + d) (liO d p ops ++ ops0) (liI d p ops its) = some (liO d p q.1 ++ ops0, liI d p q.1 q.2) := by
  unfold stepP at h ⊢
  split at h
  · rename_i hk
    injection h with h; subst h
    rw [if_pos hk]
    simp [liO, liI, shBrs, shIts]
  · rename_i hk
    rw [if_neg hk]
    split at h
    · rename_i hk2
      rw [if_pos hk2]
      cases ops with
      | nil => cases h
      | cons o r =>
        simp only at h
        split at h
        · cases h
        · rename_i hl
          injection h with h; subst h
          simp only [liO, List.cons_append]
          rw [if_neg hl]
          simp [liO, liI, shBrs_append, shBrs, shBr, shIts]
    · rename_i hk2
      rw [if_neg hk2]
      split at h
      · rename_i hk3
        rw [if_pos hk3]
        cases ops with
        | nil => cases h
        | cons o r =>
          injection h with h; subst h
          simp only [liO, List.cons_append]
          simp [liI, shIts_append, shBrs_append, shBrs, shBr, shIts, shIt]
      · rename_i hk3
        rw [if_neg hk3]
        injection h with h; subst h
        simp [liI, shIts_append, shBrs, shIts, shIt]

theorem stepP_li_none (d : Int) (p : List It) {k i : Int} {ops : List O} {its : List It} (h : stepP k i ops its = none) : stepP k (i + d) (liO d p ops) (liI d p ops its) = none := by
  unfold stepP at h ⊢
  split at h
  · cases h
  · rename_i hk
    rw [if_neg hk]
    split at h
    · rename_i hk2
      rw [if_pos hk2]
      cases ops with
      | nil => rfl
      | cons o r =>
        simp only at h
        split at h
        · rename_i hl; simp only [liO]; rw [if_pos hl]
        · cases h
    · rename_i hk2
      rw [if_neg hk2]
      split at h
      · rename_i hk3
        rw [if_pos hk3]
        cases ops with
        | nil => rfl
        | cons o r => cases h
      · cases h

/-- Lines that are parsed, further on, above what was open: the rest goes on behind them. -/
theorem runP_li (d : Int) (p : List It) (ops0 : List O) (rest : List Int) : ∀ (ks : List Int) (i : Int) (ops : List O) (its : List It), (runP i ks ops its).2.2 = 0 →
    runP (i + d) (ks ++ rest) (liO d p ops ++ ops0) (liI d p ops its) = runP (i + d + ks.length) rest ops0 (p ++ shIts d (runP i ks ops its).1)
  | [], i, [], its, h => by simp [runP, liO, liI]
  | [], i, o :: r, its, h => by simp [runP] at h
  | k :: ks, i, ops, its, h => by
    have e : runP i (k :: ks) ops its = match stepP k i ops its with | none => ([], i, 50) | some (ops', its') => runP (i + 1) ks ops' its' := rfl
    rw [e] at h ⊢
    cases hs : stepP k i ops its with
    | none => rw [hs] at h; simp at h
    | some q =>
      rw [hs] at h
      simp only at h ⊢
      have h2 := runP_li d p ops0 rest ks (i + 1) q.1 q.2 h
      have e2 : runP (i + d) (k :: ks ++ rest) (liO d p ops ++ ops0) (liI d p ops its) = match stepP k (i + d) (liO d p ops ++ ops0) (liI d p ops its) with | none => ([], i + d, 50) | some (ops', its') => runP (i + d + 1) (ks ++ rest) ops' its' := rfl
      rw [e2, stepP_li d p ops0 hs]
      simp only
      have e3 : i + d + 1 = i + 1 + d := by omega
      rw [e3, h2]
      congr 1
      simp only [List.length_cons]
      omega

/-- What is wrong, further on. -/
theorem runP_li_wrong (d : Int) (p : List It) : ∀ (ks : List Int) (i : Int) (ops : List O) (its : List It), (runP i ks ops its).2.2 ≠ 0 →
    runP (i + d) ks (liO d p ops) (liI d p ops its) = ([], (runP i ks ops its).2.1 + d, (runP i ks ops its).2.2)
  | [], i, [], its, h => by simp [runP] at h
  | [], i, o :: r, its, h => by simp [runP, liO]
  | k :: ks, i, ops, its, h => by
    have e : runP i (k :: ks) ops its = match stepP k i ops its with | none => ([], i, 50) | some (ops', its') => runP (i + 1) ks ops' its' := rfl
    rw [e] at h ⊢
    have e2 : runP (i + d) (k :: ks) (liO d p ops) (liI d p ops its) = match stepP k (i + d) (liO d p ops) (liI d p ops its) with | none => ([], i + d, 50) | some (ops', its') => runP (i + d + 1) ks ops' its' := rfl
    rw [e2]
    cases hs : stepP k i ops its with
    | none => rw [stepP_li_none d p hs]
    | some q =>
      rw [hs] at h
      simp only at h ⊢
      have h2 := stepP_li d p [] hs
      rw [List.append_nil, List.append_nil] at h2
      rw [h2]
      simp only
      have e3 : i + d + 1 = i + 1 + d := by omega
      rw [e3, runP_li_wrong d p ks (i + 1) q.1 q.2 h]
end Go.Proofs.Ytdedkemkmccliaa
