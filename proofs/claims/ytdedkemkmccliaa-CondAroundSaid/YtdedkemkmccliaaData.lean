/-
  The conditionals' data as Lean data, and how they read as abstract values.
-/
import Derived.Test.YtdedkemkmccliaaAC
set_option linter.unusedVariables false
set_option linter.unusedSimpArgs false
namespace Go.Proofs.Ytdedkemkmccliaa
open Go.Al

def pol : Pol := ⟨fun f => !([19, 20, 21, 22].contains f), fun _ => false, fun _ => false⟩
theorem pol_wr (d : Nat) : pol.wr d = false := rfl
theorem pol_own (d : Nat) : pol.own d = false := rfl
def vi (n : Int) : V := .at (.int .i64 n)

def lineV (k : Int) : V := .agg [vi k, vi 0, vi 0, .lst .nil []]
/-- A slice of these: nil, if it is empty. -/
def sl (es : List V) : V := .lst (tagOf es) es


mutual
/-- An item: its first line, its last line, its branches. -/
inductive It where
  | mk (line fin : Int) (brs : List Br)
/-- A branch: its line, its items. -/
inductive Br where
  | mk (line : Int) (items : List It)
end

mutual
def encIt : It → V
  | .mk l e bs => .agg [vi l, vi e, sl (encBrs bs)]
def encBrs : List Br → List V
  | [] => []
  | b :: r => encBr b :: encBrs r
def encBr : Br → V
  | .mk l is => .agg [vi l, sl (encIts is)]
def encIts : List It → List V
  | [] => []
  | x :: r => encIt x :: encIts r
end

theorem encIts_map : ∀ l : List It, encIts l = l.map encIt
  | [] => rfl
  | x :: r => by simp [encIts, encIts_map r]
theorem encBrs_map : ∀ l : List Br, encBrs l = l.map encBr
  | [] => rfl
  | x :: r => by simp [encBrs, encBrs_map r]

theorem encIt_mk (l e : Int) (bs : List Br) : encIt (.mk l e bs) = .agg [vi l, vi e, sl (bs.map encBr)] := by rw [encIt, encBrs_map]
theorem encBr_mk (l : Int) (is : List It) : encBr (.mk l is) = .agg [vi l, sl (is.map encIt)] := by rw [encBr, encIts_map]

mutual
def flatIt : It → List Int
  | .mk l _ [] => [l]
  | .mk _ e (b :: bs) => flatBrs (b :: bs) ++ [e]
def flatBrs : List Br → List Int
  | [] => []
  | b :: r => flatBr b ++ flatBrs r
def flatBr : Br → List Int
  | .mk l is => l :: flatIts is
def flatIts : List It → List Int
  | [] => []
  | x :: r => flatIt x ++ flatIts r
end

mutual
def depthIt : It → Nat
  | .mk _ _ bs => depthBrs bs
def depthBrs : List Br → Nat
  | [] => 0
  | b :: r => max (depthBr b) (depthBrs r)
def depthBr : Br → Nat
  | .mk _ is => 1 + depthIts is
def depthIts : List It → Nat
  | [] => 0
  | x :: r => max (depthIt x) (depthIts r)
end

theorem flatIts_append (a b : List It) : flatIts (a ++ b) = flatIts a ++ flatIts b := by
  induction a with
  | nil => rfl
  | cons x r ih => simp [flatIts, ih]
theorem flatBrs_append (a b : List Br) : flatBrs (a ++ b) = flatBrs a ++ flatBrs b := by
  induction a with
  | nil => rfl
  | cons x r ih => simp [flatBrs, ih]

theorem flatIts_take (its : List It) (i : Nat) (h : i < its.length) : flatIts (its.take (i + 1)) = flatIts (its.take i) ++ flatIt its[i] := by
  rw [List.take_succ_eq_append_getElem h, flatIts_append]; simp [flatIts]
theorem flatBrs_take (bs : List Br) (i : Nat) (h : i < bs.length) : flatBrs (bs.take (i + 1)) = flatBrs (bs.take i) ++ flatBr bs[i] := by
  rw [List.take_succ_eq_append_getElem h, flatBrs_append]; simp [flatBrs]
theorem flatIts_le (its : List It) (i : Nat) : (flatIts (its.take i)).length ≤ (flatIts its).length := by
  have : its = its.take i ++ its.drop i := (List.take_append_drop i its).symm
  rw [congrArg flatIts this, flatIts_append]; simp
theorem flatBrs_le (bs : List Br) (i : Nat) : (flatBrs (bs.take i)).length ≤ (flatBrs bs).length := by
  have : bs = bs.take i ++ bs.drop i := (List.take_append_drop i bs).symm
  rw [congrArg flatBrs this, flatBrs_append]; simp
theorem flatIt_mk (l e : Int) (bs : List Br) (h : bs ≠ []) : flatIt (.mk l e bs) = flatBrs bs ++ [e] := by
  cases bs with
  | nil => exact absurd rfl h
  | cons b r => rfl

theorem flatIt_pos (x : It) : 1 ≤ (flatIt x).length := by
  cases x with
  | mk l e bs => cases bs <;> simp [flatIt]
theorem flatIts_ge : ∀ its : List It, its.length ≤ (flatIts its).length
  | [] => Nat.zero_le _
  | x :: r => by have h1 := flatIt_pos x; have h2 := flatIts_ge r; simp [flatIts]; omega
theorem flatBrs_ge : ∀ bs : List Br, bs.length ≤ (flatBrs bs).length
  | [] => Nat.zero_le _
  | .mk l is :: r => by have h2 := flatBrs_ge r; simp [flatBrs, flatBr]; omega

/-- What is within is smaller. -/
theorem items_lt {its : List It} {x : It} (hx : x ∈ its) {l e : Int} {bs : List Br} (h : x = .mk l e bs) {b : Br} (hb : b ∈ bs) {l2 : Int} {is : List It} (h2 : b = .mk l2 is) : SizeOf.sizeOf is < SizeOf.sizeOf its := by
  have h3 := List.sizeOf_lt_of_mem hx
  have h4 := List.sizeOf_lt_of_mem hb
  subst h; subst h2
  simp at h3 h4
  omega

end Go.Proofs.Ytdedkemkmccliaa
