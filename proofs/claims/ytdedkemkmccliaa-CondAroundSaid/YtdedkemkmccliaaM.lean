/-
  The conditionals' parser as a machine of steps.
-/
import Derived.Test.YtdedkemkmccliaaW3
set_option linter.unusedVariables false
set_option linter.unusedSimpArgs false
namespace Go.Proofs.Ytdedkemkmccliaa
open Go.Al

/-- An open conditional: its line; the branches that are done; the line of the one that is not; whether that one is the last; what stood ahead. Behind them what the store has of it: the name of what stood ahead; the block of the branches, and its room. -/
structure O where
  l : Int
  brs : List Br
  cur : Int
  last : Bool
  ah : List It
  t : Nat
  bb : Nat
  cap : Nat

/-- One line: the open conditionals, the innermost first; the items so far. -/
def stepP (k i : Int) (ops : List O) (its : List It) : Option (List O × List It) :=
  if k = 2 ∨ k = 3 ∨ k = 4 then some (⟨i, [], i, false, its, 0, 0, 0⟩ :: ops, [])
  else if k = 5 ∨ k = 6 then
    match ops with
    | [] => none
    | o :: r => if o.last = true then none else some (⟨o.l, o.brs ++ [.mk o.cur its], i, k == 6, o.ah, 0, 0, 0⟩ :: r, [])
  else if k = 7 then
    match ops with
    | [] => none
    | o :: r => some (r, o.ah ++ [.mk o.l i (o.brs ++ [.mk o.cur its])])
  else some (ops, its ++ [.mk i i []])

def runP : Int → List Int → List O → List It → List It × Int × Int
  | _, [], [], its => (its, 0, 0)
  | _, [], o :: _, _ => ([], o.l, 51)
  | i, k :: ks, ops, its => match stepP k i ops its with
    | none => ([], i, 50)
    | some (ops', its') => runP (i + 1) ks ops' its'

/-- The same but for what the store has. -/
def O.bare (o : O) : O := ⟨o.l, o.brs, o.cur, o.last, o.ah, 0, 0, 0⟩

theorem stepP_bare (k i : Int) (ops : List O) (its : List It) : stepP k i (ops.map O.bare) its = (stepP k i ops its).map fun p => (p.1.map O.bare, p.2) := by
  unfold stepP
  split
  · rfl
  · split
    · cases ops with
      | nil => rfl
      | cons o r =>
        simp only [List.map_cons]
        show (if o.last = true then none else _) = _
        split <;> rfl
    · split
      · cases ops <;> rfl
      · rfl

theorem runP_bare : ∀ (ks : List Int) (i : Int) (ops : List O) (its : List It), runP i ks (ops.map O.bare) its = runP i ks ops its
  | [], _, [], _ => rfl
  | [], _, _ :: _, _ => rfl
  | k :: ks, i, ops, its => by
    unfold runP
    rw [stepP_bare]
    cases stepP k i ops its with
    | none => rfl
    | some p => exact runP_bare ks (i + 1) p.1 p.2

def O.cells (o : O) : List V := [vi o.l, .at (.slice (some ⟨o.bb, 0, none⟩) (o.brs.length + 1) o.cap), .at (.bool o.last), .lst (.own o.t true 3) (o.ah.map encIt)]
def opCells : List O → List V
  | [] => []
  | o :: r => opCells r ++ o.cells
theorem opCells_length : ∀ ops : List O, (opCells ops).length = ops.length * 4
  | [] => rfl
  | o :: r => by simp [opCells, O.cells, opCells_length r]; omega
def O.brCells (o : O) : List V := flats (o.brs.map encBr) ++ [vi o.cur, .lst .nil []]
theorem flats_brs : ∀ bs : List Br, (flats (bs.map encBr)).length = bs.length * 2
  | [] => rfl
  | .mk l is :: r => by simp [flats, encBr_mk, V.flat, flats_brs r]; omega
theorem brCells_length (o : O) : o.brCells.length = o.brs.length * 2 + 2 := by simp [O.brCells, flats_brs]

/-- What the store holds. -/
structure StOk (b5 : Nat) (ops : List O) (bx : List (Nat × List V × Nat)) : Prop where
  stk : (ops = [] ∧ Go.Al.look bx b5 = some ([.lst .nil []], 1)) ∨ ∃ bA capA junk, Go.Al.look bx b5 = some ([.at (.slice (some ⟨bA, 0, none⟩) ops.length capA)], 1) ∧
    Go.Al.look bx bA = some (opCells ops ++ junk, capA * 4) ∧ ops.length ≤ capA ∧ ¬ b5 = bA ∧ ∀ o ∈ ops, ¬ o.bb = bA
  br : ∀ o ∈ ops, Go.Al.look bx o.bb = some (o.brCells, o.cap * 2) ∧ o.brs.length + 1 ≤ o.cap ∧ ¬ o.bb = b5
  dist : (ops.map O.bb).Nodup

/-- The names. -/
structure TgOk (ti : Nat) (ops : List O) (tg : List Nat) (nx : Nat) : Prop where
  nodup : (ti :: ops.map O.t).Nodup
  mem : ∀ t ∈ ti :: ops.map O.t, t ∈ tg ∧ t < nx

/-- How much there is. -/
structure SzOk (n : Nat) (ops : List O) (its : List It) : Prop where
  nops : ops.length ≤ n
  nits : its.length ≤ n
  each : ∀ o ∈ ops, o.brs.length ≤ n ∧ o.ah.length ≤ n

structure PSt where
  i : Nat
  ops : List O
  its : List It
  ti : Nat
  bx : List (Nat × List V × Nat)
  tg : List Nat
  nx : Nat

structure PInv (ks : List Int) (b5 : Nat) (s : PSt) : Prop where
  le : s.i ≤ ks.length
  run : runP s.i (ks.drop s.i) s.ops s.its = runP 0 ks [] []
  st : StOk b5 s.ops s.bx
  tg : TgOk s.ti s.ops s.tg s.nx
  sz : SzOk s.i s.ops s.its

theorem StOk.look5 {b5 : Nat} {ops : List O} {bx : List (Nat × List V × Nat)} (h : StOk b5 ops bx) : ∃ c, Go.Al.look bx b5 = some c := by
  rcases h.stk with ⟨_, h⟩ | ⟨_, _, _, h, _⟩ <;> exact ⟨_, h⟩

/-- More boxes. -/
theorem StOk.more {b5 : Nat} {ops : List O} {bx bx' : List (Nat × List V × Nat)} (h : StOk b5 ops bx) (hm : ∀ b c, Go.Al.look bx b = some c → Go.Al.look bx' b = some c) : StOk b5 ops bx' := by
  refine ⟨?_, fun o ho => ⟨hm _ _ (h.br o ho).1, (h.br o ho).2⟩, h.dist⟩
  rcases h.stk with ⟨h1, h2⟩ | ⟨bA, capA, junk, h1, h2, h3⟩
  · exact .inl ⟨h1, hm _ _ h2⟩
  · exact .inr ⟨bA, capA, junk, hm _ _ h1, hm _ _ h2, h3⟩

end Go.Proofs.Ytdedkemkmccliaa
