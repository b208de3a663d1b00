/-
  From a contract to a given statement: arguments that are slices of numbers, or numbers, or texts. General: no function in sight.
-/
import Derived.Test.YtegibhjgldpndaaDoorDB
import Derived.WalkKit
import Derived.ProofKit
import Derived.OpenShut
import Derived.ShutString
import Derived.ChangeOld
import Derived.Below
import Derived.Carry
set_option linter.unusedVariables false
set_option linter.unusedSimpArgs false
namespace Go.Den
open Go.Al Go.ChangeShapes Go.WideShapes Go.ChangeAt Go.RowKit

/-- How many cells a block has. -/
def wmOf (w : World) : Nat → Nat := fun b => match w.heap[b]? with | some (.cells c _ _) => c.size | _ => 0

theorem wmOf_fresh (w : World) : ∀ b, w.heap.size ≤ b → wmOf w b = 0 := fun b hb => by
  unfold wmOf
  rw [Array.getElem?_eq_none hb]

theorem wmOf_cell {w : World} {b o : Nat} {v : Value} (h : w.cell? ⟨b, o, none⟩ = some v) : o < wmOf w b := by
  unfold World.cell? at h
  unfold wmOf
  split at h
  · rename_i c _ _ hc
    simp only at hc
    rw [hc]
    simp at h
    exact (Array.getElem?_eq_some_iff.1 h).1
  · cases h

theorem RCs_ints {g : Gh} {w : World} : ∀ zs : List Int, RCs g w (zs.map fun z => V.at (.int .i64 z)) (zs.map fun z => .int .i64 z)
  | [] => by simp [RCs]
  | z :: r => by
    simp only [List.map_cons, RCs]
    exact ⟨[.int .i64 z], _, rfl, by simp [RC, one], RCs_ints r⟩

/-- What comes in: a slice of numbers. -/
theorem open_lst {P : Program} {W : World} {base : Nat} {H : Type} {enc : TypeId × Value → H} {t e : TypeId} {v : Value} {d : DataW H} {ps : List MemPlace} (ht : P.underlying t = some (.slice e)) (he : P.underlying e = some (.int .i64)) (hc : P.cellsOf e = 1)
    (hv : Value.okWide P W .any base t v) (hd : DataW.Trod enc P W 0 (fun _ => true) true t v d ps) :
    ∃ (n : Bool) (zs : List Int), RV1 ⟨wmOf W, fun _ => none⟩ W (.lst (if n then .nil else .no) (zs.map fun z => V.at (.int .i64 z))) v := by
  obtain ⟨a0, len0, cap0, rfl⟩ := okWide_slice ht hv
  obtain ⟨fuel, hf⟩ := hd
  rcases open_ints ht he hc hf with ⟨hcs, _⟩ | ⟨x, l, c, zs, hcs, _, hl, hm, hz, _, hcell, hwz⟩
  · simp [Value.cells] at hcs
    obtain ⟨rfl, rfl, rfl⟩ := hcs
    exact ⟨true, [], [.slice none 0 0], by simp [RC, NilOk], rfl⟩
  · simp [Value.cells] at hcs
    obtain ⟨rfl, rfl, rfl⟩ := hcs
    have hspot : x.spot = none := by
      simp only [Value.okWide, ht, Cell.okWide, Cell.ok] at hv
      exact hv.2.2.2.1
    obtain ⟨b, o, sp⟩ := x
    simp only at hspot
    subst hspot
    have hzl : zs.length = cap0 := by simpa using hz
    refine ⟨false, zs.take len0, [.slice (some ⟨b, o, none⟩) len0 cap0], ?_, rfl⟩
    simp only [RC, Bool.false_eq_true, if_false]
    refine .inr ⟨b, o, cap0, (zs.take len0).map fun z => .int .i64 z, ?_, ?_, trivial, RCs_ints _, ⟨1, ?_, fun _ _ _ h => by cases h⟩, ?_⟩
    · simp; omega
    · simp; omega
    · intro y hy
      obtain ⟨z, _, rfl⟩ := List.mem_map.1 hy
      rfl
    · intro k u hk
      rw [List.getElem?_map] at hk
      cases hq : (zs.take len0)[k]? with
      | none => rw [hq] at hk; cases hk
      | some z =>
        rw [hq] at hk
        injection hk with hk
        subst hk
        rw [List.getElem?_take] at hq
        split at hq
        · rename_i hlt
          have hlt2 : k < zs.length := (List.getElem?_eq_some_iff.1 hq).1
          have h1 := hcell k hlt2
          have h2 : zs.getD k 0 = z := by rw [List.getD_eq_getElem?_getD, hq]; rfl
          rw [h2] at h1
          have h3 : (⟨b, o, none⟩ : Addr).add k = ⟨b, o + k, none⟩ := by
            unfold Addr.add
            split
            · rename_i h0; subst h0; rfl
            · rfl
          rw [h3] at h1
          exact ⟨h1, wmOf_cell h1⟩
        · cases hq

theorem ArgVs_nil {U : TyU} {C : Cod U} : ArgVs C [] () [] := rfl
end Go.Den
