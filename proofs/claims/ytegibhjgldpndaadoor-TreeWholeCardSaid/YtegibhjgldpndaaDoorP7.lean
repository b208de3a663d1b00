/-
  What the functions over trees work out: printing, likeness, moving, paths.
-/
import Derived.Test.YtegibhjgldpndaaDoorP6
set_option linter.unusedVariables false
set_option linter.unusedSimpArgs false
namespace Go.Proofs.YtegibhjgldpndaaDoor
open Go.Al Go.Den

theorem szK_mem : ∀ {ks : List Nd} {t : Nd}, t ∈ ks → szT t ≤ szK ks
  | [], _, h => by simp at h
  | x :: r, t, h => by
    rcases List.mem_cons.1 h with rfl | h
    · simp [szK]
    · have := szK_mem h; simp only [szK]; omega
theorem szT_pos (t : Nd) : 0 < szT t := by cases t; simp only [szT]; omega
theorem szK_len : ∀ ks : List Nd, ks.length ≤ szK ks
  | [] => by simp [szK]
  | t :: r => by have := szK_len r; have := szT_pos t; simp only [szK, List.length_cons]; omega
theorem szT_kids {k a : Int} {ks : List Nd} : szT (.mk k a ks) = 1 + szK ks := by simp only [szT]
theorem prK_app (x : Nd) : ∀ ks : List Nd, prK (ks ++ [x]) = prK ks ++ 32 :: prT x
  | [] => by simp [prK]
  | t :: r => by simp only [List.cons_append, prK, prK_app x r]; simp
theorem take_snoc {α : Type} (l : List α) (j : Nat) (h : j < l.length) : l.take (j + 1) = l.take j ++ [l[j]] := List.take_succ_eq_append_getElem h
theorem wfK_mem : ∀ {ks : List Nd} {t : Nd}, wfK ks → t ∈ ks → wfT t
  | [], _, _, h => by simp at h
  | x :: r, t, hw, h => by
    simp only [wfK] at hw
    rcases List.mem_cons.1 h with rfl | h
    · exact hw.1
    · exact wfK_mem hw.2 h
theorem prK_take : ∀ (ks : List Nd) (j : Nat), (prK (ks.take j)).length ≤ (prK ks).length
  | [], j => by simp
  | t :: r, 0 => by simp [prK]
  | t :: r, j + 1 => by have := prK_take r j; simp only [List.take_succ_cons, prK, List.length_cons, List.length_append]; omega

theorem prK_len : ∀ ks : List Nd, ks.length ≤ (prK ks).length
  | [] => by simp
  | t :: r => by have := prK_len r; simp only [prK, List.length_cons, List.length_append]; omega

/- Print. -/
theorem sh12_spec (n fu : Nat) (c : Nd × Unit → Option (List UInt8 × Unit)) (nf : Nat → Bool) (t : Nd) (hc : ∀ x, wfT x → szT x < n → (prT x).length ≤ 1000000 → c (x, ()) = some (prT x, ())) (hw : wfT t) (hn : szT t < n + 1) (hl : (prT t).length ≤ 1000000) (hfu : szT t < fu) :
    sh12 fu c c27 nf t = some (prT t, ()) := by
  obtain ⟨k, a, ks⟩ := t
  unfold sh12
  simp only [Nd.kind, Nd.tok, Nd.kids, ieq_dec]
  by_cases hk : k = 0
  · subst hk
    have h27 : c27 (a, ()) = some (Lib.itoa a, ()) := by
      simp only [wfT] at hw
      exact if_pos (by show _ ≤ a ∧ a ≤ _; omega)
    simp only [decide_true, cond_true, h27, Option.bind_some, prT, if_true]
  · simp only [wfT] at hw
    obtain ⟨w1, w2, w3, w4⟩ : 1 ≤ k ∧ k ≤ 99 ∧ a = 0 ∧ wfK ks := by
      rcases hw with h | h
      · exact absurd h.1 hk
      · exact h
    have h27 : c27 (k, ()) = some (Lib.itoa k, ()) := if_pos (by show _ ≤ k ∧ k ≤ _; omega)
    have hpr : prT (.mk k a ks) = 40 :: (Lib.itoa k ++ (prK ks ++ [41])) := by simp only [prT, if_neg hk]
    rw [hpr] at hl ⊢
    simp only [List.length_cons, List.length_append, List.length_nil] at hl
    rw [szT_kids] at hn hfu
    have k1 : okS (1 + (Lib.itoa k).length) = true := okS_of (by omega)
    simp only [hk, decide_false, cond_false, h27, Option.bind_some, k1, cond_true]
    refine iter_ind (fun s => ∃ j : Nat, s = ([40] ++ Lib.itoa k ++ prK (ks.take j), (j : Int), ()) ∧ j ≤ ks.length) (fun s => ks.length - s.2.1.toNat) ?_ fu _ ⟨0, by simp [prK], Nat.zero_le _⟩ (by simp only; have := szK_len ks; omega)
    rintro rec s ⟨j, rfl, hj⟩ hrec
    have k2 : ilt (j : Int) (lenI ks) = decide (j < ks.length) := ilt_nat _ _
    have k3 : inB (j : Int) ks.length = decide (j < ks.length) := inB_nat _ _
    have hpt := prK_take ks (j + 1)
    simp only [k2, k3, Int.toNat_natCast]
    by_cases hlt : j < ks.length
    · rw [take_snoc ks j hlt, prK_app] at hpt
      simp only [List.length_append, List.length_cons] at hpt
      have hs := szK_mem (List.getElem_mem hlt)
      have hcj := hc ks[j] (wfK_mem w4 (List.getElem_mem hlt)) (by omega) (by omega)
      have k4 : okS (1 + (prT ks[j]).length) = true := okS_of (by omega)
      have k5 : okS (([40] ++ Lib.itoa k ++ prK (ks.take j)).length + ([32] ++ prT ks[j]).length) = true := okS_of (by simp only [List.length_append, List.length_cons, List.length_nil]; omega)
      simp only [hlt, decide_true, cond_true, getD_lt _ _ _ hlt]
      have he : Nd.mk ks[j].kind ks[j].tok ks[j].kids = ks[j] := nd_eta _
      simp only [Nd.kind, Nd.tok, Nd.kids] at he
      simp only [he, hcj, Option.bind_some, k4, k5, cond_true]
      rw [iadd_one j (by have := prK_len ks; omega)]
      exact hrec _ ⟨j + 1, by rw [take_snoc ks j hlt, prK_app]; simp, hlt⟩ (by simp only [Int.toNat_natCast]; omega)
    · have hje : j = ks.length := by omega
      have k5 : okS (([40] ++ Lib.itoa k ++ prK (ks.take j)).length + 1) = true := okS_of (by
        have := prK_take ks j
        simp only [List.length_append, List.length_cons, List.length_nil]; omega)
      simp only [hlt, decide_false, cond_false, k5, cond_true]
      rw [hje, List.take_length]
      simp
open Classical in
noncomputable def c12n (n : Nat) (x : Nd × Unit) : Option (List UInt8 × Unit) := if wfT x.1 ∧ szT x.1 < n ∧ (prT x.1).length ≤ 1000000 then some (prT x.1, ()) else none
theorem c12n_some {n : Nat} {x : Nd × Unit} {y : List UInt8 × Unit} (h : c12n n x = some y) : (wfT x.1 ∧ szT x.1 < n ∧ (prT x.1).length ≤ 1000000) ∧ y = (prT x.1, ()) := by
  unfold c12n at h
  split at h
  · rename_i h1; injection h with h; exact ⟨h1, h.symm⟩
  · cases h
theorem ok12n : ∀ n, n ≤ 1000000 → ConOk CC Tryd.prog 12 ⟨as12, rs12, c12n n⟩
  | 0, _ => fun x y h => by
    have := (c12n_some h).1.2.1
    omega
  | n + 1, hn => (con12 1000001 _ (ok12n n (by omega)) c27 ok27).sub fun x y h => by
    obtain ⟨h1, rfl⟩ := c12n_some h
    exact sh12_spec n _ _ _ _ (fun x q1 q2 q3 => by unfold c12n; exact if_pos ⟨q1, q2, q3⟩) h1.1 h1.2.1 h1.2.2 (by have := h1.2.1; omega)
noncomputable def c12 : Nd × Unit → Option (List UInt8 × Unit) := c12n 1000000
theorem ok12 : ConOk CC Tryd.prog 12 ⟨as12, rs12, c12⟩ := ok12n 1000000 (Nat.le_refl _)
theorem c12_of {t : Nd} (h1 : wfT t) (h2 : szT t < 1000000) (h3 : (prT t).length ≤ 1000000) : c12 (t, ()) = some (prT t, ()) := by
  unfold c12 c12n; exact if_pos ⟨h1, h2, h3⟩

/- Are two one? -/
mutual
def eqT : Nd → Nd → Bool
  | .mk k a ks => fun y => k == y.kind && (a == y.tok && eqK ks y.kids)
def eqK : List Nd → List Nd → Bool
  | [] => fun ys => ys.isEmpty
  | x :: r => fun ys => match ys with
    | [] => false
    | y :: ys => eqT x y && eqK r ys
end
mutual
theorem eqT_iff : ∀ x y : Nd, eqT x y = true ↔ x = y
  | .mk k a ks, .mk k' a' ks' => by
    simp only [eqT, Nd.kind, Nd.tok, Nd.kids, Bool.and_eq_true, beq_iff_eq, eqK_iff ks ks', Nd.mk.injEq]
theorem eqK_iff : ∀ xs ys : List Nd, eqK xs ys = true ↔ xs = ys
  | [], ys => by cases ys <;> simp [eqK]
  | b :: r, [] => by simp [eqK]
  | b :: r, y :: ys => by simp only [eqK, Bool.and_eq_true, eqT_iff b y, eqK_iff r ys, List.cons.injEq]
end
theorem eqK_len {a b : List Nd} (h : a.length ≠ b.length) : eqK a b = false := by
  cases he : eqK a b with
  | false => rfl
  | true => exact absurd (by rw [(eqK_iff a b).1 he]) h
theorem eqK_app : ∀ (a b c d : List Nd), a.length = b.length → eqK (a ++ c) (b ++ d) = (eqK a b && eqK c d)
  | [], [], c, d, _ => by simp [eqK]
  | [], _ :: _, _, _, h => by simp at h
  | _ :: _, [], _, _, h => by simp at h
  | x :: a, y :: b, c, d, h => by
    simp only [List.cons_append, eqK]
    rw [eqK_app a b c d (by simpa using h), Bool.and_assoc]

theorem sh20_spec (n fu : Nat) (c : Nd × Nd × Unit → Option (Bool × Unit)) (nf : Nat → Bool) (x y : Nd) (hc : ∀ a b, szT a < n → c (a, b, ()) = some (eqT a b, ())) (hn : szT x < n + 1) (hfu : szT x < fu) (hb : szT x ≤ 1000000) :
    sh20 fu c nf x y = some (eqT x y, ()) := by
  obtain ⟨k, a, ks⟩ := x
  obtain ⟨k', a', ks'⟩ := y
  unfold sh20
  simp only [Nd.kind, Nd.tok, Nd.kids, eqT, ine_dec]
  rw [szT_kids] at hn hfu hb
  by_cases h1 : k = k'
  · by_cases h2 : a = a'
    · have e1 : (k == k') = true := by simp [h1]
      have e2 : (a == a') = true := by simp [h2]
      by_cases h3 : ks.length = ks'.length
      · have h3' : lenI ks = lenI ks' := by unfold lenI; omega
        simp only [h1, h2, h3', decide_true, Bool.not_true, cond_false, beq_self_eq_true, Bool.true_and]
        refine iter_ind (fun s => ∃ j : Nat, s = ((k', a', ks', ()), (j : Int), ()) ∧ j ≤ ks.length ∧ eqK (ks.take j) (ks'.take j) = true) (fun s => ks.length - s.2.1.toNat) ?_ fu _ ⟨0, rfl, Nat.zero_le _, rfl⟩ (by simp only; have := szK_len ks; omega)
        rintro rec s ⟨j, rfl, hj, heq⟩ hrec
        have k2 : ilt (j : Int) (lenI ks') = decide (j < ks'.length) := ilt_nat _ _
        have k3 : inB (j : Int) ks.length = decide (j < ks.length) := inB_nat _ _
        have k4 : inB (j : Int) ks'.length = decide (j < ks'.length) := inB_nat _ _
        simp only [h3'] 
        simp only [k2, k3, k4, Int.toNat_natCast]
        by_cases hlt : j < ks.length
        · have hlt' : j < ks'.length := by omega
          have hs := szK_mem (List.getElem_mem hlt)
          have hcj := hc ks[j] ks'[j] (by omega)
          simp only [hlt, hlt', decide_true, cond_true, getD_lt _ _ _ hlt, getD_lt _ _ _ hlt']
          have he : Nd.mk ks[j].kind ks[j].tok ks[j].kids = ks[j] := nd_eta _
          have he' : Nd.mk ks'[j].kind ks'[j].tok ks'[j].kids = ks'[j] := nd_eta _
          simp only [Nd.kind, Nd.tok, Nd.kids] at he he'
          simp only [he, he', hcj, Option.bind_some]
          have hsplit : eqK ks ks' = (eqT ks[j] ks'[j] && eqK (ks.drop (j + 1)) (ks'.drop (j + 1))) := by
            have q1 : ks = ks.take j ++ ks[j] :: ks.drop (j + 1) := by rw [← List.drop_eq_getElem_cons hlt, List.take_append_drop]
            have q2 : ks' = ks'.take j ++ ks'[j] :: ks'.drop (j + 1) := by rw [← List.drop_eq_getElem_cons hlt', List.take_append_drop]
            have q3 := eqK_app (ks.take j) (ks'.take j) (ks[j] :: ks.drop (j + 1)) (ks'[j] :: ks'.drop (j + 1)) (by simp only [List.length_take]; omega)
            rw [← q1, ← q2, heq, Bool.true_and] at q3
            rw [q3]; rfl
          cases hE : eqT ks[j] ks'[j] with
          | false =>
            rw [hE, Bool.false_and] at hsplit
            simp only [Bool.not_false, cond_true, hsplit]
          | true =>
            simp only [Bool.not_true, cond_false]
            rw [iadd_one j (by have := szK_len ks; omega)]
            refine hrec _ ⟨j + 1, rfl, hlt, ?_⟩ (by simp only [Int.toNat_natCast]; omega)
            rw [take_snoc ks j hlt, take_snoc ks' j hlt', eqK_app _ _ _ _ (by simp only [List.length_take]; omega), heq]
            simp [eqK, hE]
        · have hlt' : ¬ j < ks'.length := by omega
          simp only [hlt', decide_false, cond_false]
          rw [List.take_of_length_le (by omega), List.take_of_length_le (by omega)] at heq
          rw [heq]
      · have h3' : ¬ lenI ks = lenI ks' := by unfold lenI; omega
        simp only [h1, h2, h3', decide_true, decide_false, Bool.not_true, Bool.not_false, cond_false, cond_true, eqK_len h3, Bool.and_false]
    · have e2 : (a == a') = false := beq_eq_false_iff_ne.2 h2
      simp only [h1, h2, decide_true, decide_false, Bool.not_true, Bool.not_false, cond_false, cond_true, e2, Bool.false_and, Bool.and_false]
  · have e1 : (k == k') = false := beq_eq_false_iff_ne.2 h1
    simp only [h1, decide_false, Bool.not_false, cond_true, e1, Bool.false_and]
def c20n (n : Nat) (x : Nd × Nd × Unit) : Option (Bool × Unit) := if szT x.1 < n then some (eqT x.1 x.2.1, ()) else none
theorem ok20n : ∀ n, n ≤ 1000000 → ConOk CC Tryd.prog 20 ⟨as20, rs20, c20n n⟩
  | 0, _ => fun x y h => by simp [c20n] at h
  | n + 1, hn => (con20 1000001 _ (ok20n n (by omega))).sub fun x y h => by
    unfold c20n at h
    split at h
    · rename_i h1
      injection h with h
      subst h
      exact sh20_spec n _ _ _ _ _ (fun a b hi => if_pos hi) h1 (by omega) (by omega)
    · cases h
def c20 : Nd × Nd × Unit → Option (Bool × Unit) := c20n 1000000
theorem ok20 : ConOk CC Tryd.prog 20 ⟨as20, rs20, c20⟩ := ok20n 1000000 (Nat.le_refl _)

/- A leaf; a node. -/
def c24 (x : Int × Unit) : Option (Nd × Unit) := some (.mk 0 x.1 [], ())
theorem ok24 : ConOk CC Tryd.prog 24 ⟨as24, rs24, c24⟩ := (con24 0).sub fun x y h => h
def c21 (x : Int × List Nd × Unit) : Option (Nd × Unit) := some (.mk x.1 0 x.2.1, ())
theorem ok21 : ConOk CC Tryd.prog 21 ⟨as21, rs21, c21⟩ := (con21 0).sub fun x y h => h
end Go.Proofs.YtegibhjgldpndaaDoor
