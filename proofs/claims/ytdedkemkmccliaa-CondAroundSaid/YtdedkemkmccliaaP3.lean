/-
  What Around works out; the examples; what is wrong first stays so.
-/
import Derived.Test.YtdedkemkmccliaaP2
import Derived.Test.YtdedkemkmccliaaS3
set_option linter.unusedVariables false
set_option linter.unusedSimpArgs false
namespace Go.Proofs.Ytdedkemkmccliaa
open Go.Al Go.Den

def orE (l m : List Int) : List Int := match l with
  | [] => m
  | x :: r => x :: r
def leafs (ln : Int) (is : List It) : Bool := is.any fun y => y.brs.isEmpty && y.line == ln

mutual
def arIt (ln : Int) : It → List Int
  | .mk _ e bs => arBrs ln e bs
def arBrs (ln e : Int) : List Br → List Int
  | [] => []
  | b :: r => if (b.line == ln || (r.isEmpty && e == ln)) = true then [b.line] else
      match arBr ln b with
      | [] => if leafs ln b.items = true then [b.line] else arBrs ln e r
      | y :: ys => b.line :: y :: ys
def arBr (ln : Int) : Br → List Int
  | .mk _ is => arIts ln is
def arIts (ln : Int) : List It → List Int
  | [] => []
  | x :: r => orE (arIt ln x) (arIts ln r)
end

theorem arBr_eq (ln : Int) (b : Br) : arBr ln b = arIts ln b.items := by cases b; rfl
theorem arIt_eq (ln : Int) (x : It) : arIt ln x = arBrs ln x.fin x.brs := by cases x; rfl
theorem arBrs_cons (ln e : Int) (b : Br) (r : List Br) : arBrs ln e (b :: r) = if (b.line == ln || (r.isEmpty && e == ln)) = true then [b.line] else
      match arIts ln b.items with
      | [] => if leafs ln b.items = true then [b.line] else arBrs ln e r
      | y :: ys => b.line :: y :: ys := by
  rw [← arBr_eq]; rfl

mutual
theorem arIt_len (ln : Int) : ∀ x : It, (arIt ln x).length ≤ (flatIt x).length
  | .mk l e bs => by
    simp only [arIt]
    refine Nat.le_trans (arBrs_len ln e bs) ?_
    have := flatIt_brs (.mk l e bs)
    simpa [It.brs] using this
theorem arBrs_len (ln e : Int) : ∀ bs : List Br, (arBrs ln e bs).length ≤ (flatBrs bs).length
  | [] => by simp [arBrs]
  | b :: r => by
    have h1 := arBr_len ln b
    have h2 := arBrs_len ln e r
    simp only [arBrs, flatBrs, List.length_append]
    have h3 : 1 ≤ (flatBr b).length := by rw [flatBr_eq]; simp
    split
    · simp; omega
    · split
      · split
        · simp; omega
        · omega
      · rename_i h
        rw [h] at h1
        simp at h1 ⊢; omega
theorem arBr_len (ln : Int) : ∀ b : Br, (arBr ln b).length + 1 ≤ (flatBr b).length
  | .mk l is => by
    have := arIts_len ln is
    simp only [arBr, flatBr, List.length_cons]; omega
theorem arIts_len (ln : Int) : ∀ is : List It, (arIts ln is).length ≤ (flatIts is).length
  | [] => by simp [arIts]
  | x :: r => by
    have h1 := arIt_len ln x
    have h2 := arIts_len ln r
    simp only [arIts, flatIts, List.length_append]
    unfold orE
    split
    · omega
    · rename_i h; rw [h] at h1; omega
end

theorem sh14_spec (n fu : Nat) (c : List It × Int × Unit → Option (List Int × Unit)) (nf : Nat → Bool) (its : List It) (ln : Int) (hc : ∀ is, (flatIts is).length < n → c (is, ln, ()) = some (arIts ln is, ())) (hn : (flatIts its).length < n + 1) (hfu : (flatIts its).length < fu) (hb : (flatIts its).length ≤ 1000000) :
    sh14 fu c nf its ln = some (arIts ln its, ()) := by
  have hlen := flatIts_ge its
  unfold sh14
  refine iter_ind (fun s => ∃ i : Nat, s = ((i : Int), ()) ∧ i ≤ its.length ∧ arIts ln its = arIts ln (its.drop i)) (fun s => its.length - s.1.toNat) ?_ fu _ ⟨0, rfl, Nat.zero_le _, by simp⟩ (by simp; omega)
  rintro rec s ⟨i, rfl, hi, heq⟩ hrec
  simp only [lenI, ilt_nat, inB_nat, Int.toNat_natCast]
  by_cases hlt : i < its.length
  · simp only [hlt, decide_true, cond_true, getD_lt _ _ _ hlt]
    have hm := flatIts_mem (List.getElem_mem hlt)
    have hbl := brs_le its[i]
    rw [List.drop_eq_getElem_cons hlt] at heq
    simp only [arIts] at heq
    rw [arIt_eq] at heq
    generalize hxe : its[i] = x at *
    generalize hrest : arIts ln (its.drop (i + 1)) = rest at *
    generalize hR : arIts ln its = R at *
    refine iter_ind (fun s => ∃ k : Nat, s = ((x.line, x.fin, x.brs, ()), (k : Int), ()) ∧ k ≤ x.brs.length ∧ R = orE (arBrs ln x.fin (x.brs.drop k)) rest) (fun s => x.brs.length - s.2.1.toNat) ?_ fu _ ⟨0, rfl, Nat.zero_le _, by simpa using heq⟩ (by simp; omega)
    rintro rec2 s ⟨k, rfl, hk, heq2⟩ hrec2
    simp only [ilt_nat, inB_nat, Int.toNat_natCast]
    by_cases hkl : k < x.brs.length
    · simp only [hkl, decide_true, cond_true, getD_lt _ _ _ hkl]
      have hi2 := items_le (List.getElem_mem hkl)
      rw [List.drop_eq_getElem_cons hkl, arBrs_cons] at heq2
      have hil := flatIts_ge x.brs[k].items
      have hal := arIts_len ln x.brs[k].items
      generalize hbe : x.brs[k] = b at *
      by_cases h1 : b.line = ln
      · have e1 : ieq b.line ln = true := by simp [ieq, h1]
        have e2 : (b.line == ln || ((x.brs.drop (k + 1)).isEmpty && x.fin == ln)) = true := by simp [h1]
        rw [if_pos e2] at heq2
        simp only [e1, cond_true, heq2, orE]
      · have e1 : ieq b.line ln = false := by simp [ieq, h1]
        have e3 : isub .i64 (x.brs.length : Int) 1 = ((x.brs.length - 1 : Nat) : Int) := by unfold isub; rw [wrap64 _ (by omega) (by omega)]; omega
        have e4 : ieq (k : Int) ((x.brs.length - 1 : Nat) : Int) = decide (k + 1 = x.brs.length) := by
          unfold ieq
          rw [Bool.eq_iff_iff]
          simp only [beq_iff_eq, decide_eq_true_eq]
          omega
        have e5 : (x.brs.drop (k + 1)).isEmpty = decide (k + 1 = x.brs.length) := by
          rw [Bool.eq_iff_iff]
          simp only [List.isEmpty_iff, List.drop_eq_nil_iff, decide_eq_true_eq]
          omega
        rw [e5] at heq2
        simp only [e1, e3, e4, cond_false]
        have key : ∀ G : Option (List Int × Unit), (decide (k + 1 = x.brs.length) && x.fin == ln) = false → (R = orE (match arIts ln b.items with
            | [] => if leafs ln b.items = true then [b.line] else arBrs ln x.fin (x.brs.drop (k + 1))
            | y :: ys => b.line :: y :: ys) rest → G = some (R, ())) → G = some (R, ()) := fun G hq hG => by
          have e6 : ¬ ((b.line == ln || (decide (k + 1 = x.brs.length) && x.fin == ln)) = true) := by rw [hq]; simp [h1]
          rw [if_neg e6] at heq2
          exact hG heq2
        by_cases h2 : k + 1 = x.brs.length
        · simp only [h2, decide_true, cond_true]
          by_cases h3 : x.fin = ln
          · have e7 : ieq x.fin ln = true := by simp [ieq, h3]
            have e6 : (b.line == ln || (decide (k + 1 = x.brs.length) && x.fin == ln)) = true := by simp [h2, h3]
            rw [if_pos e6] at heq2
            simp only [e7, cond_true, heq2, orE]
          · have e7 : ieq x.fin ln = false := by simp [ieq, h3]
            simp only [e7, cond_false]
            refine key _ (by simp [h3]) fun hR2 => ?_
            rw [hc _ (by omega)]
            simp only [Option.bind_some, nilT]
            cases har : arIts ln b.items with
            | cons y ys =>
              rw [har] at hR2 hal
              have ok1 : okN 8 ([b.line].length + (y :: ys).length) = true := okN_spec' (by simp only [List.length_cons, List.length_nil] at hal ⊢; omega) (by unfold maxLen; simp only [List.length_cons, List.length_nil] at hal ⊢; omega)
              simp only [List.isEmpty_cons, Bool.not_false, cond_true, ok1]
              rw [hR2]; rfl
            | nil =>
              rw [har] at hR2
              simp only [List.isEmpty_nil, Bool.not_true, cond_false]
              refine iter_ind (fun s => ∃ m : Nat, s = ((x.line, x.fin, x.brs, ()), (b.line, b.items, ()), (m : Int), ()) ∧ m ≤ b.items.length ∧ R = orE (if leafs ln (b.items.drop m) = true then [b.line] else arBrs ln x.fin (x.brs.drop (k + 1))) rest) (fun s => b.items.length - s.2.2.1.toNat) ?_ fu _ ⟨0, rfl, Nat.zero_le _, by simpa using hR2⟩ (by simp; omega)
              rintro rec3 s ⟨m, rfl, hm2, heq3⟩ hrec3
              simp only [ilt_nat, inB_nat, Int.toNat_natCast]
              by_cases hml : m < b.items.length
              · simp only [hml, decide_true, cond_true, getD_lt _ _ _ hml]
                rw [List.drop_eq_getElem_cons hml] at heq3
                generalize hye : b.items[m] = y at *
                have e8 : ieq (y.brs.length : Int) 0 = y.brs.isEmpty := by unfold ieq; cases y.brs <;> simp; omega
                rw [e8]
                have lc : leafs ln (y :: b.items.drop (m + 1)) = ((y.brs.isEmpty && y.line == ln) || leafs ln (b.items.drop (m + 1))) := by simp [leafs]
                rw [lc] at heq3
                rw [iadd_one m (by omega)]
                by_cases h4 : y.brs.isEmpty = true
                · simp only [h4, cond_true]
                  by_cases h5 : y.line = ln
                  · have e9 : ieq y.line ln = true := by simp [ieq, h5]
                    simp only [e9, cond_true]
                    rw [heq3]; simp [h4, h5, orE]
                  · have e9 : ieq y.line ln = false := by simp [ieq, h5]
                    simp only [e9, cond_false]
                    exact hrec3 _ ⟨m + 1, rfl, by omega, by rw [heq3]; simp [h5]⟩ (by simp; omega)
                · have h4 : y.brs.isEmpty = false := by simpa using h4
                  simp only [h4, cond_false]
                  exact hrec3 _ ⟨m + 1, rfl, by omega, by rw [heq3]; simp [h4]⟩ (by simp; omega)
              · have hme : m = b.items.length := by omega
                simp only [hml, decide_false, cond_false]
                rw [iadd_one k (by omega)]
                refine hrec2 _ ⟨k + 1, rfl, by omega, ?_⟩ (by simp; omega)
                rw [heq3, hme, List.drop_length]; rfl
        · simp only [h2, decide_false, cond_false]
          refine key _ (by simp [h2]) fun hR2 => ?_
          rw [hc _ (by omega)]
          simp only [Option.bind_some, nilT]
          cases har : arIts ln b.items with
          | cons y ys =>
            rw [har] at hR2 hal
            have ok1 : okN 8 ([b.line].length + (y :: ys).length) = true := okN_spec' (by simp only [List.length_cons, List.length_nil] at hal ⊢; omega) (by unfold maxLen; simp only [List.length_cons, List.length_nil] at hal ⊢; omega)
            simp only [List.isEmpty_cons, Bool.not_false, cond_true, ok1]
            rw [hR2]; rfl
          | nil =>
            rw [har] at hR2
            simp only [List.isEmpty_nil, Bool.not_true, cond_false]
            refine iter_ind (fun s => ∃ m : Nat, s = ((x.line, x.fin, x.brs, ()), (b.line, b.items, ()), (m : Int), ()) ∧ m ≤ b.items.length ∧ R = orE (if leafs ln (b.items.drop m) = true then [b.line] else arBrs ln x.fin (x.brs.drop (k + 1))) rest) (fun s => b.items.length - s.2.2.1.toNat) ?_ fu _ ⟨0, rfl, Nat.zero_le _, by simpa using hR2⟩ (by simp; omega)
            rintro rec3 s ⟨m, rfl, hm2, heq3⟩ hrec3
            simp only [ilt_nat, inB_nat, Int.toNat_natCast]
            by_cases hml : m < b.items.length
            · simp only [hml, decide_true, cond_true, getD_lt _ _ _ hml]
              rw [List.drop_eq_getElem_cons hml] at heq3
              generalize hye : b.items[m] = y at *
              have e8 : ieq (y.brs.length : Int) 0 = y.brs.isEmpty := by unfold ieq; cases y.brs <;> simp; omega
              rw [e8]
              have lc : leafs ln (y :: b.items.drop (m + 1)) = ((y.brs.isEmpty && y.line == ln) || leafs ln (b.items.drop (m + 1))) := by simp [leafs]
              rw [lc] at heq3
              rw [iadd_one m (by omega)]
              by_cases h4 : y.brs.isEmpty = true
              · simp only [h4, cond_true]
                by_cases h5 : y.line = ln
                · have e9 : ieq y.line ln = true := by simp [ieq, h5]
                  simp only [e9, cond_true]
                  rw [heq3]; simp [h4, h5, orE]
                · have e9 : ieq y.line ln = false := by simp [ieq, h5]
                  simp only [e9, cond_false]
                  exact hrec3 _ ⟨m + 1, rfl, by omega, by rw [heq3]; simp [h5]⟩ (by simp; omega)
              · have h4 : y.brs.isEmpty = false := by simpa using h4
                simp only [h4, cond_false]
                exact hrec3 _ ⟨m + 1, rfl, by omega, by rw [heq3]; simp [h4]⟩ (by simp; omega)
            · have hme : m = b.items.length := by omega
              simp only [hml, decide_false, cond_false]
              rw [iadd_one k (by omega)]
              refine hrec2 _ ⟨k + 1, rfl, by omega, ?_⟩ (by simp; omega)
              rw [heq3, hme, List.drop_length]; rfl
    · have hke : k = x.brs.length := by omega
      simp only [hkl, decide_false, cond_false]
      rw [iadd_one i (by omega)]
      refine hrec _ ⟨i + 1, rfl, by omega, ?_⟩ (by simp; omega)
      rw [heq2, hke, List.drop_length, hrest]; rfl
  · have hia : i = its.length := by omega
    simp only [hlt, decide_false, cond_false]
    rw [heq, hia, List.drop_length]; rfl

def c14n (n : Nat) (x : List It × Int × Unit) : Option (List Int × Unit) := if (flatIts x.1).length < n then some (arIts x.2.1 x.1, ()) else none
theorem ok14n : ∀ n, n ≤ 1000000 → ConOk CC Try.prog 14 ⟨as14, rs14, c14n n⟩
  | 0, _ => fun x y h => by simp [c14n] at h
  | n + 1, hn => (con14 1000001 _ (ok14n n (by omega))).sub fun x y h => by
    unfold c14n at h
    split at h
    · rename_i h1
      injection h with h
      subst h
      exact sh14_spec n _ _ _ _ _ (fun is hi => if_pos hi) h1 (Nat.lt_of_lt_of_le h1 (by omega)) (Nat.le_trans (Nat.le_of_lt h1) (by omega))
    · cases h
def c14 (x : List It × Int × Unit) : Option (List Int × Unit) := c14n 1000000 x
theorem ok14 : ConOk CC Try.prog 14 ⟨as14, rs14, c14⟩ := ok14n 1000000 (Nat.le_refl _)

def c9 (_ : Unit) : Option (Bool × Unit) := some (true, ())
theorem awake_true : sh9 0 c10 c11 c13 c14 c15 (fun _ => false) = some (true, ()) := by kernel_rfl
theorem ok9 : ConOk CC Try.prog 9 ⟨as9, rs9, c9⟩ := (con9 0 c10 ok10 c11 ok11 c13 ok13 c14 ok14 c15 ok15).sub fun x y h => by
  injection h with h
  subst h
  exact awake_true
end Go.Proofs.Ytdedkemkmccliaa
