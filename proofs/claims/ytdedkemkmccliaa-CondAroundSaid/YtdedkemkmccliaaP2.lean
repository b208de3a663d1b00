/-
  What Same, Flat and Around work out.
-/
import Derived.Test.YtdedkemkmccliaaP1
import Derived.Test.YtdedkemkmccliaaS2
set_option linter.unusedVariables false
set_option linter.unusedSimpArgs false
namespace Go.Proofs.Ytdedkemkmccliaa
open Go.Al Go.Den

theorem flatIts_mem : ∀ {its : List It} {x : It}, x ∈ its → (flatIt x).length ≤ (flatIts its).length
  | [], _, h => by simp at h
  | y :: r, x, h => by
    rcases List.mem_cons.1 h with rfl | h
    · simp [flatIts]
    · have := flatIts_mem h; simp [flatIts]; omega
theorem flatBrs_mem : ∀ {bs : List Br} {b : Br}, b ∈ bs → (flatBr b).length ≤ (flatBrs bs).length
  | [], _, h => by simp at h
  | y :: r, x, h => by
    rcases List.mem_cons.1 h with rfl | h
    · simp [flatBrs]
    · have := flatBrs_mem h; simp [flatBrs]; omega
theorem flatIt_brs (x : It) : (flatBrs x.brs).length ≤ (flatIt x).length := by
  obtain ⟨l, e, bs⟩ := x
  cases bs with
  | nil => simp [It.brs, flatBrs]
  | cons b r => simp [It.brs, flatIt]
theorem brs_le (x : It) : x.brs.length ≤ (flatIt x).length := Nat.le_trans (flatBrs_ge x.brs) (flatIt_brs x)
theorem items_le {x : It} {b : Br} (h : b ∈ x.brs) : (flatIts b.items).length < (flatIt x).length := by
  have h1 := flatBrs_mem h
  have h2 := flatIt_brs x
  obtain ⟨l, is⟩ := b
  simp only [flatBr, List.length_cons, Br.items] at h1 ⊢
  omega
theorem flatIt_eq (x : It) : flatIt x = if x.brs.length = 0 then [x.line] else flatBrs x.brs ++ [x.fin] := by
  obtain ⟨l, e, bs⟩ := x
  cases bs <;> simp [flatIt, It.brs, It.line, It.fin]
theorem flatBr_eq (b : Br) : flatBr b = b.line :: flatIts b.items := by cases b; rfl

theorem sh18_spec (n fu : Nat) (c : List It × Unit → Option (List Int × Unit)) (nf : Nat → Bool) (its : List It) (hc : ∀ is, (flatIts is).length < n → c (is, ()) = some (flatIts is, ())) (hn : (flatIts its).length < n + 1) (hfu : (flatIts its).length < fu) (hb : (flatIts its).length ≤ 1000000) :
    sh18 fu c nf its = some (flatIts its, ()) := by
  have hlen := flatIts_ge its
  unfold sh18
  refine iter_ind (fun s => ∃ i : Nat, s = (flatIts (its.take i), (i : Int), ()) ∧ i ≤ its.length) (fun s => its.length - s.2.1.toNat) ?_ fu _ ⟨0, rfl, Nat.zero_le _⟩ (by simp; omega)
  rintro rec s ⟨i, rfl, hi⟩ hrec
  simp only [lenI, ilt_nat, inB_nat, Int.toNat_natCast]
  by_cases hlt : i < its.length
  · simp only [hlt, decide_true, cond_true, getD_lt _ _ _ hlt]
    have hle := flatIts_le its i
    have hm := flatIts_mem (List.getElem_mem hlt)
    have htake := flatIts_take its i hlt
    have hle2 := flatIts_le its (i + 1)
    rw [htake, List.length_append] at hle2
    have hbl0 := brs_le its[i]
    have hx := flatIt_eq its[i]
    have hbl := brs_le its[i]
    generalize hxe : its[i] = x at *
    by_cases h0 : x.brs.length = 0
    · rw [if_pos h0] at hx
      have e0 : ieq (x.brs.length : Int) 0 = true := by simp [ieq, h0]
      have hok : okN 8 ((flatIts (its.take i)).length + [x.line].length) = true := by rw [hx] at hle2; exact okN_spec' (by omega) (by unfold maxLen; omega)
      simp only [e0, cond_true, hok]
      rw [iadd_one i (by omega)]
      exact hrec _ ⟨i + 1, by rw [htake, hx], by omega⟩ (by simp; omega)
    · rw [if_neg h0] at hx
      have e0 : ieq (x.brs.length : Int) 0 = false := by unfold ieq; rw [beq_eq_false_iff_ne]; omega
      simp only [e0, cond_false]
      refine iter_ind (fun s => ∃ k : Nat, s = (flatIts (its.take i) ++ flatBrs (x.brs.take k), (x.line, x.fin, x.brs, ()), (k : Int), ()) ∧ k ≤ x.brs.length) (fun s => x.brs.length - s.2.2.1.toNat) ?_ fu _ ⟨0, by simp [flatBrs], Nat.zero_le _⟩ (by simp; omega)
      rintro rec2 s ⟨k, rfl, hk⟩ hrec2
      simp only [ilt_nat, inB_nat, Int.toNat_natCast]
      have hbk := flatBrs_le x.brs k
      rw [hx, List.length_append] at hle2
      simp only [List.length_cons, List.length_nil] at hle2
      by_cases hkl : k < x.brs.length
      · simp only [hkl, decide_true, cond_true, getD_lt _ _ _ hkl]
        have hi2 := items_le (List.getElem_mem hkl)
        have hbt := flatBrs_take x.brs k hkl
        have hbk2 := flatBrs_le x.brs (k + 1)
        rw [hbt, flatBr_eq, List.length_append, List.length_cons] at hbk2
        rw [hc _ (by omega)]
        simp only [Option.bind_some]
        have o1 : okN 8 ((flatIts (its.take i) ++ flatBrs (x.brs.take k)).length + [x.brs[k].line].length) = true := okN_spec' (by simp only [List.length_append, List.length_cons, List.length_nil]; omega) (by unfold maxLen; simp only [List.length_append, List.length_cons, List.length_nil]; omega)
        have o2 : okN 8 ((flatIts (its.take i) ++ flatBrs (x.brs.take k) ++ [x.brs[k].line]).length + (flatIts x.brs[k].items).length) = true := okN_spec' (by simp only [List.length_append, List.length_cons, List.length_nil]; omega) (by unfold maxLen; simp only [List.length_append, List.length_cons, List.length_nil]; omega)
        simp only [o1, o2, cond_true]
        rw [iadd_one k (by omega)]
        refine hrec2 _ ⟨k + 1, ?_, by omega⟩ (by simp; omega)
        rw [hbt, flatBr_eq]; simp
      · have hke : k = x.brs.length := by omega
        have o1 : okN 8 ((flatIts (its.take i) ++ flatBrs (x.brs.take k)).length + [x.fin].length) = true := okN_spec' (by simp only [List.length_append, List.length_cons, List.length_nil]; omega) (by unfold maxLen; simp only [List.length_append, List.length_cons, List.length_nil]; omega)
        simp only [hkl, decide_false, cond_false, o1, cond_true]
        rw [iadd_one i (by omega)]
        refine hrec _ ⟨i + 1, ?_, by omega⟩ (by simp; omega)
        rw [htake, hx, hke, List.take_length]; simp
  · have hia : i = its.length := by omega
    simp only [hlt, decide_false, cond_false]
    rw [hia, List.take_length]

def c18n (n : Nat) (x : List It × Unit) : Option (List Int × Unit) := if (flatIts x.1).length < n then some (flatIts x.1, ()) else none
theorem ok18n : ∀ n, n ≤ 1000000 → ConOk CC Try.prog 18 ⟨as18, rs18, c18n n⟩
  | 0, _ => fun x y h => by simp [c18n] at h
  | n + 1, hn => (con18 1000001 _ (ok18n n (by omega))).sub fun x y h => by
    unfold c18n at h
    split at h
    · rename_i h1
      injection h with h
      subst h
      exact sh18_spec n _ _ _ _ (fun is hi => if_pos hi) h1 (Nat.lt_of_lt_of_le h1 (by omega)) (Nat.le_trans (Nat.le_of_lt h1) (by omega))
    · cases h
def c18 (x : List It × Unit) : Option (List Int × Unit) := c18n 1000000 x
theorem ok18 : ConOk CC Try.prog 18 ⟨as18, rs18, c18⟩ := ok18n 1000000 (Nat.le_refl _)

/- Are two lists of items one? -/
mutual
def eqIt : It → It → Bool
  | .mk l e bs => fun y => l == y.line && (e == y.fin && eqBrs bs y.brs)
def eqBrs : List Br → List Br → Bool
  | [] => fun ys => ys.isEmpty
  | b :: r => fun ys => match ys with
    | [] => false
    | y :: ys => eqBr b y && eqBrs r ys
def eqBr : Br → Br → Bool
  | .mk l is => fun y => eqIts is y.items && l == y.line
def eqIts : List It → List It → Bool
  | [] => fun ys => ys.isEmpty
  | x :: r => fun ys => match ys with
    | [] => false
    | y :: ys => eqIt x y && eqIts r ys
end

mutual
theorem eqIt_iff : ∀ x y : It, eqIt x y = true ↔ x = y
  | .mk l e bs, .mk l' e' bs' => by
    simp only [eqIt, It.line, It.fin, It.brs, Bool.and_eq_true, beq_iff_eq, eqBrs_iff bs bs', It.mk.injEq]
theorem eqBrs_iff : ∀ xs ys : List Br, eqBrs xs ys = true ↔ xs = ys
  | [], ys => by cases ys <;> simp [eqBrs]
  | b :: r, [] => by simp [eqBrs]
  | b :: r, y :: ys => by simp only [eqBrs, Bool.and_eq_true, eqBr_iff b y, eqBrs_iff r ys, List.cons.injEq]
theorem eqBr_iff : ∀ x y : Br, eqBr x y = true ↔ x = y
  | .mk l is, .mk l' is' => by
    simp only [eqBr, Br.line, Br.items, Bool.and_eq_true, beq_iff_eq, eqIts_iff is is', Br.mk.injEq]
    exact And.comm
theorem eqIts_iff : ∀ xs ys : List It, eqIts xs ys = true ↔ xs = ys
  | [], ys => by cases ys <;> simp [eqIts]
  | b :: r, [] => by simp [eqIts]
  | b :: r, y :: ys => by simp only [eqIts, Bool.and_eq_true, eqIt_iff b y, eqIts_iff r ys, List.cons.injEq]
end

theorem eqIts_len : ∀ {a b : List It}, a.length ≠ b.length → eqIts a b = false := fun {a b} h => by
  cases he : eqIts a b with
  | false => rfl
  | true => exact absurd (by rw [(eqIts_iff a b).1 he]) h
theorem eqBrs_len : ∀ {a b : List Br}, a.length ≠ b.length → eqBrs a b = false := fun {a b} h => by
  cases he : eqBrs a b with
  | false => rfl
  | true => exact absurd (by rw [(eqBrs_iff a b).1 he]) h
theorem eqIts_cons (x y : It) (r s : List It) : eqIts (x :: r) (y :: s) = (eqIt x y && eqIts r s) := rfl
theorem eqBrs_cons (x y : Br) (r s : List Br) : eqBrs (x :: r) (y :: s) = (eqBr x y && eqBrs r s) := rfl
theorem eqIt_eq (x y : It) : eqIt x y = (x.line == y.line && (x.fin == y.fin && eqBrs x.brs y.brs)) := by cases x; rfl
theorem eqBr_eq (x y : Br) : eqBr x y = (eqIts x.items y.items && x.line == y.line) := by cases x; rfl

theorem sh13_spec (n fu : Nat) (c : List It × List It × Unit → Option (Bool × Unit)) (nf : Nat → Bool) (a b : List It) (hc : ∀ x y, (flatIts x).length < n → c (x, y, ()) = some (eqIts x y, ())) (hn : (flatIts a).length < n + 1) (hfu : (flatIts a).length < fu) (hb : (flatIts a).length ≤ 1000000) :
    sh13 fu c nf a b = some (eqIts a b, ()) := by
  have hlen := flatIts_ge a
  unfold sh13
  by_cases hl : a.length = b.length
  · have e0 : ine (lenI a) (lenI b) = false := by simp [ine, lenI, hl]
    rw [e0]
    simp only [cond_false]
    refine iter_ind (fun s => ∃ i : Nat, s = ((i : Int), ()) ∧ i ≤ a.length ∧ eqIts a b = eqIts (a.drop i) (b.drop i)) (fun s => a.length - s.1.toNat) ?_ fu _ ⟨0, rfl, Nat.zero_le _, by simp⟩ (by simp; omega)
    rintro rec s ⟨i, rfl, hi, heq⟩ hrec
    simp only [lenI, ilt_nat, inB_nat, Int.toNat_natCast]
    by_cases hlt : i < a.length
    · have hltb : i < b.length := by omega
      simp only [hlt, hltb, decide_true, cond_true, getD_lt _ _ _ hlt, getD_lt _ _ _ hltb]
      have hm := flatIts_mem (List.getElem_mem hlt)
      have hbl := brs_le a[i]
      rw [List.drop_eq_getElem_cons hlt, List.drop_eq_getElem_cons hltb, eqIts_cons, eqIt_eq] at heq
      generalize hxe : a[i] = x at *
      generalize hye : b[i] = y at *
      by_cases h1 : x.line = y.line
      · by_cases h2 : x.fin = y.fin
        · by_cases h3 : x.brs.length = y.brs.length
          · have k1 : ine x.line y.line = false := by simp [ine, h1]
            have k2 : ine x.fin y.fin = false := by simp [ine, h2]
            have k3 : ine (x.brs.length : Int) (y.brs.length : Int) = false := by simp [ine, h3]
            simp only [k1, k2, k3, cond_false]
            refine iter_ind (fun s => ∃ k : Nat, s = ((k : Int), ()) ∧ k ≤ x.brs.length ∧ eqIts a b = (eqBrs (x.brs.drop k) (y.brs.drop k) && eqIts (a.drop (i + 1)) (b.drop (i + 1)))) (fun s => x.brs.length - s.1.toNat) ?_ fu _ ⟨0, rfl, Nat.zero_le _, by rw [heq]; simp [h1, h2]⟩ (by simp; omega)
            rintro rec2 s ⟨k, rfl, hk, heq2⟩ hrec2
            simp only [ilt_nat, inB_nat, Int.toNat_natCast]
            by_cases hkl : k < x.brs.length
            · have hkl2 : k < y.brs.length := by omega
              simp only [hkl, hkl2, decide_true, cond_true, getD_lt _ _ _ hkl, getD_lt _ _ _ hkl2]
              have hi2 := items_le (List.getElem_mem hkl)
              rw [List.drop_eq_getElem_cons hkl, List.drop_eq_getElem_cons hkl2, eqBrs_cons, eqBr_eq] at heq2
              rw [hc _ _ (by omega)]
              simp only [Option.bind_some]
              by_cases h4 : eqIts x.brs[k].items y.brs[k].items = true
              · by_cases h5 : x.brs[k].line = y.brs[k].line
                · have k5 : ine x.brs[k].line y.brs[k].line = false := by simp [ine, h5]
                  simp only [h4, k5, Bool.not_true, cond_false]
                  rw [iadd_one k (by omega)]
                  exact hrec2 _ ⟨k + 1, rfl, by omega, by rw [heq2]; simp [h4, h5]⟩ (by simp; omega)
                · have k5 : ine x.brs[k].line y.brs[k].line = true := by simp [ine, h5]
                  have : eqIts a b = false := by rw [heq2]; simp [h5]
                  simp only [h4, k5, Bool.not_true, cond_false, cond_true, this]
              · have h4 : eqIts x.brs[k].items y.brs[k].items = false := by simpa using h4
                have : eqIts a b = false := by rw [heq2]; simp [h4]
                simp only [h4, Bool.not_false, cond_true, this]
            · have hke : k = x.brs.length := by omega
              simp only [hkl, decide_false, cond_false]
              rw [iadd_one i (by omega)]
              refine hrec _ ⟨i + 1, rfl, by omega, ?_⟩ (by simp; omega)
              rw [heq2, hke, List.drop_length, h3, List.drop_length]
              simp [eqBrs]
          · have k1 : ine x.line y.line = false := by simp [ine, h1]
            have k2 : ine x.fin y.fin = false := by simp [ine, h2]
            have k3 : ine (x.brs.length : Int) (y.brs.length : Int) = true := by simp [ine]; omega
            have : eqIts a b = false := by rw [heq, eqBrs_len h3]; simp
            simp only [k1, k2, k3, cond_false, cond_true, this]
        · have k1 : ine x.line y.line = false := by simp [ine, h1]
          have k2 : ine x.fin y.fin = true := by simp [ine, h2]
          have : eqIts a b = false := by rw [heq]; simp [h2]
          simp only [k1, k2, cond_false, cond_true, this]
      · have k1 : ine x.line y.line = true := by simp [ine, h1]
        have : eqIts a b = false := by rw [heq]; simp [h1]
        simp only [k1, cond_true, this]
    · have hia : i = a.length := by omega
      have : eqIts a b = true := by rw [heq, hia, List.drop_length, hl, List.drop_length]; rfl
      simp only [hlt, decide_false, cond_false, this]
  · have e0 : ine (lenI a) (lenI b) = true := by simp [ine, lenI]; omega
    simp only [e0, cond_true, eqIts_len hl]

def c13n (n : Nat) (x : List It × List It × Unit) : Option (Bool × Unit) := if (flatIts x.1).length < n then some (eqIts x.1 x.2.1, ()) else none
theorem ok13n : ∀ n, n ≤ 1000000 → ConOk CC Try.prog 13 ⟨as13, rs13, c13n n⟩
  | 0, _ => fun x y h => by simp [c13n] at h
  | n + 1, hn => (con13 1000001 _ (ok13n n (by omega))).sub fun x y h => by
    unfold c13n at h
    split at h
    · rename_i h1
      injection h with h
      subst h
      exact sh13_spec n _ _ _ _ _ (fun x y hi => if_pos hi) h1 (Nat.lt_of_lt_of_le h1 (by omega)) (Nat.le_trans (Nat.le_of_lt h1) (by omega))
    · cases h
def c13 (x : List It × List It × Unit) : Option (Bool × Unit) := c13n 1000000 x
theorem ok13 : ConOk CC Try.prog 13 ⟨as13, rs13, c13⟩ := ok13n 1000000 (Nat.le_refl _)

end Go.Proofs.Ytdedkemkmccliaa
