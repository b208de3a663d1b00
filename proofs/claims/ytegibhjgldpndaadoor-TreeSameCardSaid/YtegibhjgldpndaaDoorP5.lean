/-
  What the document's walk over a tree's text works out: numbers.
-/
import Derived.Test.YtegibhjgldpndaaDoorP4
set_option linter.unusedVariables false
set_option linter.unusedSimpArgs false
namespace Go.Proofs.YtegibhjgldpndaaDoor
open Go.Al Go.Den

theorem cond_t {α : Type} {c : Bool} {x y : α} (h : c = true) : cond c x y = x := by rw [h]; rfl
theorem cond_f {α : Type} {c : Bool} {x y : α} (h : c = false) : cond c x y = y := by rw [h]; rfl

/-- Behind the digits. -/
def E33 (s : List UInt8) (i lo hi p n : Int) : Option (Int × Int × Unit) :=
  (cond (ieq p i)
          (some (0, ((Neg.neg 1), ())))
          (cond (ilt n lo)
            (some (0, ((Neg.neg 1), ())))
            (cond (ilt hi n)
              (some (0, ((Neg.neg 1), ())))
              (cond (ilt 1 (isub .i64 p i))
                (cond (inB i (List.length s))
                  (cond (ieq (byteAt s i) 48)
                    (some (0, ((Neg.neg 1), ())))
                    (cond (ilt p (lenI s))
                      (cond (inB p (List.length s))
                        (cond (ile 48 (byteAt s p))
                          (cond (inB p (List.length s))
                            (cond (ile (byteAt s p) 57)
                              (some (0, ((Neg.neg 1), ())))
                              (some (n, (p, ()))))
                            (none))
                          (some (n, (p, ()))))
                        (none))
                      (some (n, (p, ())))))
                  (none))
                (cond (ilt p (lenI s))
                  (cond (inB p (List.length s))
                    (cond (ile 48 (byteAt s p))
                      (cond (inB p (List.length s))
                        (cond (ile (byteAt s p) 57)
                          (some (0, ((Neg.neg 1), ())))
                          (some (n, (p, ()))))
                        (none))
                      (some (n, (p, ()))))
                    (none))
                  (some (n, (p, ()))))))))

/-- Does a digit stand there? -/
def digAt (s : List UInt8) (k : Nat) : Bool := (s.drop k).head?.any isD
theorem digAt_lt {s : List UInt8} {k : Nat} (h : k < s.length) : digAt s k = isD s[k] := by
  unfold digAt; rw [List.drop_eq_getElem_cons h]; rfl
theorem digAt_ge {s : List UInt8} {k : Nat} (h : s.length ≤ k) : digAt s k = false := by
  unfold digAt; rw [List.drop_of_length_le h]; rfl

theorem E33_eq (s : List UInt8) (i j v lo hi : Nat) (h : i + j ≤ s.length) (h2 : s.length ≤ 1000000) :
    E33 s i lo hi ((i + j : Nat) : Int) (v : Int) = cond (decide (j = 0)) (some (0, -1, ())) (cond (decide (v < lo)) (some (0, -1, ())) (cond (decide (hi < v)) (some (0, -1, ())) (cond (decide (1 < j) && ieq (byteAt s (i : Int)) 48) (some (0, -1, ())) (cond (digAt s (i + j)) (some (0, -1, ())) (some ((v : Int), ((i + j : Nat) : Int), ())))))) := by
  have e1 : ieq ((i + j : Nat) : Int) (i : Int) = decide (j = 0) := by rw [ieq_dec]; exact decide_eq_decide.2 ⟨fun h => by omega, fun h => by omega⟩
  have e2 : isub .i64 ((i + j : Nat) : Int) (i : Int) = ((j : Nat) : Int) := by rw [isub_of _ _ (by omega) (by omega)]; omega
  have e3 : ilt 1 ((j : Nat) : Int) = decide (1 < j) := ilt_nat 1 j
  -- what stands next
  have F : cond (ilt ((i + j : Nat) : Int) (lenI s)) (cond (inB ((i + j : Nat) : Int) s.length) (cond (ile 48 (byteAt s ((i + j : Nat) : Int))) (cond (inB ((i + j : Nat) : Int) s.length) (cond (ile (byteAt s ((i + j : Nat) : Int)) 57) (some ((0 : Int), ((-1 : Int), ()))) (some ((v : Int), (((i + j : Nat) : Int), ())))) none) (some ((v : Int), (((i + j : Nat) : Int), ())))) none) (some ((v : Int), (((i + j : Nat) : Int), ()))) =
      cond (digAt s (i + j)) (some (0, -1, ())) (some ((v : Int), ((i + j : Nat) : Int), ())) := by
    simp only [lenI_nat, ilt_nat, inB_nat]
    by_cases hl : i + j < s.length
    · simp only [hl, decide_true, cond_true, byteAt_lt s (i + j) hl, digAt_lt hl, isD_of]
      cases ile 48 ((s[i + j]).toNat : Int) <;> cases ile ((s[i + j]).toNat : Int) 57 <;> rfl
    · simp only [hl, decide_false, cond_false, digAt_ge (Nat.le_of_not_lt hl)]
  unfold E33
  simp only [e1, e2, e3, ilt_nat v lo, ilt_nat hi v]
  by_cases hj : j = 0
  · simp [hj]
  · have e4 : inB (i : Int) s.length = true := by rw [inB_nat]; simp; omega
    simp only [hj, decide_false, cond_false, e4, cond_true]
    cases decide (v < lo)
    · cases decide (hi < v)
      · simp only [cond_false]
        by_cases hj1 : 1 < j
        · simp only [hj1, decide_true, cond_true, Bool.true_and]
          cases ieq (byteAt s (i : Int)) 48
          · simp only [cond_false]; exact F
          · rfl
        · simp only [hj1, decide_false, cond_false, Bool.false_and]
          exact F
      · rfl
    · rfl

def num33 (s : List UInt8) (i lo hi : Nat) : Int × Int × Unit := if numOk (dgs (s.drop i)) lo hi = true then ((valF 0 (dgs (s.drop i)) : Int), ((i + (dgs (s.drop i)).length : Nat) : Int), ()) else (0, -1, ())

theorem drop_get {s : List UInt8} {i k : Nat} (h : k < (s.drop i).length) : (s.drop i)[k] = s[i + k]'(by rw [List.length_drop] at h; omega) := by simp

/-- Where the digits end. -/
theorem E33_end (s : List UInt8) (i j lo hi : Nat) (h : i + j ≤ s.length) (h2 : s.length ≤ 1000000) (hd : dgs (s.drop i) = (s.drop i).take j) (hn : digAt s (i + j) = false) :
    E33 s i lo hi ((i + j : Nat) : Int) (valF 0 ((s.drop i).take j) : Int) = some (num33 s i lo hi) := by
  rw [E33_eq s i j _ lo hi h h2, hn]
  unfold num33
  rw [hd]
  have hl : ((s.drop i).take j).length = j := by rw [List.length_take, List.length_drop]; omega
  generalize hv : valF 0 ((s.drop i).take j) = v
  unfold numOk
  rw [hv, hl]
  simp only [cond_false]
  by_cases hj : j = 0
  · have : ((s.drop i).take j) = [] := by rw [hj]; rfl
    rw [this]
    simp [hj]
  · have hlt : i < s.length := by omega
    obtain ⟨m, rfl⟩ : ∃ m, j = m + 1 := ⟨j - 1, by omega⟩
    have hh : ((s.drop i).take (m + 1)) = s[i] :: (s.drop (i + 1)).take m := by rw [List.drop_eq_getElem_cons hlt, List.take_succ_cons]
    rw [hh]
    simp only [List.isEmpty_cons, Bool.not_false, Bool.true_and, List.head?_cons]
    have e1 : ieq (byteAt s (i : Int)) 48 = (some s[i] == some 48) := by
      rw [byteAt_lt s i hlt, ieq_dec, Bool.eq_iff_iff, decide_eq_true_eq, beq_iff_eq, Option.some.injEq]
      constructor
      · intro e; exact UInt8.toNat_inj.1 (by have : (s[i]).toNat = 48 := by omega
                                             rw [this]; rfl)
      · intro e; rw [e]; decide
    rw [e1]
    have e2 : ((m + 1 == 1) : Bool) = !decide (1 < m + 1) := by
      cases m with
      | zero => rfl
      | succ k =>
        have q1 : decide (1 < k + 1 + 1) = true := decide_eq_true (by omega)
        have q2 : (k + 1 + 1 == 1) = false := beq_eq_false_iff_ne.2 (by omega)
        rw [q1, q2]; rfl
    rw [e2]
    have e3 : decide (lo ≤ v) = !decide (v < lo) := by by_cases h : v < lo <;> simp [h] <;> omega
    have e4 : decide (v ≤ hi) = !decide (hi < v) := by by_cases h : hi < v <;> simp [h] <;> omega
    rw [e3, e4]
    have e5 : decide (m + 1 = 0) = false := by simp
    rw [e5]
    cases decide (v < lo) <;> cases decide (hi < v) <;> cases decide (1 < m + 1) <;> cases (some s[i] == some (48 : UInt8)) <;> rfl

/-- Six digits are too many. -/
theorem E33_many (s : List UInt8) (i lo hi : Nat) (h : i + 5 ≤ s.length) (h2 : s.length ≤ 1000000) (hhi : hi ≤ 9999) (hd : ∀ k, k < 5 → digAt s (i + k) = true) (hn : digAt s (i + 5) = true) :
    E33 s i lo hi ((i + 5 : Nat) : Int) (valF 0 ((s.drop i).take 5) : Int) = some (num33 s i lo hi) := by
  rw [E33_eq s i 5 _ lo hi h h2, hn]
  have hbad : num33 s i lo hi = (0, -1, ()) := by
    unfold num33
    refine if_neg ?_
    intro hk
    -- there are six at least
    have hl6 : 6 ≤ (dgs (s.drop i)).length := by
      have hi6 : i + 6 ≤ s.length := by
        rcases Nat.lt_or_ge (i + 5) s.length with h | h
        · omega
        · rw [digAt_ge h] at hn; cases hn
      refine Classical.byContradiction fun hc => ?_
      have hb := dgs_behind (s.drop i)
      have hlen : (dgs (s.drop i)).length < 6 := by omega
      generalize (dgs (s.drop i)).length = q at *
      have hq : digAt s (i + q) = true := by
        rcases Nat.lt_or_ge q 5 with h | h
        · exact hd q h
        · have : q = 5 := by omega
          rw [this]; exact hn
      rw [digAt_lt (by omega)] at hq
      rw [List.drop_drop, List.drop_eq_getElem_cons (by omega)] at hb
      simp only [List.head?_cons, Option.all_some, hq] at hb
      cases hb
    have hv := numOk_val hk
    have hne : (dgs (s.drop i)) ≠ [] := by intro e; rw [e] at hl6; simp at hl6
    cases hdd : dgs (s.drop i) with
    | nil => exact hne hdd
    | cons c r =>
      rw [hdd] at hk hl6 hv
      have hc : c ≠ 48 := by
        unfold numOk at hk
        simp only [Bool.and_eq_true, Bool.or_eq_true, Bool.not_eq_true', List.head?_cons] at hk
        rcases hk.1.2 with q | q
        · simp only [List.length_cons, beq_iff_eq] at q hl6; omega
        · intro e; rw [e] at q; simp at q
      have hD := isD_iff.1 (allD_dgs (s.drop i) c (by rw [hdd]; simp))
      have hc2 : c.toNat ≠ 48 := fun e => hc (UInt8.toNat_inj.1 (by rw [e]; rfl))
      have hp := valF_pow r (0 * 10 + (c.toNat - 48))
      rw [valF_cons] at hv
      have h10 : 10 ^ 5 ≤ 10 ^ r.length := Nat.pow_le_pow_right (by omega) (by simp only [List.length_cons] at hl6; omega)
      have h11 : 1 * 10 ^ r.length ≤ (0 * 10 + (c.toNat - 48)) * 10 ^ r.length := Nat.mul_le_mul_right _ (by omega)
      have : (10 : Nat) ^ 5 = 100000 := by decide
      omega
  rw [hbad]
  cases decide (valF 0 ((s.drop i).take 5) < lo) <;> cases decide (hi < valF 0 ((s.drop i).take 5)) <;> cases ieq (byteAt s (i : Int)) 48 <;> rfl

set_option maxHeartbeats 1000000 in
theorem sh33_spec (fu : Nat) (nf : Nat → Bool) (s : List UInt8) (i lo hi : Nat) (hi0 : i ≤ s.length) (h : s.length < fu) (h2 : s.length ≤ 1000000) (hhi : hi ≤ 9999) : sh33 fu nf s i lo hi = some (num33 s i lo hi) := by
  unfold sh33
  refine iter_ind (fun t => ∃ j : Nat, t = (((i + j : Nat) : Int), (valF 0 ((s.drop i).take j) : Int), ()) ∧ j ≤ 5 ∧ i + j ≤ s.length ∧ ∀ k, k < j → digAt s (i + k) = true) (fun t => s.length - t.1.toNat) ?_ fu _ ⟨0, by simp [valF_nil], by omega, by omega, fun k hk => by omega⟩ (by simp only; omega)
  rintro rec t ⟨j, rfl, hj5, hj, hd⟩ hrec
  have k1 : ilt ((i + j : Nat) : Int) (lenI s) = decide (i + j < s.length) := ilt_nat _ _
  have k2 : inB ((i + j : Nat) : Int) s.length = decide (i + j < s.length) := inB_nat _ _
  have hdg : digAt s (i + j) = false → dgs (s.drop i) = (s.drop i).take j := fun hn => by
    refine dgs_of (by rw [List.length_drop]; omega) (fun k hk => ?_) (fun hk => ?_)
    · have := hd k hk
      rw [digAt_lt (by omega)] at this
      rw [drop_get (by rw [List.length_drop]; omega)]; exact this
    · rw [List.length_drop] at hk
      rw [digAt_lt (by omega)] at hn
      rw [drop_get (by rw [List.length_drop]; omega)]; exact hn
  by_cases hlt : i + j < s.length
  · refine (cond_t (by rw [k1]; simpa using hlt)).trans ?_
    refine (cond_t (by rw [k2]; simpa using hlt)).trans ?_
    have k3 := isD_of s[i + j]
    have k4 : byteAt s ((i + j : Nat) : Int) = ((s[i + j]).toNat : Int) := byteAt_lt s (i + j) hlt
    by_cases hc : isD s[i + j] = true
    · have k5 := k3.symm.trans hc
      simp only [Bool.and_eq_true] at k5
      refine (cond_t (by rw [k4]; exact k5.1)).trans ?_
      refine (cond_t (by rw [k2]; simpa using hlt)).trans ?_
      refine (cond_t (by rw [k4]; exact k5.2)).trans ?_
      have k6 : isub .i64 ((i + j : Nat) : Int) (i : Int) = (j : Int) := by rw [isub_of _ _ (by omega) (by omega)]; omega
      by_cases hj4 : j < 5
      · refine (cond_t (by show ilt (isub .i64 ((i + j : Nat) : Int) (i : Int)) 5 = true; rw [k6]; have := ilt_nat j 5; rw [show ((5 : Int)) = ((5 : Nat) : Int) from rfl, this]; simpa using hj4)).trans ?_
        refine (cond_t (by rw [k2]; simpa using hlt)).trans ?_
        have hb := isD_iff.1 hc
        have hvl := valF_lt ((s.drop i).take j) 0 (fun c hc => by
          obtain ⟨k, hk, rfl⟩ := List.getElem_of_mem hc
          have hk' : k < j := by rw [List.length_take] at hk; omega
          have := hd k hk'
          rw [digAt_lt (by omega)] at this
          rw [List.getElem_take, drop_get (by rw [List.length_drop]; omega)]; exact this)
        have hpow : 10 ^ ((s.drop i).take j).length ≤ 10 ^ 5 := Nat.pow_le_pow_right (by omega) (by rw [List.length_take]; omega)
        have h105 : (10 : Nat) ^ 5 = 100000 := by decide
        have hvv : valF 0 ((s.drop i).take (j + 1)) = valF 0 ((s.drop i).take j) * 10 + ((s[i + j]).toNat - 48) := by
          rw [List.take_succ_eq_append_getElem (by rw [List.length_drop]; omega), valF_app, valF_cons, valF_nil, drop_get (by rw [List.length_drop]; omega)]
        have k7 : isub .u8 (byteAt s ((i + j : Nat) : Int)) 48 = (((s[i + j]).toNat - 48 : Nat) : Int) := by
          rw [k4]; unfold isub
          have : IntKind.u8.wrap (((s[i + j]).toNat : Int) - 48) = ((s[i + j]).toNat : Int) - 48 := by
            have hx : ((s[i + j]).toNat : Int) - 48 = (((s[i + j]).toNat - 48 : Nat) : Int) := by omega
            rw [hx]
            generalize hq : (s[i + j]).toNat - 48 = q
            have hq9 : q ≤ 9 := by omega
            clear hq hx k4 k3 k5 hb hvv
            have : ∀ q : Nat, q ≤ 9 → IntKind.u8.wrap (q : Int) = (q : Int) := by decide
            exact this q hq9
          rw [this]; omega
        have k8 : iwrap .i64 (((s[i + j]).toNat - 48 : Nat) : Int) = (((s[i + j]).toNat - 48 : Nat) : Int) := wrap64 _ (by omega) (by omega)
        refine hrec _ ⟨j + 1, ?_, by omega, by omega, fun k hk => ?_⟩ ?_
        · have k9 : iadd .i64 ((i + j : Nat) : Int) 1 = ((i + (j + 1) : Nat) : Int) := iadd_one (i + j) (by omega)
          have k10 : imul .i64 10 (valF 0 ((s.drop i).take j) : Int) = ((valF 0 ((s.drop i).take j) * 10 : Nat) : Int) := by rw [imul_of _ _ (by omega) (by omega)]; omega
          simp only [k9, k7, k8, k10]
          rw [hvv, iadd_nat _ _ (by omega)]
        · rcases Nat.lt_or_ge k j with h | h
          · exact hd k h
          · have : k = j := by omega
            subst this; rw [digAt_lt hlt]; exact hc
        · have k9 : iadd .i64 ((i + j : Nat) : Int) 1 = ((i + (j + 1) : Nat) : Int) := iadd_one (i + j) (by omega)
          simp only [k9, Int.toNat_natCast]
          omega
      · have e5 : j = 5 := by omega
        subst e5
        refine (cond_f (by show ilt (isub .i64 ((i + 5 : Nat) : Int) (i : Int)) 5 = false; rw [k6]; decide)).trans ?_
        exact E33_many s i lo hi hj h2 hhi hd (by rw [digAt_lt hlt]; exact hc)
    · have hc : isD s[i + j] = false := by simpa using hc
      have hn : digAt s (i + j) = false := by rw [digAt_lt hlt]; exact hc
      have k5 := k3.symm.trans hc
      cases h7 : ile 48 ((s[i + j]).toNat : Int) with
      | true =>
        rw [h7, Bool.true_and] at k5
        refine (cond_t (by rw [k4]; exact h7)).trans ?_
        refine (cond_t (by rw [k2]; simpa using hlt)).trans ?_
        refine (cond_f (by rw [k4]; exact k5)).trans ?_
        exact E33_end s i j lo hi hj h2 (hdg hn) hn
      | false =>
        refine (cond_f (by rw [k4]; exact h7)).trans ?_
        exact E33_end s i j lo hi hj h2 (hdg hn) hn
  · refine (cond_f (by rw [k1]; simpa using hlt)).trans ?_
    have hn : digAt s (i + j) = false := digAt_ge (by omega)
    exact E33_end s i j lo hi hj h2 (hdg hn) hn

def c33 (x : List UInt8 × Int × Int × Int × Unit) : Option (Int × Int × Unit) := if x.1.length ≤ 1000000 ∧ 0 ≤ x.2.1 ∧ x.2.1 ≤ x.1.length ∧ 0 ≤ x.2.2.1 ∧ 0 ≤ x.2.2.2.1 ∧ x.2.2.2.1 ≤ 9999 then some (num33 x.1 x.2.1.toNat x.2.2.1.toNat x.2.2.2.1.toNat) else none
theorem sh33_c (s : List UInt8) (i lo hi : Int) (h1 : s.length ≤ 1000000) (h2 : 0 ≤ i) (h3 : i ≤ s.length) (h4 : 0 ≤ lo) (h5 : 0 ≤ hi) (h6 : hi ≤ 9999) : sh33 1000001 (fun _ => false) s i lo hi = some (num33 s i.toNat lo.toNat hi.toNat) := by
  obtain ⟨i, rfl⟩ := Int.eq_ofNat_of_zero_le h2
  obtain ⟨lo, rfl⟩ := Int.eq_ofNat_of_zero_le h4
  obtain ⟨hi, rfl⟩ := Int.eq_ofNat_of_zero_le h5
  exact sh33_spec _ _ s i lo hi (by omega) (by omega) h1 (by omega)
theorem ok33 : ConOk CC Tryd.prog 33 ⟨as33, rs33, c33⟩ := (con33 1000001).sub fun x y h => by
  unfold c33 at h
  split at h
  · rename_i h1
    injection h with h
    subst h
    exact sh33_c _ _ _ _ h1.1 h1.2.1 h1.2.2.1 h1.2.2.2.1 h1.2.2.2.2.1 h1.2.2.2.2.2
  · cases h
end Go.Proofs.YtegibhjgldpndaaDoor
