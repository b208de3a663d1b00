/-
  What the document's walk over a tree's text works out: its pieces; what is wrong; leaves; how many of a kind.
-/
import Derived.Test.YtegibhjgldpndaaDoorP5
set_option linter.unusedVariables false
set_option linter.unusedSimpArgs false
namespace Go.Proofs.YtegibhjgldpndaaDoor
open Go.Al Go.Den

theorem byte_is (s : List UInt8) (i : Nat) (h : i < s.length) (c : UInt8) (n : Int) (hn : n = (c.toNat : Int)) : ieq (byteAt s (i : Int)) n = decide ((s.drop i).head? = some c) := by
  rw [byteAt_lt s i h, ieq_dec, List.drop_eq_getElem_cons h, hn]
  simp only [List.head?_cons, Option.some.injEq]
  exact decide_eq_decide.2 ⟨fun e => UInt8.toNat_inj.1 (by omega), fun e => by rw [e]⟩
theorem byte_isnt (s : List UInt8) (i : Nat) (h : i < s.length) (c : UInt8) (n : Int) (hn : n = (c.toNat : Int)) : ine (byteAt s (i : Int)) n = !decide ((s.drop i).head? = some c) := by
  rw [← byte_is s i h c n hn, ine_dec, ieq_dec]

set_option maxHeartbeats 2000000 in
theorem sh26_spec (fu : Nat) (s : List UInt8) (hfu : s.length < fu) (h : s.length ≤ 100000) : sh26 fu c33 (fun _ => false) s = some ((mIq [] 0 0 s).1, ((mIq [] 0 0 s).2.1 : Int), (mIq [] 0 0 s).2.2, ()) := by
  generalize hR : mIq [] 0 0 s = R
  unfold sh26
  refine iter_ind (fun t => ∃ (i k dp : Nat) (out : List PieceT), t = (out, (k : Int), (dp : Int), (i : Int), ()) ∧ i ≤ s.length ∧ R = mIq out k dp (s.drop i) ∧ out.length ≤ i ∧ k ≤ i ∧ dp ≤ i) (fun t => s.length - t.2.2.2.1.toNat) ?_ fu _ ⟨0, 0, 0, [], rfl, Nat.zero_le _, hR.symm, Nat.le_refl _, Nat.le_refl _, Nat.le_refl _⟩ (by simp only; omega)
  rintro rec t ⟨i, k, dp, out, rfl, hi, hRR, ho, hk, hdp⟩ hrec
  -- behind a piece: brackets' ends, and what comes then
  have inner : ∀ (i' k' dp' : Nat) (out' : List PieceT), i < i' → i' ≤ s.length → R = mCq out' k' dp' (s.drop i') → out'.length ≤ i' → k' ≤ i' → dp' ≤ i' →
      ∀ (F : (List PieceT × Int × Int × Unit → Option (List PieceT × Int × Bool × Unit)) → (List PieceT × Int × Int × Unit) → Option (List PieceT × Int × Bool × Unit)),
      (∀ rec2 (m q : Nat) (o : List PieceT), m ≤ s.length → o.length ≤ m → F rec2 (o, (q : Int), (m : Int), ()) =
        (if 0 < q ∧ (s.drop m).head? = some 41 then rec2 (o ++ [⟨2, 0⟩], isub .i64 (q : Int) 1, ((m + 1 : Nat) : Int), ()) else if q = 0 then some (o, (dp' : Int), (s.drop m).isEmpty, ()) else if (s.drop m).head? = some 32 then rec (o, (q : Int), (dp' : Int), ((m + 1 : Nat) : Int), ()) else some ([], 0, false, ()))) →
      iter fu F (out', (k' : Int), (i' : Int), ()) = some (R.1, (R.2.1 : Int), R.2.2, ()) := by
    intro i' k' dp' out' hii hi' hR' ho' hk' hdp' F hF
    refine iter_ind (fun t => ∃ (m q : Nat) (o : List PieceT), t = (o, (q : Int), (m : Int), ()) ∧ i < m ∧ m ≤ s.length ∧ R = mCq o q dp' (s.drop m) ∧ o.length ≤ m ∧ q ≤ m ∧ dp' ≤ m) (fun t => s.length - t.2.2.1.toNat) ?_ fu _ ⟨i', k', out', rfl, hii, hi', hR', ho', hk', hdp'⟩ (by simp only; omega)
    rintro rec2 t ⟨m, q, o, rfl, hm, hms, hRm, hom, hqm, hdm⟩ hrec2
    rw [hF rec2 m q o hms hom]
    rw [mCq_eq] at hRm
    have htl : (s.drop m).tail = s.drop (m + 1) := by rw [List.tail_drop]
    rw [htl] at hRm
    have hlt : ∀ c, (s.drop m).head? = some c → m < s.length := fun c hc => by
      rcases Nat.lt_or_ge m s.length with h | h
      · exact h
      · rw [List.drop_of_length_le h] at hc; cases hc
    by_cases hq : q = 0
    · subst hq
      rw [if_neg (by omega), if_pos rfl]
      rw [if_pos rfl] at hRm
      rw [hRm]
    · rw [if_neg hq] at hRm
      by_cases h41 : (s.drop m).head? = some 41
      · rw [if_pos ⟨by omega, h41⟩]
        rw [if_pos h41] at hRm
        have := hlt _ h41
        have e1 : isub .i64 (q : Int) 1 = ((q - 1 : Nat) : Int) := by rw [isub_of _ _ (by omega) (by omega)]; omega
        rw [e1]
        exact hrec2 _ ⟨m + 1, q - 1, _, rfl, by omega, by omega, hRm, by simp only [List.length_append, List.length_cons, List.length_nil]; omega, by omega, by omega⟩ (by simp only [Int.toNat_natCast]; omega)
      · rw [if_neg (fun hh => h41 hh.2), if_neg hq]
        rw [if_neg h41] at hRm
        by_cases h32 : (s.drop m).head? = some 32
        · rw [if_pos h32]
          rw [if_pos h32] at hRm
          have := hlt _ h32
          exact hrec _ ⟨m + 1, q, dp', o, rfl, by omega, hRm, by omega, by omega, by omega⟩ (by simp only [Int.toNat_natCast]; omega)
        · rw [if_neg h32]
          rw [if_neg h32] at hRm
          rw [hRm]; rfl
  -- how a round behind a piece looks
  have body : ∀ (dp' : Nat) (rec2 : List PieceT × Int × Int × Unit → Option (List PieceT × Int × Bool × Unit)) (m q : Nat) (o : List PieceT), m ≤ s.length → o.length ≤ m →
      cond (ilt 0 (q : Int)) (cond (ilt (m : Int) (lenI s)) (cond (inB (m : Int) s.length) (cond (ieq (byteAt s (m : Int)) 41) (cond (okN 16 (o.length + 1)) (rec2 (o ++ [⟨2, 0⟩], isub .i64 (q : Int) 1, iadd .i64 (m : Int) 1, ())) none)
          (cond (ieq (q : Int) 0) (some (o, (dp' : Int), ieq (m : Int) (lenI s), ())) (cond (ile (lenI s) (m : Int)) (some ([], 0, false, ())) (cond (inB (m : Int) s.length) (cond (ine (byteAt s (m : Int)) 32) (some ([], 0, false, ())) (rec (o, (q : Int), (dp' : Int), iadd .i64 (m : Int) 1, ()))) none)))) none)
        (cond (ieq (q : Int) 0) (some (o, (dp' : Int), ieq (m : Int) (lenI s), ())) (cond (ile (lenI s) (m : Int)) (some ([], 0, false, ())) (cond (inB (m : Int) s.length) (cond (ine (byteAt s (m : Int)) 32) (some ([], 0, false, ())) (rec (o, (q : Int), (dp' : Int), iadd .i64 (m : Int) 1, ()))) none))))
      (cond (ieq (q : Int) 0) (some (o, (dp' : Int), ieq (m : Int) (lenI s), ())) (cond (ile (lenI s) (m : Int)) (some ([], 0, false, ())) (cond (inB (m : Int) s.length) (cond (ine (byteAt s (m : Int)) 32) (some ([], 0, false, ())) (rec (o, (q : Int), (dp' : Int), iadd .i64 (m : Int) 1, ()))) none))) =
      (if 0 < q ∧ (s.drop m).head? = some 41 then rec2 (o ++ [⟨2, 0⟩], isub .i64 (q : Int) 1, ((m + 1 : Nat) : Int), ()) else if q = 0 then some (o, (dp' : Int), (s.drop m).isEmpty, ()) else if (s.drop m).head? = some 32 then rec (o, (q : Int), (dp' : Int), ((m + 1 : Nat) : Int), ()) else some ([], 0, false, ())) := by
    intro dp' rec2 m q o hm hom
    have e0 : ilt 0 (q : Int) = decide (0 < q) := ilt_nat 0 q
    have e1 : ilt (m : Int) (lenI s) = decide (m < s.length) := ilt_nat _ _
    have e2 : inB (m : Int) s.length = decide (m < s.length) := inB_nat _ _
    have e3 : ieq (q : Int) 0 = decide (q = 0) := by rw [ieq_dec]; exact decide_eq_decide.2 ⟨fun h => by omega, fun h => by omega⟩
    have e4 : ieq (m : Int) (lenI s) = (s.drop m).isEmpty := by
      rw [ieq_dec, Bool.eq_iff_iff, decide_eq_true_eq, List.isEmpty_iff, List.drop_eq_nil_iff, lenI_nat]; omega
    have e5 : ile (lenI s) (m : Int) = decide (s.length ≤ m) := ile_nat _ _
    have e6 : okN 16 (o.length + 1) = true := okN_spec' (by omega) (by unfold maxLen; omega)
    have e7 : iadd .i64 (m : Int) 1 = ((m + 1 : Nat) : Int) := iadd_one m (by omega)
    simp only [e0, e1, e2, e3, e4, e5, e6, e7, cond_true]
    by_cases hlt : m < s.length
    · have e8 := byte_is s m hlt 41 41 (by decide)
      have e9 := byte_isnt s m hlt 32 32 (by decide)
      have e10 : ¬ s.length ≤ m := by omega
      simp only [hlt, decide_true, cond_true, e8, e9, e10, decide_false, cond_false]
      by_cases hq : 0 < q
      · have hq0 : ¬ q = 0 := by omega
        simp only [hq, hq0, decide_true, decide_false, cond_true, cond_false, true_and, if_false]
        by_cases h41 : (s.drop m).head? = some 41
        · simp only [h41, decide_true, cond_true, if_true]
        · simp only [h41, decide_false, cond_false, if_false]
          by_cases h32 : (s.drop m).head? = some 32
          · simp only [h32, decide_true, Bool.not_true, cond_false, if_true]
          · simp only [h32, decide_false, Bool.not_false, cond_true, if_false]
      · have hq0 : q = 0 := by omega
        simp only [hq0, Nat.lt_irrefl, decide_true, decide_false, cond_true, cond_false, false_and, if_false, if_true]
    · have e10 : s.length ≤ m := by omega
      have e11 : (s.drop m).head? = none := by rw [List.drop_of_length_le e10]; rfl
      simp only [hlt, decide_false, cond_false, e10, decide_true, cond_true, e11]
      by_cases hq : 0 < q
      · have hq0 : ¬ q = 0 := by omega
        simp [hq, hq0]
      · have hq0 : q = 0 := by omega
        simp [hq0]
  have k0 : ilt (i : Int) (lenI s) = decide (i < s.length) := ilt_nat _ _
  have k1 : inB (i : Int) s.length = decide (i < s.length) := inB_nat _ _
  have k2 : okN 16 (out.length + 1) = true := okN_spec' (by omega) (by unfold maxLen; omega)
  have k3 : iadd .i64 (i : Int) 1 = ((i + 1 : Nat) : Int) := iadd_one i (by omega)
  have k4 : iadd .i64 (k : Int) 1 = ((k + 1 : Nat) : Int) := iadd_one k (by omega)
  have k5 : ∀ a b : Nat, imax (a : Int) (b : Int) = ((max a b : Nat) : Int) := imax_nat
  have k6 : c33 (s, (i : Int), 0, 9999, ()) = some (num33 s i 0 9999) := if_pos ⟨by show s.length ≤ 1000000; omega, by show (0 : Int) ≤ (i : Int); omega, by show (i : Int) ≤ (s.length : Int); omega, by show (0 : Int) ≤ 0; omega, by show (0 : Int) ≤ 9999; omega, by show (9999 : Int) ≤ 9999; omega⟩
  rw [mIq_eq] at hRR
  have htl : (s.drop i).tail = s.drop (i + 1) := by rw [List.tail_drop]
  rw [htl] at hRR
  unfold joinC
  simp only [Int.toNat_natCast, List.length_cons, List.length_nil, Nat.zero_add, k0, k1, k2, k3, k4, k6, Option.bind_some]
  by_cases hlt : i < s.length
  · have e8 := byte_is s i hlt 40 40 (by decide)
    simp only [hlt, decide_true, cond_true, e8]
    by_cases h40 : (s.drop i).head? = some 40
    · have k7 : c33 (s, ((i + 1 : Nat) : Int), 1, 99, ()) = some (num33 s (i + 1) 1 99) := if_pos ⟨by show s.length ≤ 1000000; omega, by show (0 : Int) ≤ ((i + 1 : Nat) : Int); omega, by show ((i + 1 : Nat) : Int) ≤ (s.length : Int); omega, by show (0 : Int) ≤ 1; omega, by show (0 : Int) ≤ 99; omega, by show (99 : Int) ≤ 9999; omega⟩
      simp only [h40, decide_true, cond_true, k7, Option.bind_some, k5]
      rw [if_pos h40] at hRR
      unfold num33
      by_cases hn : numOk (dgs (s.drop (i + 1))) 1 99 = true
      · rw [if_pos hn] at hRR ⊢
        have hl := numOk_ne hn
        have hl2 := dgs_len (s.drop (i + 1))
        rw [List.length_drop] at hl2
        have e1 : ilt ((i + 1 + (dgs (s.drop (i + 1))).length : Nat) : Int) 0 = false := ilt_nat _ 0 |>.trans (by simp)
        simp only [e1, cond_false]
        rw [List.drop_drop] at hRR
        refine inner _ (k + 1) (max dp (k + 1)) _ (by omega) (by omega) hRR (by simp only [List.length_append, List.length_cons, List.length_nil]; omega) (by omega) (by omega) _ ?_
        exact fun rec2 m q o hm hom => body (max dp (k + 1)) rec2 m q o hm hom
      · rw [if_neg hn] at hRR ⊢
        have e1 : ilt (-1) 0 = true := by decide
        simp only [e1, cond_true]
        rw [hRR]; rfl
    · simp only [h40, decide_false, cond_false]
      rw [if_neg h40] at hRR
      unfold num33
      by_cases hn : numOk (dgs (s.drop i)) 0 9999 = true
      · rw [if_pos hn] at hRR ⊢
        have hl := numOk_ne hn
        have hl2 := dgs_len (s.drop i)
        rw [List.length_drop] at hl2
        have e1 : ilt ((i + (dgs (s.drop i)).length : Nat) : Int) 0 = false := ilt_nat _ 0 |>.trans (by simp)
        simp only [e1, cond_false]
        rw [List.drop_drop] at hRR
        refine inner _ k dp _ (by omega) (by omega) hRR (by simp only [List.length_append, List.length_cons, List.length_nil]; omega) (by omega) (by omega) _ ?_
        exact fun rec2 m q o hm hom => body dp rec2 m q o hm hom
      · rw [if_neg hn] at hRR ⊢
        have e1 : ilt (-1) 0 = true := by decide
        simp only [e1, cond_true]
        rw [hRR]; rfl
  · simp only [hlt, decide_false, cond_false]
    have h40 : ¬ (s.drop i).head? = some 40 := by rw [List.drop_of_length_le (by omega)]; simp
    rw [if_neg h40] at hRR
    unfold num33
    by_cases hn : numOk (dgs (s.drop i)) 0 9999 = true
    · rw [if_pos hn] at hRR ⊢
      have hl := numOk_ne hn
      have hl2 := dgs_len (s.drop i)
      rw [List.length_drop] at hl2
      have e1 : ilt ((i + (dgs (s.drop i)).length : Nat) : Int) 0 = false := ilt_nat _ 0 |>.trans (by simp)
      simp only [e1, cond_false]
      rw [List.drop_drop] at hRR
      refine inner _ k dp _ (by omega) (by omega) hRR (by simp only [List.length_append, List.length_cons, List.length_nil]; omega) (by omega) (by omega) _ ?_
      exact fun rec2 m q o hm hom => body dp rec2 m q o hm hom
    · rw [if_neg hn] at hRR ⊢
      have e1 : ilt (-1) 0 = true := by decide
      simp only [e1, cond_true]
      rw [hRR]; rfl

def c26 (x : List UInt8 × Unit) : Option (List PieceT × Int × Bool × Unit) := if x.1.length ≤ 100000 then some ((mIq [] 0 0 x.1).1, ((mIq [] 0 0 x.1).2.1 : Int), (mIq [] 0 0 x.1).2.2, ()) else none
theorem ok26 : ConOk CC Tryd.prog 26 ⟨as26, rs26, c26⟩ := (con26 1000001 c33 ok33).sub fun x y h => by
  unfold c26 at h
  split at h
  · rename_i h1
    injection h with h
    subst h
    exact sh26_spec _ _ (by omega) h1
  · cases h

/-- What is wrong with a text, by its walk, is what Read tells. -/
theorem sh11_spec (fu : Nat) (nf : Nat → Bool) (s : List UInt8) : sh11 fu c26 nf s = some ((readR s).2, ()) := by
  unfold sh11 readR
  have k1 : ilt 4000 (lenI s) = decide (4000 < s.length) := ilt_nat 4000 s.length
  rw [k1]
  by_cases h : 4000 < s.length
  · simp only [h, decide_true, cond_true, if_true]
  · have k2 : c26 (s, ()) = some ((mIq [] 0 0 s).1, ((mIq [] 0 0 s).2.1 : Int), (mIq [] 0 0 s).2.2, ()) := if_pos (by show s.length ≤ 100000; omega)
    simp only [h, decide_false, cond_false, if_false, k2, Option.bind_some, pieces_eq]
    cases rdTq s with
    | none => rfl
    | some p =>
      obtain ⟨t, r, d⟩ := p
      have k3 : ilt 100 (d : Int) = decide (100 < d) := ilt_nat 100 d
      simp only [k3]
      by_cases h2 : r = []
      · by_cases h3 : 100 < d
        · simp [h2, h3]
        · simp [h2, h3]
      · have : r.isEmpty = false := by cases r with | nil => exact absurd rfl h2 | cons _ _ => rfl
        simp [h2, this]
def c11 (x : List UInt8 × Unit) : Option (Int × Unit) := some ((readR x.1).2, ())
theorem ok11 : ConOk CC Tryd.prog 11 ⟨as11, rs11, c11⟩ := (con11 0 c26 ok26).sub fun x y h => by
  unfold c11 at h
  injection h with h
  subst h
  exact sh11_spec _ _ _
end Go.Proofs.YtegibhjgldpndaaDoor
