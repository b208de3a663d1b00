/-
  What the functions over trees work out: moving, paths, lists; and the document's answers.
-/
import Derived.Test.YtegibhjgldpndaaDoorP7
set_option linter.unusedVariables false
set_option linter.unusedSimpArgs false
namespace Go.Proofs.YtegibhjgldpndaaDoor
open Go.Al Go.Den

/- How long what is printed is. -/
theorem dec_pos (u : Nat) : 0 < (Lib.decDigits u).length := by
  rw [Lib.decDigits]
  split
  · simp
  · simp
theorem itoa_pos (n : Int) : 0 < (Lib.itoa n).length := by
  unfold Lib.itoa
  split
  · simp
  · exact dec_pos _
mutual
theorem szT_pr : ∀ t : Nd, wfT t → szT t ≤ (prT t).length
  | .mk k a ks => fun h => by
    simp only [wfT] at h
    simp only [szT, prT]
    rcases h with ⟨rfl, _, _, rfl⟩ | ⟨h1, _, _, h4⟩
    · have := itoa_pos a
      simp only [szK, if_true]; omega
    · have := szK_pr ks h4
      rw [if_neg (by omega)]
      simp only [List.length_cons, List.length_append, List.length_nil]; omega
theorem szK_pr : ∀ ks : List Nd, wfK ks → szK ks ≤ (prK ks).length
  | [], _ => by simp [szK]
  | t :: r, h => by
    simp only [wfK] at h
    have h1 := szT_pr t h.1
    have h2 := szK_pr r h.2
    simp only [szK, prK, List.length_cons, List.length_append]; omega
end
mutual
theorem flT_len : ∀ t : Nd, (flT t).length ≤ 2 * szT t
  | .mk k a ks => by
    have := flK_len ks
    simp only [flT, szT]
    split
    · simp only [List.length_cons, List.length_nil]; omega
    · simp only [List.length_cons, List.length_nil, List.length_append]; omega
theorem flK_len : ∀ ks : List Nd, (flK ks).length ≤ 2 * szK ks
  | [] => by simp [flK]
  | t :: r => by
    have h1 := flT_len t
    have h2 := flK_len r
    simp only [flK, szK, List.length_append]; omega
end

/- What is moved. -/
mutual
def mvT (by' : Int) : Nd → Nd
  | .mk k a ks => if k = 0 then .mk 0 (iadd .i64 a by') [] else .mk k 0 (mvK by' ks)
def mvK (by' : Int) : List Nd → List Nd
  | [] => []
  | t :: r => mvT by' t :: mvK by' r
end
theorem mvK_app (by' : Int) : ∀ a b : List Nd, mvK by' (a ++ b) = mvK by' a ++ mvK by' b
  | [], b => rfl
  | x :: a, b => by simp only [List.cons_append, mvK, mvK_app by' a b]
theorem mvK_len (by' : Int) : ∀ a : List Nd, (mvK by' a).length = a.length
  | [] => rfl
  | x :: a => by simp only [mvK, List.length_cons, mvK_len by' a]

theorem sh22_spec (n fu : Nat) (c : Nd × Int × Unit → Option (Nd × Unit)) (nf : Nat → Bool) (t : Nd) (by' : Int) (hc : ∀ x, szT x < n → c (x, by', ()) = some (mvT by' x, ())) (hn : szT t < n + 1) (hfu : szT t < fu) (hb : szT t ≤ 1000000) :
    sh22 fu c21 c c24 nf t by' = some (mvT by' t, ()) := by
  obtain ⟨k, a, ks⟩ := t
  unfold sh22
  simp only [Nd.kind, Nd.tok, Nd.kids, ieq_dec]
  by_cases hk : k = 0
  · subst hk
    simp only [decide_true, cond_true, c24, Option.bind_some, mvT, if_true]
  · rw [szT_kids] at hn hfu hb
    have hmv : mvT by' (.mk k a ks) = .mk k 0 (mvK by' ks) := by simp only [mvT, if_neg hk]
    rw [hmv]
    simp only [hk, decide_false, cond_false]
    refine iter_ind (fun s => ∃ j : Nat, s = ((k, (a, (ks, ()))), ((0, (0, ([], ()))), (mvK by' (ks.take j), ((j : Int), ())))) ∧ j ≤ ks.length) (fun s => ks.length - s.2.2.2.1.toNat) ?_ fu _ ⟨0, by simp [mvK], Nat.zero_le _⟩ (by simp only; have := szK_len ks; omega)
    rintro rec s ⟨j, rfl, hj⟩ hrec
    have k2 : ilt (j : Int) (lenI ks) = decide (j < ks.length) := ilt_nat _ _
    have k3 : inB (j : Int) ks.length = decide (j < ks.length) := inB_nat _ _
    simp only [k2, k3, Int.toNat_natCast]
    by_cases hlt : j < ks.length
    · have hs := szK_mem (List.getElem_mem hlt)
      have hcj := hc ks[j] (by omega)
      have hl := szK_len ks
      have k4 : okN 40 ((mvK by' (ks.take j)).length + [mvT by' ks[j]].length) = true := okN_spec' (by rw [mvK_len, List.length_take]; simp only [List.length_cons, List.length_nil]; omega) (by rw [mvK_len, List.length_take]; simp only [List.length_cons, List.length_nil, maxLen]; omega)
      simp only [hlt, decide_true, cond_true, getD_lt _ _ _ hlt]
      have he : Nd.mk ks[j].kind ks[j].tok ks[j].kids = ks[j] := nd_eta _
      have he' : Nd.mk (mvT by' ks[j]).kind (mvT by' ks[j]).tok (mvT by' ks[j]).kids = mvT by' ks[j] := nd_eta _
      simp only [Nd.kind, Nd.tok, Nd.kids] at he he'
      simp only [he, hcj, Option.bind_some, he', k4, cond_true]
      rw [iadd_one j (by omega)]
      exact hrec _ ⟨j + 1, by rw [take_snoc ks j hlt, mvK_app]; rfl, hlt⟩ (by simp only [Int.toNat_natCast]; omega)
    · have hje : j = ks.length := by omega
      simp only [hlt, decide_false, cond_false, c21, Option.bind_some]
      rw [hje, List.take_length]
def c22n (n : Nat) (x : Nd × Int × Unit) : Option (Nd × Unit) := if szT x.1 < n then some (mvT x.2.1 x.1, ()) else none
theorem ok22n : ∀ n, n ≤ 1000000 → ConOk CC Tryd.prog 22 ⟨as22, rs22, c22n n⟩
  | 0, _ => fun x y h => by simp [c22n] at h
  | n + 1, hn => (con22 1000001 c21 ok21 _ (ok22n n (by omega)) c24 ok24).sub fun x y h => by
    unfold c22n at h
    split at h
    · rename_i h1
      injection h with h
      subst h
      exact sh22_spec n _ _ _ _ _ (fun a hi => if_pos hi) h1 (by omega) (by omega)
    · cases h
def c22 : Nd × Int × Unit → Option (Nd × Unit) := c22n 1000000
theorem ok22 : ConOk CC Tryd.prog 22 ⟨as22, rs22, c22⟩ := ok22n 1000000 (Nat.le_refl _)

/- Paths. -/
mutual
def paT (x : Int) : Nd → List Int × Bool
  | .mk k a ks => if k = 0 then ([], decide (a = x)) else paK x k ks
def paK (x k : Int) : List Nd → List Int × Bool
  | [] => ([], false)
  | t :: r => if (paT x t).2 = true then (k :: (paT x t).1, true) else paK x k r
end
mutual
theorem paT_len (x : Int) : ∀ t : Nd, (paT x t).1.length < szT t
  | .mk k a ks => by
    have := paK_len x k ks
    simp only [paT, szT]
    split
    · simp only [List.length_nil]; omega
    · omega
theorem paK_len (x k : Int) : ∀ ks : List Nd, (paK x k ks).1.length ≤ szK ks
  | [] => by simp [paK]
  | t :: r => by
    have h1 := paT_len x t
    have h2 := paK_len x k r
    simp only [paK, szK]
    split
    · simp only [List.length_cons]; omega
    · omega
end
mutual
theorem paT_no (x : Int) : ∀ t : Nd, (paT x t).2 = false → (paT x t).1 = []
  | .mk k a ks => by
    have := paK_no x k ks
    simp only [paT]
    split
    · intro _; rfl
    · exact this
theorem paK_no (x k : Int) : ∀ ks : List Nd, (paK x k ks).2 = false → (paK x k ks).1 = []
  | [] => by intro _; rfl
  | t :: r => by
    have h2 := paK_no x k r
    simp only [paK]
    split
    · intro h; cases h
    · exact h2
end

theorem sh29_spec (n fu : Nat) (c : Nd × Int × Unit → Option (List Int × Bool × Unit)) (nf : Nat → Bool) (t : Nd) (x : Int) (hc : ∀ t, szT t < n → c (t, x, ()) = some ((paT x t).1, (paT x t).2, ())) (hn : szT t < n + 1) (hfu : szT t < fu) (hb : szT t ≤ 1000000) :
    sh29 fu c nf t x = some ((paT x t).1, (paT x t).2, ()) := by
  obtain ⟨k, a, ks⟩ := t
  unfold sh29
  simp only [Nd.kind, Nd.tok, Nd.kids, ieq_dec]
  by_cases hk : k = 0
  · simp only [hk, decide_true, cond_true, paT, if_true]
  · rw [szT_kids] at hn hfu hb
    simp only [hk, decide_false, cond_false, paT, if_false]
    refine iter_ind (fun s => ∃ j : Nat, s = ((k, (a, (ks, ()))), ((j : Int), ())) ∧ j ≤ ks.length ∧ paK x k ks = paK x k (ks.drop j)) (fun s => ks.length - s.2.1.toNat) ?_ fu _ ⟨0, rfl, Nat.zero_le _, rfl⟩ (by simp only; have := szK_len ks; omega)
    rintro rec s ⟨j, rfl, hj, hp⟩ hrec
    have k2 : ilt (j : Int) (lenI ks) = decide (j < ks.length) := ilt_nat _ _
    have k3 : inB (j : Int) ks.length = decide (j < ks.length) := inB_nat _ _
    simp only [k2, k3, Int.toNat_natCast]
    by_cases hlt : j < ks.length
    · have hs := szK_mem (List.getElem_mem hlt)
      have hcj := hc ks[j] (by omega)
      have hl := szK_len ks
      have hpl := paT_len x ks[j]
      have k4 : okN 8 (1 + (paT x ks[j]).1.length) = true := okN_spec' (by omega) (by simp only [maxLen]; omega)
      simp only [hlt, decide_true, cond_true, getD_lt _ _ _ hlt]
      have he : Nd.mk ks[j].kind ks[j].tok ks[j].kids = ks[j] := nd_eta _
      simp only [Nd.kind, Nd.tok, Nd.kids] at he
      simp only [he, hcj, Option.bind_some, List.length_cons, List.length_nil, Nat.zero_add, k4, cond_true]
      rw [List.drop_eq_getElem_cons hlt] at hp
      simp only [paK] at hp
      cases hE : (paT x ks[j]).2 with
      | true =>
        rw [if_pos hE] at hp
        simp only [cond_true, hp]
        rfl
      | false =>
        rw [if_neg (by rw [hE]; exact Bool.false_ne_true)] at hp
        simp only [cond_false]
        rw [iadd_one j (by omega)]
        exact hrec _ ⟨j + 1, rfl, hlt, hp⟩ (by simp only [Int.toNat_natCast]; omega)
    · have hje : j = ks.length := by omega
      rw [hje, List.drop_length] at hp
      simp only [hlt, decide_false, cond_false, hp, paK]
def c29n (n : Nat) (x : Nd × Int × Unit) : Option (List Int × Bool × Unit) := if szT x.1 < n then some ((paT x.2.1 x.1).1, (paT x.2.1 x.1).2, ()) else none
theorem ok29n : ∀ n, n ≤ 1000000 → ConOk CC Tryd.prog 29 ⟨as29, rs29, c29n n⟩
  | 0, _ => fun x y h => by simp [c29n] at h
  | n + 1, hn => (con29 1000001 _ (ok29n n (by omega))).sub fun x y h => by
    unfold c29n at h
    split at h
    · rename_i h1
      injection h with h
      subst h
      exact sh29_spec n _ _ _ _ _ (fun a hi => if_pos hi) h1 (by omega) (by omega)
    · cases h
def c14 (x : Nd × Int × Unit) : Option (List Int × Unit) := if szT x.1 < 1000000 then some ((paT x.2.1 x.1).1, ()) else none
theorem sub14 (t : Nd) (a : Int) (y : List Int × Unit) (h : c14 (t, a, ()) = some y) : sh14 0 (c29n 1000000) (fun _ => false) t a = some y := by
  unfold c14 at h
  split at h
  · rename_i h1
    injection h with h
    subst h
    unfold sh14
    rw [nd_eta]
    have : c29n 1000000 (t, a, ()) = some ((paT a t).1, (paT a t).2, ()) := if_pos h1
    rw [this]
    rfl
  · cases h
theorem ok14 : ConOk CC Tryd.prog 14 ⟨as14, rs14, c14⟩ := (con14 0 (c29n 1000000) (ok29n 1000000 (Nat.le_refl _))).sub fun x y h => sub14 x.1 x.2.1 y h

/- Are two lists one? -/
theorem sh16_spec (fu : Nat) (nf : Nat → Bool) (a b : List Int) (h : a.length < fu) (h2 : a.length ≤ 1000000) : sh16 fu nf a b = some (decide (a = b), ()) := by
  unfold sh16
  by_cases hl : a.length = b.length
  · have e1 : lenI a = lenI b := by unfold lenI; omega
    rw [ine_false e1]
    simp only [cond_false]
    refine iter_ind (fun s => ∃ j : Nat, s = ((j : Int), ()) ∧ j ≤ a.length ∧ a.take j = b.take j) (fun s => a.length - s.1.toNat) ?_ fu _ ⟨0, rfl, Nat.zero_le _, rfl⟩ (by simp only; omega)
    rintro rec s ⟨j, rfl, hj, hp⟩ hrec
    have k2 : ilt (j : Int) (lenI a) = decide (j < a.length) := ilt_nat _ _
    have k3 : inB (j : Int) a.length = decide (j < a.length) := inB_nat _ _
    have k4 : inB (j : Int) b.length = decide (j < b.length) := inB_nat _ _
    simp only [k2, k3, k4, Int.toNat_natCast]
    by_cases hlt : j < a.length
    · have hlt' : j < b.length := by omega
      simp only [hlt, hlt', decide_true, cond_true, getD_lt _ _ _ hlt, getD_lt _ _ _ hlt', ine_dec]
      by_cases he : a[j] = b[j]
      · simp only [he, decide_true, Bool.not_true, cond_false]
        rw [iadd_one j (by omega)]
        exact hrec _ ⟨j + 1, rfl, hlt, by rw [take_snoc a j hlt, take_snoc b j hlt', hp, he]⟩ (by simp only [Int.toNat_natCast]; omega)
      · have hne : ¬ a = b := fun e => he (by subst e; rfl)
        simp only [he, decide_false, Bool.not_false, cond_true, hne]
    · rw [List.take_of_length_le (by omega), List.take_of_length_le (by omega)] at hp
      simp only [hlt, decide_false, cond_false]
      rw [decide_eq_true hp]
  · have e1 : lenI a ≠ lenI b := by unfold lenI; omega
    have hne : ¬ a = b := fun e => hl (by rw [e])
    rw [ine_true e1]
    simp only [cond_true, hne, decide_false]
def c16 (x : List Int × List Int × Unit) : Option (Bool × Unit) := if x.1.length ≤ 1000000 then some (decide (x.1 = x.2.1), ()) else none
theorem ok16 : ConOk CC Tryd.prog 16 ⟨as16, rs16, c16⟩ := (con16 1000001).sub fun x y h => by
  obtain ⟨a, b, u⟩ := x
  unfold c16 at h
  split at h
  · rename_i h1
    injection h with h
    subst h
    exact sh16_spec _ _ a b (Nat.lt_succ_of_le h1) h1
  · cases h

/- The document's leaves. -/
def lfP : List PieceT → List Int
  | [] => []
  | p :: r => if p.fdo = 0 then p.n :: lfP r else lfP r
theorem sh17_spec (fu : Nat) (nf : Nat → Bool) (s : List UInt8) (ps : List PieceT) (d : Int) (b : Bool) (h26 : c26 (s, ()) = some (ps, d, b, ())) (h : ps.length < fu) (h2 : ps.length ≤ 1000000) : sh17 fu c26 nf s = some (lfP ps, ()) := by
  unfold sh17
  rw [h26]
  simp only [Option.bind_some]
  refine iter_ind (fun s => ∃ (j : Nat) (acc : List Int), s = (acc, ((j : Int), ())) ∧ j ≤ ps.length ∧ acc.length ≤ j ∧ lfP ps = acc ++ lfP (ps.drop j)) (fun s => ps.length - s.2.1.toNat) ?_ fu _ ⟨0, [], rfl, Nat.zero_le _, Nat.le_refl _, rfl⟩ (by simp only; omega)
  rintro rec s ⟨j, acc, rfl, hj, ha, hp⟩ hrec
  have k2 : ilt (j : Int) (lenI ps) = decide (j < ps.length) := ilt_nat _ _
  have k3 : inB (j : Int) ps.length = decide (j < ps.length) := inB_nat _ _
  simp only [k2, k3, Int.toNat_natCast]
  by_cases hlt : j < ps.length
  · have k4 : okN 8 (acc.length + 1) = true := okN_spec' (by omega) (by simp only [maxLen]; omega)
    rw [List.drop_eq_getElem_cons hlt] at hp
    simp only [lfP] at hp
    simp only [hlt, decide_true, cond_true, getD_lt _ _ _ hlt, ieq_dec, List.length_cons, List.length_nil, Nat.zero_add, k4]
    rw [iadd_one j (by omega)]
    by_cases he : ps[j].fdo = 0
    · rw [if_pos he] at hp
      simp only [he, decide_true, cond_true]
      exact hrec _ ⟨j + 1, _, rfl, hlt, by simp; omega, by rw [hp]; simp⟩ (by simp only [Int.toNat_natCast]; omega)
    · rw [if_neg he] at hp
      simp only [he, decide_false, cond_false]
      exact hrec _ ⟨j + 1, _, rfl, hlt, by omega, hp⟩ (by simp only [Int.toNat_natCast]; omega)
  · rw [List.drop_eq_nil_of_le (by omega)] at hp
    simp only [hlt, decide_false, cond_false, hp, lfP, List.append_nil]

/- How many of a kind. -/
def isP (x : Int) (p : PieceT) : Bool := (decide (p.fdo = 1) && decide (p.n = x)) || (decide (p.fdo = 0) && decide (x = 0))
theorem sh19_spec (fu : Nat) (nf : Nat → Bool) (s : List UInt8) (x : Int) (ps : List PieceT) (d : Int) (b : Bool) (h26 : c26 (s, ()) = some (ps, d, b, ())) (h : ps.length < fu) (h2 : ps.length ≤ 1000000) : sh19 fu c26 nf s x = some (((ps.countP (isP x) : Nat) : Int), ()) := by
  unfold sh19
  rw [h26]
  simp only [Option.bind_some]
  refine iter_ind (fun s => ∃ (j c : Nat), s = ((c : Int), ((j : Int), ())) ∧ j ≤ ps.length ∧ c ≤ j ∧ ps.countP (isP x) = c + (ps.drop j).countP (isP x)) (fun s => ps.length - s.2.1.toNat) ?_ fu _ ⟨0, 0, rfl, Nat.zero_le _, Nat.le_refl _, by simp⟩ (by simp only; omega)
  rintro rec s ⟨j, c, rfl, hj, ha, hp⟩ hrec
  have k2 : ilt (j : Int) (lenI ps) = decide (j < ps.length) := ilt_nat _ _
  have k3 : inB (j : Int) ps.length = decide (j < ps.length) := inB_nat _ _
  simp only [k2, k3, Int.toNat_natCast]
  by_cases hlt : j < ps.length
  · rw [List.drop_eq_getElem_cons hlt, List.countP_cons] at hp
    simp only [hlt, decide_true, cond_true, getD_lt _ _ _ hlt, ieq_dec]
    rw [iadd_one j (by omega), iadd_one c (by omega)]
    have hy : isP x ps[j] = true → rec (((c + 1 : Nat) : Int), ((j + 1 : Nat) : Int), ()) = some (((ps.countP (isP x) : Nat) : Int), ()) := fun h => by
      rw [if_pos h] at hp
      exact hrec _ ⟨j + 1, c + 1, rfl, hlt, by omega, by omega⟩ (by simp only [Int.toNat_natCast]; omega)
    have hn : isP x ps[j] = false → rec ((c : Int), ((j + 1 : Nat) : Int), ()) = some (((ps.countP (isP x) : Nat) : Int), ()) := fun h => by
      rw [if_neg (by rw [h]; exact Bool.false_ne_true)] at hp
      exact hrec _ ⟨j + 1, c, rfl, hlt, by omega, by omega⟩ (by simp only [Int.toNat_natCast]; omega)
    unfold isP at hy hn
    by_cases h1 : ps[j].fdo = 1
    · have h0 : ¬ (1 : Int) = 0 := by decide
      simp only [h1, h0, decide_true, decide_false, Bool.true_and, Bool.false_and, Bool.or_false, decide_eq_true_eq, decide_eq_false_iff_not] at hy hn
      simp only [h1, h0, decide_true, decide_false, cond_true, cond_false]
      by_cases h3 : ps[j].n = x
      · simp only [h3, decide_true, cond_true]; exact hy h3
      · simp only [h3, decide_false, cond_false]; exact hn h3
    · simp only [h1, decide_false, Bool.false_and, Bool.false_or] at hy hn
      simp only [h1, decide_false, cond_false]
      by_cases h3 : ps[j].fdo = 0
      · simp only [h3, decide_true, Bool.true_and, decide_eq_true_eq, decide_eq_false_iff_not] at hy hn
        simp only [h3, decide_true, cond_true]
        by_cases h4 : x = 0
        · simp only [h4, decide_true, cond_true] at hy ⊢; exact hy trivial
        · simp only [h4, decide_false, cond_false]; exact hn h4
      · simp only [h3, decide_false, Bool.false_and] at hn
        simp only [h3, decide_false, cond_false]
        exact hn trivial
  · rw [List.drop_eq_nil_of_le (by omega)] at hp
    simp only [List.countP_nil, Nat.add_zero] at hp
    simp only [hlt, decide_false, cond_false, hp]

/- The document's path. -/
def pu18 (o : Option (List Int)) (p : PieceT) : Option (List Int) := if p.fdo = 1 then some (o.getD [] ++ [p.n]) else o
def po18 (o : Option (List Int)) (p : PieceT) : Option (Option (List Int)) := if p.fdo = 2 then (match o with | none => none | some l => if l = [] then none else some (some l.dropLast)) else some o
def rq18 : Option (List Int) → Bool × List Int
  | none => (true, [])
  | some l => (false, l)
def pR (x : Int) : List PieceT → Option (List Int) → Option (Bool × List Int)
  | [], _ => some (true, [])
  | p :: r, o => (po18 (pu18 o p) p).bind fun o' => if p.fdo = 0 ∧ p.n = x then some (rq18 o') else pR x r o'

theorem take_all {α : Type} (l : List α) : takeL l.length l = l := by unfold takeL; exact List.take_length
theorem eqN_self (n : Nat) : eqN n n = true := Nat.beq_refl n
theorem ble_self (n : Nat) : Nat.ble n n = true := Nat.ble_eq_true_of_le (Nat.le_refl n)

theorem takeL_succ {α : Type} (l : List α) (y : α) : takeL (l.length + 1) (l ++ [y]) = l ++ [y] := by
  have := take_all (l ++ [y])
  rwa [List.length_append, List.length_cons, List.length_nil, Nat.zero_add] at this
theorem takeL_pred {α : Type} (l : List α) : takeL (l.length - 1) l = l.dropLast := by unfold takeL; rw [List.dropLast_eq_take]

theorem sh18_spec (fu : Nat) (nf : Nat → Bool) (s : List UInt8) (x : Int) (ps : List PieceT) (d : Int) (b : Bool) (r : Bool × List Int) (h26 : c26 (s, ()) = some (ps, d, b, ())) (hr : pR x ps none = some r) (h : ps.length < fu) (h2 : ps.length ≤ 1000000) : sh18 fu c26 nf s x = some (r, ()) := by
  unfold sh18
  rw [h26]
  simp only [Option.bind_some]
  refine iter_ind (fun s => ∃ (j : Nat) (o : Option (List Int)), s = (o, ((j : Int), ())) ∧ j ≤ ps.length ∧ (o.getD []).length ≤ j ∧ pR x (ps.drop j) o = some r) (fun s => ps.length - s.2.1.toNat) ?_ fu _ ⟨0, none, rfl, Nat.zero_le _, Nat.le_refl _, hr⟩ (by simp only; omega)
  rintro rec s ⟨j, o, rfl, hj, ho, hp⟩ hrec
  have k2 : ilt (j : Int) (lenI ps) = decide (j < ps.length) := ilt_nat _ _
  have k3 : inB (j : Int) ps.length = decide (j < ps.length) := inB_nat _ _
  simp only [k2, k3, Int.toNat_natCast]
  by_cases hlt : j < ps.length
  · rw [List.drop_eq_getElem_cons hlt] at hp
    simp only [pR] at hp
    simp only [hlt, decide_true, cond_true, getD_lt _ _ _ hlt, ieq_dec, List.length_cons, List.length_nil, Nat.zero_add]
    rw [iadd_one j (by omega)]
    have hR : ∀ o', (o'.getD []).length ≤ j + 1 → pR x (ps.drop (j + 1)) o' = some r → rec (o', ((j + 1 : Nat) : Int), ()) = some (r, ()) := fun o' q1 q2 => hrec _ ⟨j + 1, o', rfl, hlt, q1, q2⟩ (by simp only [Int.toNat_natCast]; omega)
    generalize hpj : ps[j] = p at *
    obtain ⟨fd, n⟩ := p
    simp only at hp ⊢
    have e10 : ¬ (1 : Int) = 0 := by decide
    have e12 : ¬ (1 : Int) = 2 := by decide
    have e20 : ¬ (2 : Int) = 0 := by decide
    have e21 : ¬ (2 : Int) = 1 := by decide
    have e01 : ¬ (0 : Int) = 1 := by decide
    have e02 : ¬ (0 : Int) = 2 := by decide
    have k81 : okN 8 1 = true := by decide
    cases o with
    | none =>
      by_cases h1 : fd = 1
      · subst h1
        simp only [pu18, po18, e10, e12, if_true, if_false, Option.bind_some, false_and, Option.getD_none, List.nil_append] at hp
        simp only [oCase, joinC, decide_true, decide_false, e10, e12, cond_true, cond_false, k81, takeL, List.take_succ_cons, List.take_zero, List.length_cons, List.length_nil, Nat.zero_add, eqN_self]
        exact hR _ (by simp) hp
      · by_cases h3 : fd = 2
        · subst h3
          simp only [pu18, po18, e21, if_true, if_false] at hp
          cases hp
        · simp only [pu18, po18, h1, h3, if_false, Option.bind_some] at hp
          simp only [oCase, joinC, h1, h3, decide_false, cond_false]
          by_cases h4 : fd = 0
          · simp only [h4, true_and] at hp
            simp only [h4, decide_true, cond_true]
            by_cases h5 : n = x
            · simp only [h5, if_true, rq18] at hp
              injection hp with hp
              simp only [h5, decide_true, cond_true, ← hp]
            · simp only [h5, if_false] at hp
              simp only [h5, decide_false, cond_false]
              exact hR _ (by simp) hp
          · simp only [h4, false_and, if_false] at hp
            simp only [h4, decide_false, cond_false]
            exact hR _ (by simp) hp
    | some l =>
      simp only [Option.getD_some] at ho
      have k8 : okN 8 (l.length + 1) = true := okN_spec' (by omega) (by simp only [maxLen]; omega)
      by_cases h1 : fd = 1
      · subst h1
        simp only [pu18, po18, e10, e12, if_true, if_false, Option.bind_some, false_and, Option.getD_some] at hp
        simp only [oCase, joinC, decide_true, decide_false, e10, e12, cond_true, cond_false, k8, ble_self, Bool.and_true, List.take_length, takeL_succ, List.length_append, List.length_cons, List.length_nil, Nat.zero_add, eqN_self]
        exact hR _ (by simp; omega) hp
      · by_cases h3 : fd = 2
        · subst h3
          simp only [pu18, po18, e21, e20, if_true, if_false, false_and] at hp
          by_cases hl : l = []
          · simp only [hl, if_true] at hp
            cases hp
          · simp only [hl, if_false, Option.bind_some] at hp
            have hl0 : 0 < l.length := List.length_pos_iff.2 hl
            have q1 : isub .i64 (Int.ofNat l.length) 1 = ((l.length - 1 : Nat) : Int) := by
              show isub .i64 (l.length : Int) 1 = _
              rw [isub_of _ _ (by omega) (by omega)]; omega
            have q2 : inS 0 ((l.length - 1 : Nat) : Int) l.length = true := by
              have := inS_nat 0 (l.length - 1) l.length
              simp only [Nat.zero_le, decide_true, Bool.true_and] at this
              rw [show (0 : Int) = ((0 : Nat) : Int) from rfl, this]
              exact decide_eq_true (by omega)
            have q3 : l.dropLast.length = l.length - 1 := List.length_dropLast
            simp only [oCase, joinC, decide_true, decide_false, e21, e20, cond_true, cond_false, take_all, eqN_self, q1, q2, Int.toNat_natCast, takeL_pred, q3]
            have q4 : takeL (l.length - 1) l.dropLast = l.dropLast := by rw [← q3, take_all]
            simp only [q4, q3, eqN_self, cond_true]
            exact hR _ (by simp; omega) hp
        · simp only [pu18, po18, h1, h3, if_false, Option.bind_some] at hp
          simp only [oCase, joinC, h1, h3, decide_false, cond_false, take_all, eqN_self, cond_true]
          by_cases h4 : fd = 0
          · simp only [h4, true_and] at hp
            simp only [h4, decide_true, cond_true]
            by_cases h5 : n = x
            · simp only [h5, if_true, rq18] at hp
              injection hp with hp
              simp only [h5, decide_true, cond_true, ble_self, take_all, ← hp]
            · simp only [h5, if_false] at hp
              simp only [h5, decide_false, cond_false]
              exact hR _ (by simp; omega) hp
          · simp only [h4, false_and, if_false] at hp
            simp only [h4, decide_false, cond_false]
            exact hR _ (by simp; omega) hp
  · rw [List.drop_eq_nil_of_le (by omega)] at hp
    simp only [pR] at hp
    injection hp with hp
    subst hp
    cases o <;> simp only [oCase, hlt, decide_false, cond_false]

mutual
theorem pR_T (x : Int) (l : List Int) : ∀ (t : Nd) (r : List PieceT), wfT t → pR x (flT t ++ r) (some l) = if (paT x t).2 = true then some (false, l ++ (paT x t).1) else pR x r (some l)
  | .mk k a ks => fun r h => by
    simp only [wfT] at h
    rcases h with ⟨rfl, _, _, rfl⟩ | ⟨h1, _, _, h4⟩
    · have e01 : ¬ (0 : Int) = 1 := by decide
      have e02 : ¬ (0 : Int) = 2 := by decide
      simp only [flT, if_true, paT, List.cons_append, List.nil_append, pR, pu18, po18, e01, e02, if_false, Option.bind_some, true_and, rq18, decide_eq_true_eq, List.append_nil]
    · have e10 : ¬ (1 : Int) = 0 := by decide
      have e12 : ¬ (1 : Int) = 2 := by decide
      have e20 : ¬ (2 : Int) = 0 := by decide
      have e21 : ¬ (2 : Int) = 1 := by decide
      have hk : ¬ k = 0 := by omega
      have ih := pR_K x k l ks (⟨2, 0⟩ :: r) h4
      simp only [flT, hk, if_false, paT, List.cons_append, pR, pu18, po18, e10, e12, if_true, Option.bind_some, false_and, Option.getD_some, List.append_assoc, List.nil_append]
      rw [ih]
      split
      · rfl
      · simp only [pR, pu18, po18, e20, e21, if_true, if_false, false_and]
        rw [if_neg (by simp)]
        simp
theorem pR_K (x k : Int) (l : List Int) : ∀ (ks : List Nd) (r : List PieceT), wfK ks → pR x (flK ks ++ r) (some (l ++ [k])) = if (paK x k ks).2 = true then some (false, l ++ (paK x k ks).1) else pR x r (some (l ++ [k]))
  | [], r, h => by simp only [flK, paK, List.nil_append]; rfl
  | t :: rs, r, h => by
    simp only [wfK] at h
    have h1 := pR_T x (l ++ [k]) t (flK rs ++ r) h.1
    have h2 := pR_K x k l rs r h.2
    simp only [flK, paK, List.append_assoc]
    rw [List.append_assoc] at h1
    rw [h1]
    split
    · simp
    · exact h2
end
theorem pR_top (x : Int) (t : Nd) (h : wfT t) : ∃ b, pR x (flT t) none = some (b, (paT x t).1) := by
  obtain ⟨k, a, ks⟩ := t
  simp only [wfT] at h
  rcases h with ⟨rfl, _, _, rfl⟩ | ⟨h1, _, _, h4⟩
  · have e01 : ¬ (0 : Int) = 1 := by decide
    have e02 : ¬ (0 : Int) = 2 := by decide
    refine ⟨true, ?_⟩
    simp only [flT, if_true, paT, pR, pu18, po18, e01, e02, if_false, Option.bind_some, true_and, rq18]
    split <;> rfl
  · have e10 : ¬ (1 : Int) = 0 := by decide
    have e12 : ¬ (1 : Int) = 2 := by decide
    have e20 : ¬ (2 : Int) = 0 := by decide
    have e21 : ¬ (2 : Int) = 1 := by decide
    have hk : ¬ k = 0 := by omega
    have ih := pR_K x k [] ks [⟨2, 0⟩] h4
    simp only [flT, hk, if_false, paT, pR, pu18, po18, e10, e12, if_true, Option.bind_some, false_and, Option.getD_none]
    simp only [List.nil_append] at ih ⊢
    rw [ih]
    split
    · exact ⟨_, rfl⟩
    · rename_i h5
      refine ⟨true, ?_⟩
      rw [paK_no x k ks (by simpa using h5)]
      simp [pR, pu18, po18]

mutual
theorem lfP_T : ∀ (t : Nd) (r : List PieceT), lfP (flT t ++ r) = lfP (flT t) ++ lfP r
  | t, r => lfP_app (flT t) r
theorem lfP_app : ∀ (a r : List PieceT), lfP (a ++ r) = lfP a ++ lfP r
  | [], r => rfl
  | p :: a, r => by
    simp only [List.cons_append, lfP, lfP_app a r]
    split <;> simp
end

/- The contracts of the document's answers, at what is a tree. -/
structure IsTree (s : List UInt8) (t : Nd) : Prop where
  len : s.length ≤ 4000
  pr : prT t = s
  wf : wfT t
  rd : ∃ d, rdTq s = some (t, [], d)
theorem isTree_of {s : List UInt8} (h : (readR s).2 = 0) : IsTree s (readR s).1 := by
  obtain ⟨h1, h2, h3, h4⟩ := readR_ok h
  exact ⟨h1, h2, h3, h4⟩
theorem IsTree.sz {s : List UInt8} {t : Nd} (h : IsTree s t) : szT t ≤ 4000 := by
  have h1 := szT_pr t h.wf
  rw [h.pr] at h1
  have := h.len
  omega
theorem IsTree.fl {s : List UInt8} {t : Nd} (h : IsTree s t) : (flT t).length ≤ 8000 := by
  have := flT_len t
  have := h.sz
  omega
theorem IsTree.pcs {s : List UInt8} {t : Nd} (h : IsTree s t) : ∃ d, c26 (s, ()) = some (flT t, d, true, ()) := by
  obtain ⟨d, hd⟩ := h.rd
  have hp := pieces_eq s
  rw [hd] at hp
  have hl : s.length ≤ 100000 := by have := h.len; omega
  refine ⟨(d : Int), ?_⟩
  have : c26 (s, ()) = some ((mIq [] 0 0 s).1, ((mIq [] 0 0 s).2.1 : Int), (mIq [] 0 0 s).2.2, ()) := if_pos hl
  rw [this, hp]
  rfl
open Classical in
noncomputable def c17 (x : List UInt8 × Unit) : Option (List Int × Unit) := if h : ∃ t, IsTree x.1 t then some (lfP (flT h.choose), ()) else none
open Classical in
noncomputable def c18 (x : List UInt8 × Int × Unit) : Option ((Bool × List Int) × Unit) := if h : ∃ t, IsTree x.1 t then (pR x.2.1 (flT h.choose) none).map (·, ()) else none
open Classical in
noncomputable def c19 (x : List UInt8 × Int × Unit) : Option (Int × Unit) := if h : ∃ t, IsTree x.1 t then some ((((flT h.choose).countP (isP x.2.1) : Nat) : Int), ()) else none
theorem IsTree.uniq {s : List UInt8} {t t' : Nd} (h : IsTree s t) (h' : IsTree s t') : t = t' := by
  obtain ⟨d, hd⟩ := h.rd
  obtain ⟨d', hd'⟩ := h'.rd
  rw [hd] at hd'
  injection hd' with e
  injection e
theorem c17_of {s : List UInt8} {t : Nd} (h : IsTree s t) : c17 (s, ()) = some (lfP (flT t), ()) := by
  have hx : ∃ t, IsTree s t := ⟨t, h⟩
  unfold c17
  rw [dif_pos hx, hx.choose_spec.uniq h]
theorem c18_of {s : List UInt8} {t : Nd} (h : IsTree s t) (x : Int) : ∃ b, c18 (s, x, ()) = some ((b, (paT x t).1), ()) := by
  have hx : ∃ t, IsTree s t := ⟨t, h⟩
  obtain ⟨b, hb⟩ := pR_top x t h.wf
  refine ⟨b, ?_⟩
  unfold c18
  rw [dif_pos hx, hx.choose_spec.uniq h, hb]
  rfl
theorem c19_of {s : List UInt8} {t : Nd} (h : IsTree s t) (x : Int) : c19 (s, x, ()) = some ((((flT t).countP (isP x) : Nat) : Int), ()) := by
  have hx : ∃ t, IsTree s t := ⟨t, h⟩
  unfold c19
  rw [dif_pos hx, hx.choose_spec.uniq h]
theorem sub17 (s : List UInt8) (y : List Int × Unit) (h : c17 (s, ()) = some y) : sh17 1000001 c26 (fun _ => false) s = some y := by
  by_cases hx : ∃ t, IsTree s t
  · obtain ⟨t, ht⟩ := hx
    rw [c17_of ht] at h
    injection h with h
    subst h
    obtain ⟨d, hd⟩ := ht.pcs
    have := ht.fl
    exact sh17_spec _ _ s _ _ _ hd (by omega) (by omega)
  · unfold c17 at h
    rw [dif_neg hx] at h
    cases h
theorem ok17 : ConOk CC Tryd.prog 17 ⟨as17, rs17, c17⟩ := (con17 1000001 c26 ok26).sub fun x y h => sub17 x.1 y h
theorem sub18 (s : List UInt8) (x : Int) (y : (Bool × List Int) × Unit) (h : c18 (s, x, ()) = some y) : sh18 1000001 c26 (fun _ => false) s x = some y := by
  by_cases hx : ∃ t, IsTree s t
  · obtain ⟨t, ht⟩ := hx
    obtain ⟨b, hb⟩ := c18_of ht x
    rw [hb] at h
    injection h with h
    subst h
    obtain ⟨d, hd⟩ := ht.pcs
    have := ht.fl
    have hb' : pR x (flT t) none = some (b, (paT x t).1) := by
      have hx : ∃ t, IsTree s t := ⟨t, ht⟩
      unfold c18 at hb
      rw [dif_pos hx, hx.choose_spec.uniq ht] at hb
      cases hq : pR x (flT t) none with
      | none => rw [hq] at hb; cases hb
      | some q =>
        rw [hq] at hb
        injection hb with hb
        injection hb with hb
        rw [hb]
    exact sh18_spec _ _ s x _ _ _ _ hd hb' (by omega) (by omega)
  · unfold c18 at h
    rw [dif_neg hx] at h
    cases h
theorem ok18 : ConOk CC Tryd.prog 18 ⟨as18, rs18, c18⟩ := (con18 1000001 c26 ok26).sub fun x y h => sub18 x.1 x.2.1 y h
theorem sub19 (s : List UInt8) (x : Int) (y : Int × Unit) (h : c19 (s, x, ()) = some y) : sh19 1000001 c26 (fun _ => false) s x = some y := by
  by_cases hx : ∃ t, IsTree s t
  · obtain ⟨t, ht⟩ := hx
    rw [c19_of ht] at h
    injection h with h
    subst h
    obtain ⟨d, hd⟩ := ht.pcs
    have := ht.fl
    exact sh19_spec _ _ s x _ _ _ hd (by omega) (by omega)
  · unfold c19 at h
    rw [dif_neg hx] at h
    cases h
theorem ok19 : ConOk CC Tryd.prog 19 ⟨as19, rs19, c19⟩ := (con19 1000001 c26 ok26).sub fun x y h => sub19 x.1 x.2.1 y h
end Go.Proofs.YtegibhjgldpndaaDoor
