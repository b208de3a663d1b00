/-
  The statements on leaves, paths and counts, on what is made, moved, and whole.
-/
import Derived.Test.YtegibhjgldpndaaDoorP9
set_option linter.unusedVariables false
set_option linter.unusedSimpArgs false
namespace Go.Proofs.YtegibhjgldpndaaDoor
open Go.Al Go.Den

theorem ilt_dec (a b : Int) : ilt a b = decide (a < b) := rfl
theorem lvI_app (a b : List Nd) : lvI (a ++ b) = lvI a ++ lvI b := by simp [lvI]
theorem lvI_leaf (a : Int) (ks r : List Nd) : lvI (.mk 0 a ks :: r) = a :: lvI r := by simp [lvI, Nd.kind, Nd.tok]
theorem lvI_node (k a : Int) (ks r : List Nd) (h : k ≠ 0) : lvI (.mk k a ks :: r) = lvI r := by simp [lvI, Nd.kind, h]
theorem lvI_nil : lvI [] = [] := rfl
theorem lvI_len (l : List Nd) : (lvI l).length ≤ l.length := by
  unfold lvI; rw [List.length_map]; exact List.length_filter_le _ _
theorem leaves_len (t : Nd) : (lvI (allT t)).length ≤ szT t := by
  have := lvI_len (allT t)
  rw [allT_sz] at this
  exact this

mutual
theorem lf_T : ∀ t : Nd, wfT t → lfP (flT t) = lvI (allT t)
  | .mk k a ks => fun h => by
    simp only [wfT] at h
    rcases h with ⟨rfl, _, _, rfl⟩ | ⟨h1, _, _, h4⟩
    · simp only [flT, if_true, lfP, allT, allK, lvI_leaf, lvI_nil]
    · have hk : k ≠ 0 := by omega
      have e10 : ¬ (1 : Int) = 0 := by decide
      have e20 : ¬ (2 : Int) = 0 := by decide
      simp only [flT, if_neg hk, lfP, if_neg e10, lfP_app, if_neg e20, List.append_nil, allT, lvI_node _ _ _ _ hk]
      exact lf_K ks h4
theorem lf_K : ∀ ks : List Nd, wfK ks → lfP (flK ks) = lvI (allK ks)
  | [], _ => rfl
  | t :: r, h => by
    simp only [wfK] at h
    simp only [flK, lfP_app, allK, lvI_app, lf_T t h.1, lf_K r h.2]
end
theorem fd_app (x : Int) (a b : List Nd) : ((a ++ b).filter fun t => t.kind == x).length = (a.filter fun t => t.kind == x).length + (b.filter fun t => t.kind == x).length := by simp
mutual
theorem cn_T (x : Int) : ∀ t : Nd, wfT t → (flT t).countP (isP x) = ((allT t).filter fun t => t.kind == x).length
  | .mk k a ks => fun h => by
    simp only [wfT] at h
    rcases h with ⟨rfl, _, _, rfl⟩ | ⟨h1, _, _, h4⟩
    · by_cases hx : x = 0
      · subst hx; rfl
      · have e2 : ((0 : Int) == x) = false := beq_eq_false_iff_ne.2 (fun e => hx e.symm)
        simp only [flT, if_true, allT, allK, List.countP_cons, List.countP_nil, List.filter_cons, List.filter_nil, Nd.kind, e2, isP]
        simp [hx]
    · have hk : k ≠ 0 := by omega
      have ih := cn_K x ks h4
      have e2 : isP x ⟨2, 0⟩ = false := by simp [isP]
      have e1 : isP x ⟨1, k⟩ = (k == x) := by simp [isP]; rfl
      simp only [flT, if_neg hk, allT, List.countP_cons, List.countP_append, List.countP_nil, List.filter_cons, Nd.kind, e1, e2, ih]
      by_cases hx : k = x
      · simp [hx]
      · have e3 : (k == x) = false := beq_eq_false_iff_ne.2 hx
        simp [e3]
theorem cn_K (x : Int) : ∀ ks : List Nd, wfK ks → (flK ks).countP (isP x) = ((allK ks).filter fun t => t.kind == x).length
  | [], _ => rfl
  | t :: r, h => by
    simp only [wfK] at h
    simp only [flK, List.countP_append, allK, fd_app, cn_T x t h.1, cn_K x r h.2]
end
mutual
theorem mv_T (x : Int) : ∀ t : Nd, wfT t → lvI (allT (mvT x t)) = (lvI (allT t)).map fun a => iadd .i64 a x
  | .mk k a ks => fun h => by
    simp only [wfT] at h
    rcases h with ⟨rfl, _, _, rfl⟩ | ⟨h1, _, _, h4⟩
    · simp only [mvT, if_true, allT, allK, lvI_leaf, lvI_nil, List.map_cons, List.map_nil]
    · have hk : k ≠ 0 := by omega
      simp only [mvT, if_neg hk, allT, lvI_node _ _ _ _ hk]
      exact mv_K x ks h4
theorem mv_K (x : Int) : ∀ ks : List Nd, wfK ks → lvI (allK (mvK x ks)) = (lvI (allK ks)).map fun a => iadd .i64 a x
  | [], _ => rfl
  | t :: r, h => by
    simp only [wfK] at h
    simp only [mvK, allK, lvI_app, List.map_append, mv_T x t h.1, mv_K x r h.2]
end
mutual
theorem ms_T (x : Int) : ∀ t : Nd, wfT t → szT (mvT x t) = szT t
  | .mk k a ks => fun h => by
    simp only [wfT] at h
    rcases h with ⟨rfl, _, _, rfl⟩ | ⟨h1, _, _, h4⟩
    · simp only [mvT, if_true, szT, szK]
    · have hk : k ≠ 0 := by omega
      simp only [mvT, if_neg hk, szT, ms_K x ks h4]
theorem ms_K (x : Int) : ∀ ks : List Nd, wfK ks → szK (mvK x ks) = szK ks
  | [], _ => rfl
  | t :: r, h => by
    simp only [wfK] at h
    simp only [mvK, szK, ms_T x t h.1, ms_K x r h.2]
end
theorem back1 (a x : Int) (h0 : 0 ≤ a) (h1 : a ≤ 9999) (h2 : -9999 ≤ x) (h3 : x ≤ 9999) : iadd .i64 (iadd .i64 a x) (-x) = a := by
  rw [iadd_of a x (by omega) (by omega), iadd_of _ _ (by omega) (by omega)]; omega
mutual
theorem bk_T (x : Int) (h2 : -9999 ≤ x) (h3 : x ≤ 9999) : ∀ t : Nd, wfT t → mvT (-x) (mvT x t) = t
  | .mk k a ks => fun h => by
    simp only [wfT] at h
    rcases h with ⟨rfl, q1, q2, rfl⟩ | ⟨h1, _, rfl, h4⟩
    · simp only [mvT, if_true, back1 a x q1 q2 h2 h3]
    · have hk : k ≠ 0 := by omega
      simp only [mvT, if_neg hk, bk_K x h2 h3 ks h4]
theorem bk_K (x : Int) (h2 : -9999 ≤ x) (h3 : x ≤ 9999) : ∀ ks : List Nd, wfK ks → mvK (-x) (mvK x ks) = ks
  | [], _ => rfl
  | t :: r, h => by
    simp only [wfK] at h
    simp only [mvK, bk_T x h2 h3 t h.1, bk_K x h2 h3 r h.2]
end
mutual
theorem rg_T : ∀ t : Nd, wfT t → ∀ a ∈ lvI (allT t), 0 ≤ a ∧ a ≤ 9999
  | .mk k a ks => fun h => by
    simp only [wfT] at h
    rcases h with ⟨rfl, q1, q2, rfl⟩ | ⟨h1, _, rfl, h4⟩
    · simp only [allT, allK, lvI_leaf, lvI_nil]
      intro b hb
      simp only [List.mem_cons, List.not_mem_nil, or_false] at hb
      subst hb; exact ⟨q1, q2⟩
    · have hk : k ≠ 0 := by omega
      simp only [allT, lvI_node _ _ _ _ hk]
      exact rg_K ks h4
theorem rg_K : ∀ ks : List Nd, wfK ks → ∀ a ∈ lvI (allK ks), 0 ≤ a ∧ a ≤ 9999
  | [], _ => fun a h => by simp [allK, lvI] at h
  | t :: r, h => fun a ha => by
    simp only [wfK] at h
    simp only [allK, lvI_app] at ha
    rcases List.mem_append.1 ha with ha | ha
    · exact rg_T t h.1 a ha
    · exact rg_K r h.2 a ha
end

/-- One behind the other. -/
def rgF : Nat → List Int → Bool
  | _, [] => true
  | i, x :: r => decide ((i : Int) = x) && rgF (i + 1) r
theorem rgF_app : ∀ (a b : List Int) (i : Nat), rgF i (a ++ b) = (rgF i a && rgF (i + a.length) b)
  | [], b, i => by simp [rgF]
  | x :: a, b, i => by
    simp only [List.cons_append, rgF, rgF_app a b (i + 1), List.length_cons, Bool.and_assoc]
    rw [show i + 1 + a.length = i + (a.length + 1) from by omega]
theorem rgF_map (n : Nat) (hn : n ≤ 1000000) : ∀ (l : List Int) (i : Nat), (∀ a ∈ l, 0 ≤ a ∧ a ≤ 9999) → rgF (i + n) (l.map fun a => iadd .i64 a (n : Int)) = rgF i l
  | [], i, _ => rfl
  | x :: l, i, h => by
    have hx := h x (by simp)
    simp only [List.map_cons, rgF]
    rw [show i + n + 1 = i + 1 + n from by omega, rgF_map n hn l (i + 1) (fun a ha => h a (by simp [ha])), iadd_of x n (by omega) (by omega)]
    congr 1
    exact decide_eq_decide.2 (by omega)

theorem sh23_spec (fu : Nat) (nf : Nat → Bool) (t : Nd) (x : Int) (l : List Int) (h13 : c13 (t, ()) = some (l, ())) (hfu : l.length < fu) (hb : l.length ≤ 1000000) : sh23 fu c13 nf t x = some (rgF 0 l && ieq (lenI l) x, ()) := by
  unfold sh23
  rw [nd_eta, h13]
  simp only [Option.bind_some]
  refine iter_ind (fun s => ∃ j : Nat, s = ((j : Int), ()) ∧ j ≤ l.length ∧ rgF 0 l = rgF j (l.drop j)) (fun s => l.length - s.1.toNat) ?_ fu _ ⟨0, rfl, Nat.zero_le _, rfl⟩ (by simp only; omega)
  rintro rec s ⟨j, rfl, hj, hp⟩ hrec
  have k2 : ilt (j : Int) (lenI l) = decide (j < l.length) := ilt_nat _ _
  have k3 : inB (j : Int) l.length = decide (j < l.length) := inB_nat _ _
  simp only [k2, k3, Int.toNat_natCast]
  by_cases hlt : j < l.length
  · simp only [hlt, decide_true, cond_true, getD_lt _ _ _ hlt, ine_dec]
    rw [List.drop_eq_getElem_cons hlt] at hp
    simp only [rgF] at hp
    by_cases he : (j : Int) = l[j]
    · simp only [he, decide_true, Bool.not_true, cond_false] at hp ⊢
      rw [← he, iadd_one j (by omega)]
      exact hrec _ ⟨j + 1, rfl, hlt, by rw [hp, Bool.true_and]⟩ (by simp only [Int.toNat_natCast]; omega)
    · simp only [he, decide_false, Bool.not_false, cond_true, Bool.false_and] at hp ⊢
      rw [hp]; rfl
  · rw [List.drop_eq_nil_of_le (by omega)] at hp
    simp only [rgF] at hp
    simp only [hlt, decide_false, cond_false, hp, Bool.true_and]
def c23 (x : Nd × Int × Unit) : Option (Bool × Unit) := if szT x.1 ≤ 1000000 then some (rgF 0 (lvI (allT x.1)) && ieq (lenI (lvI (allT x.1))) x.2.1, ()) else none
theorem c13_of {t : Nd} (h : szT t ≤ 1000000) : c13 (t, ()) = some (lvI (allT t), ()) := by
  unfold c13; exact if_pos (by show (allT t).length ≤ _; rw [allT_sz]; exact h)
theorem sub23 (t : Nd) (x : Int) (y : Bool × Unit) (h : c23 (t, x, ()) = some y) : sh23 1000001 c13 (fun _ => false) t x = some y := by
  unfold c23 at h
  split at h
  · rename_i h1
    injection h with h
    subst h
    replace h1 : szT t ≤ 1000000 := h1
    have := leaves_len t
    exact sh23_spec _ _ t x (lvI (allT t)) (c13_of h1) (by omega) (by omega)
  · cases h
theorem ok23 : ConOk CC Tryd.prog 23 ⟨as23, rs23, c23⟩ := (con23 1000001 c13 ok13).sub fun x y h => sub23 x.1 x.2.1 y h

theorem c15_of {t : Nd} (h : szT t ≤ 1000000) (x : Int) : c15 (t, x, ()) = some (fdT t x, ()) := by
  unfold c15; exact if_pos (by show (allT t).length ≤ _; rw [allT_sz]; exact h)
theorem c14_of {t : Nd} (h : szT t < 1000000) (x : Int) : c14 (t, x, ()) = some ((paT x t).1, ()) := by
  unfold c14; exact if_pos h
theorem c16_of {l : List Int} (h : l.length ≤ 1000000) : c16 (l, l, ()) = some (true, ()) := by
  unfold c16
  rw [if_pos h]
  simp
theorem c20_of {t u : Nd} (h : szT t < 1000000) : c20 (t, u, ()) = some (eqT t u, ()) := by
  unfold c20 c20n; exact if_pos h
theorem c22_of {t : Nd} (h : szT t < 1000000) (x : Int) : c22 (t, x, ()) = some (mvT x t, ()) := by
  unfold c22 c22n; exact if_pos h
theorem fdT_len (t : Nd) (x : Int) : (fdT t x).length ≤ szT t := by
  unfold fdT
  rw [← allT_sz]; exact List.length_filter_le _ _

/- What is told of a tree. -/
theorem sh4_true (fu : Nat) (hfu : 10000 ≤ fu) (nf : Nat → Bool) (s : List UInt8) (at' kd : Int) : sh4 fu c9 c10 c13 c14 c15 c16 c17 c18 c19 nf s at' kd = some (true, ()) := by
  have e10 : c10 (s, ()) = some ((readR s).1, (readR s).2, ()) := rfl
  unfold sh4
  simp only [c9, e10, Option.bind_some, nd_eta, ine_dec]
  by_cases h : (readR s).2 = 0
  · have ht := isTree_of h
    generalize (readR s).1 = t at ht
    have hs := ht.sz
    have hlv := leaves_len t
    have hpl := paT_len at' t
    have hfl := fdT_len t kd
    have e13 : c13 (t, ()) = some (lvI (allT t), ()) := c13_of (by omega)
    have e14 : c14 (t, at', ()) = some ((paT at' t).1, ()) := c14_of (by omega) at'
    have e15 : c15 (t, kd, ()) = some (fdT t kd, ()) := c15_of (by omega) kd
    have e17 : c17 (s, ()) = some (lvI (allT t), ()) := by rw [c17_of ht, lf_T t ht.wf]
    obtain ⟨b, e18⟩ := c18_of ht at'
    have e19 : c19 (s, kd, ()) = some (lenI (fdT t kd), ()) := by rw [c19_of ht, cn_T kd t ht.wf]; rfl
    have e16 : c16 (lvI (allT t), lvI (allT t), ()) = some (true, ()) := c16_of (by omega)
    have e16' : c16 ((paT at' t).1, (paT at' t).1, ()) = some (true, ()) := c16_of (by omega)
    simp only [h, decide_true, Bool.not_true, cond_false, e13, e14, e15, Option.bind_some]
    refine iter_ind (fun s => ∃ j : Nat, s = ((j : Int), ()) ∧ j ≤ (fdT t kd).length) (fun s => (fdT t kd).length - s.1.toNat) ?_ fu _ ⟨0, rfl, Nat.zero_le _⟩ (by simp only; omega)
    rintro rec s' ⟨j, rfl, hj⟩ hrec
    have k2 : ilt (j : Int) (lenI (fdT t kd)) = decide (j < (fdT t kd).length) := ilt_nat _ _
    have k3 : inB (j : Int) (fdT t kd).length = decide (j < (fdT t kd).length) := inB_nat _ _
    simp only [k2, k3, Int.toNat_natCast]
    by_cases hlt : j < (fdT t kd).length
    · have hk : ((fdT t kd)[j]).kind = kd := by
        have hm : (fdT t kd)[j] ∈ fdT t kd := List.getElem_mem hlt
        have := (List.mem_filter.1 hm).2
        simpa using this
      simp only [hlt, decide_true, cond_true, getD_lt _ _ _ hlt, hk, Bool.not_true, cond_false]
      rw [iadd_one j (by omega)]
      exact hrec _ ⟨j + 1, rfl, hlt⟩ (by simp only [Int.toNat_natCast]; omega)
    · simp only [hlt, decide_false, cond_false, cond_true, e17, e16, Option.bind_some, e18, e16', e19, ieq_dec, decide_true]
  · simp only [h, decide_false, Bool.not_false, cond_true]
theorem ok4 : ConOk CC Tryd.prog 4 ⟨as4, rs4, fun _ => some (true, ())⟩ := (con4 1000001 c9 ok9 c10 ok10 c13 ok13 c14 ok14 c15 ok15 c16 ok16 c17 ok17 c18 ok18 c19 ok19).sub fun x y h => by
  have h2 : y = (true, ()) := by injection h with h; exact h.symm
  rw [h2]
  exact sh4_true 1000001 (by decide) _ x.1 x.2.1 x.2.2.1

/- What is moved. -/
theorem sh7_true (fu : Nat) (hfu : 10000 ≤ fu) (nf : Nat → Bool) (s : List UInt8) (x : Int) : sh7 fu c9 c10 c13 c17 c20 c22 nf s x = some (true, ()) := by
  have e10 : c10 (s, ()) = some ((readR s).1, (readR s).2, ()) := rfl
  unfold sh7
  simp only [c9, e10, Option.bind_some, ine_dec, ilt_dec]
  by_cases h : (readR s).2 = 0
  · by_cases hlo : x < -9999
    · have hlo' : x < Neg.neg 9999 := hlo
      simp only [h, hlo', decide_true, Bool.not_true, cond_false, cond_true]
    · by_cases hhi : 9999 < x
      · have hlo' : ¬ x < Neg.neg 9999 := hlo
        simp only [h, hlo', hhi, decide_true, decide_false, Bool.not_true, cond_false, cond_true]
      · have hlo' : ¬ x < Neg.neg 9999 := hlo
        have ht := isTree_of h
        generalize (readR s).1 = t at ht
        have hs := ht.sz
        have hlv := leaves_len t
        have hrg := rg_T t ht.wf
        have hms := ms_T x t ht.wf
        have e17 : c17 (s, ()) = some (lvI (allT t), ()) := by rw [c17_of ht, lf_T t ht.wf]
        have e22 : c22 (t, x, ()) = some (mvT x t, ()) := c22_of (by omega) x
        have en : isub .i64 0 x = -x := by rw [isub_of _ _ (by omega) (by omega)]; omega
        have e22' : c22 (mvT x t, -x, ()) = some (t, ()) := by rw [c22_of (by omega), bk_T x (by omega) (by omega) t ht.wf]
        have e20 : c20 (t, t, ()) = some (true, ()) := by rw [c20_of (by omega), (eqT_iff t t).2 rfl]
        have e13 : c13 (t, ()) = some (lvI (allT t), ()) := c13_of (by omega)
        have e13' : c13 (mvT x t, ()) = some ((lvI (allT t)).map (fun a => iadd .i64 a x), ()) := by rw [c13_of (by omega), mv_T x t ht.wf]
        generalize lvI (allT t) = L at hlv hrg e17 e13 e13'
        obtain ⟨k, a, ks⟩ := t
        simp only [h, hlo', hhi, decide_true, decide_false, Bool.not_true, cond_false, e17, Option.bind_some, Nd.kind, Nd.tok, Nd.kids]
        refine iter_ind (fun s => ∃ j : Nat, s = ((k, (a, (ks, ()))), ((j : Int), ())) ∧ j ≤ L.length) (fun s => L.length - s.2.1.toNat) ?_ fu _ ⟨0, rfl, Nat.zero_le _⟩ (by simp only; omega)
        rintro rec s' ⟨j, rfl, hj⟩ hrec
        have k2 : decide ((j : Int) < lenI L) = decide (j < L.length) := ilt_nat _ _
        have k3 : inB (j : Int) L.length = decide (j < L.length) := inB_nat _ _
        simp only [k2, k3, Int.toNat_natCast]
        by_cases hlt : j < L.length
        · have hr := hrg L[j] (List.getElem_mem hlt)
          simp only [hlt, decide_true, cond_true, getD_lt _ _ _ hlt]
          by_cases q1 : iadd .i64 L[j] x < 0
          · simp only [q1, decide_true, cond_true]
          · by_cases q2 : 9999 < iadd .i64 L[j] x
            · simp only [q1, q2, decide_true, decide_false, cond_true, cond_false]
            · simp only [q1, q2, decide_false, cond_false]
              rw [iadd_one j (by omega)]
              exact hrec _ ⟨j + 1, rfl, hlt⟩ (by simp only [Int.toNat_natCast]; omega)
        · have hm : ∀ u : Nd, Nd.mk u.kind u.tok u.kids = u := nd_eta
          simp only [Nd.kind, Nd.tok, Nd.kids] at hm
          have hlen : lenI L = lenI (L.map fun a => iadd .i64 a x) := by unfold lenI; rw [List.length_map]
          simp only [hlt, decide_false, cond_false, e22, Option.bind_some, hm, en, e22', e20, e13, e13', hlen, decide_true, Bool.not_true]
          refine iter_ind (fun s => ∃ j : Nat, s = ((j : Int), ()) ∧ j ≤ L.length) (fun s => L.length - s.1.toNat) ?_ fu _ ⟨0, rfl, Nat.zero_le _⟩ (by simp only; omega)
          rintro rec2 s2 ⟨j2, rfl, hj2⟩ hrec2
          rw [← hlen]
          have k4 : decide ((j2 : Int) < lenI L) = decide (j2 < L.length) := ilt_nat _ _
          have k5 : inB (j2 : Int) L.length = decide (j2 < L.length) := inB_nat _ _
          have k6 : inB (j2 : Int) (L.map fun a => iadd .i64 a x).length = decide (j2 < L.length) := by rw [List.length_map]; exact k5
          simp only [k4, k5, k6, Int.toNat_natCast]
          by_cases hlt2 : j2 < L.length
          · have hlt3 : j2 < (L.map fun a => iadd .i64 a x).length := by rw [List.length_map]; exact hlt2
            simp only [hlt2, decide_true, cond_true, getD_lt _ _ _ hlt2, getD_lt _ _ _ hlt3, List.getElem_map, Bool.not_true, cond_false]
            rw [iadd_one j2 (by omega)]
            exact hrec2 _ ⟨j2 + 1, rfl, hlt2⟩ (by simp only [Int.toNat_natCast]; omega)
          · simp only [hlt2, decide_false, cond_false, cond_true]
  · simp only [h, decide_false, Bool.not_false, cond_true]
theorem ok7 : ConOk CC Tryd.prog 7 ⟨as7, rs7, fun _ => some (true, ())⟩ := (con7 1000001 c9 ok9 c10 ok10 c13 ok13 c17 ok17 c20 ok20 c22 ok22).sub fun x y h => by
  have h2 : y = (true, ()) := by injection h with h; exact h.symm
  rw [h2]
  exact sh7_true 1000001 (by decide) _ x.1 x.2.1

theorem c23_of {t : Nd} (h : szT t ≤ 1000000) (x : Int) : c23 (t, x, ()) = some (rgF 0 (lvI (allT t)) && ieq (lenI (lvI (allT t))) x, ()) := by
  unfold c23; exact if_pos h
theorem c11_of (s : List UInt8) : c11 (s, ()) = some ((readR s).2, ()) := rfl

/- What is whole. -/
theorem sh8_true (fu : Nat) (hfu : 10000 ≤ fu) (nf : Nat → Bool) (s u : List UInt8) (x : Int) : sh8 fu c9 c10 c11 c13 c17 c21 c22 c23 nf s u x = some (true, ()) := by
  have e10 : ∀ s, c10 (s, ()) = some ((readR s).1, (readR s).2, ()) := fun s => rfl
  unfold sh8
  simp only [c9, e10, c11_of, Option.bind_some, ine_dec, ilt_dec]
  by_cases h : (readR s).2 = 0
  · by_cases h' : (readR u).2 = 0
    · have ht := isTree_of h
      have ht' := isTree_of h'
      have hsl := ht.len
      have hul := ht'.len
      have o1 : okS (3 + s.length) = true := okS_of (by omega)
      have o2 : okS (([40, 55, 32] ++ s).length + 1) = true := okS_of (by simp only [List.length_append, List.length_cons, List.length_nil]; omega)
      have o3 : okS (([40, 55, 32] ++ s ++ [32]).length + u.length) = true := okS_of (by simp only [List.length_append, List.length_cons, List.length_nil]; omega)
      have o4 : okS (([40, 55, 32] ++ s ++ [32] ++ u).length + 1) = true := okS_of (by simp only [List.length_append, List.length_cons, List.length_nil]; omega)
      simp only [h, h', decide_true, Bool.not_true, cond_false, o1, o2, o3, o4, cond_true]
      by_cases hw : (readR ([40, 55, 32] ++ s ++ [32] ++ u ++ [41])).2 = 0
      · generalize (readR s).1 = t at ht
        generalize (readR u).1 = t' at ht'
        have hs := ht.sz
        have hs' := ht'.sz
        have hlv := leaves_len t
        have hlv' := leaves_len t'
        have hrg := rg_T t ht.wf
        have hrg' := rg_T t' ht'.wf
        have e17 : c17 (u, ()) = some (lvI (allT t'), ()) := by rw [c17_of ht', lf_T t' ht'.wf]
        have e23 : ∀ y, c23 (t, y, ()) = some (rgF 0 (lvI (allT t)) && ieq (lenI (lvI (allT t))) y, ()) := fun y => c23_of (by omega) y
        have e23' : ∀ y, c23 (t', y, ()) = some (rgF 0 (lvI (allT t')) && ieq (lenI (lvI (allT t'))) y, ()) := fun y => c23_of (by omega) y
        have e13 : c13 (t, ()) = some (lvI (allT t), ()) := c13_of (by omega)
        have e13' : c13 (t', ()) = some (lvI (allT t'), ()) := c13_of (by omega)
        have e22 : c22 (t', lenI (lvI (allT t)), ()) = some (mvT (lenI (lvI (allT t))) t', ()) := c22_of (by omega) _
        have e21 : ∀ l, c21 (7, l, ()) = some (.mk 7 0 l, ()) := fun l => rfl
        have hms := ms_T (lenI (lvI (allT t))) t' ht'.wf
        have hL : lvI (allT (.mk 7 0 [t, mvT (lenI (lvI (allT t))) t'])) = lvI (allT t) ++ (lvI (allT t')).map (fun a => iadd .i64 a (lenI (lvI (allT t)))) := by
          simp only [allT, allK, lvI_node _ _ _ _ (show (7 : Int) ≠ 0 by decide), lvI_app, lvI_nil, List.append_nil, mv_T _ t' ht'.wf]
        have e23n : ∀ y, c23 (.mk 7 0 [t, mvT (lenI (lvI (allT t))) t'], y, ()) = some (rgF 0 (lvI (allT t) ++ (lvI (allT t')).map (fun a => iadd .i64 a (lenI (lvI (allT t))))) && ieq (lenI (lvI (allT t) ++ (lvI (allT t')).map (fun a => iadd .i64 a (lenI (lvI (allT t)))))) y, ()) := fun y => by
          rw [c23_of (by simp only [szT, szK]; omega), hL]
        have hrm := rgF_map (lvI (allT t)).length (by omega) (lvI (allT t')) 0 hrg'
        generalize lvI (allT t) = L at *
        generalize lvI (allT t') = M at *
        obtain ⟨k, a, ks⟩ := t
        obtain ⟨k', a', ks'⟩ := t'
        have hm : ∀ u : Nd, Nd.mk u.kind u.tok u.kids = u := nd_eta
        simp only [Nd.kind, Nd.tok, Nd.kids] at hm
        simp only [hw, decide_true, Bool.not_true, cond_false, e17, Option.bind_some, Nd.kind, Nd.tok, Nd.kids]
        refine iter_ind (fun s => ∃ j : Nat, s = ((k, (a, (ks, ()))), ((k', (a', (ks', ()))), ((j : Int), ()))) ∧ j ≤ M.length) (fun s => M.length - s.2.2.1.toNat) ?_ fu _ ⟨0, rfl, Nat.zero_le _⟩ (by simp only; omega)
        rintro rec s' ⟨j, rfl, hj⟩ hrec
        have k2 : decide ((j : Int) < lenI M) = decide (j < M.length) := ilt_nat _ _
        have k3 : inB (j : Int) M.length = decide (j < M.length) := inB_nat _ _
        simp only [k2, k3, Int.toNat_natCast]
        by_cases hlt : j < M.length
        · simp only [hlt, decide_true, cond_true, getD_lt _ _ _ hlt]
          by_cases q2 : 7000 < M[j]
          · simp only [q2, decide_true, cond_true]
          · simp only [q2, decide_false, cond_false]
            rw [iadd_one j (by omega)]
            exact hrec _ ⟨j + 1, rfl, hlt⟩ (by simp only [Int.toNat_natCast]; omega)
        · simp only [hlt, decide_false, cond_false, e23, e13, e13', Option.bind_some]
          refine iter_ind (fun s => ∃ j : Nat, s = ((k, (a, (ks, ()))), ((k', (a', (ks', ()))), ((ieq (lenI L) x && rgF 0 (L.take j)), ((j : Int), ())))) ∧ j ≤ L.length) (fun s => L.length - s.2.2.2.1.toNat) ?_ fu _ ⟨0, by simp [rgF], Nat.zero_le _⟩ (by simp only; omega)
          rintro rec2 s2 ⟨j2, rfl, hj2⟩ hrec2
          have k4 : decide ((j2 : Int) < lenI L) = decide (j2 < L.length) := ilt_nat _ _
          have k5 : inB (j2 : Int) L.length = decide (j2 < L.length) := inB_nat _ _
          simp only [k4, k5, Int.toNat_natCast]
          by_cases hlt2 : j2 < L.length
          · simp only [hlt2, decide_true, cond_true, getD_lt _ _ _ hlt2]
            rw [iadd_one j2 (by omega)]
            have hst : rgF 0 (L.take (j2 + 1)) = (rgF 0 (L.take j2) && ieq L[j2] j2) := by
              rw [take_snoc L j2 hlt2, rgF_app]
              simp only [rgF, List.length_take, Nat.min_eq_left (Nat.le_of_lt hlt2), Nat.zero_add, Bool.and_true, ieq_dec]
              congr 1
              exact decide_eq_decide.2 ⟨fun e => e.symm, fun e => e.symm⟩
            cases hc : (ieq (lenI L) x && rgF 0 (L.take j2)) with
            | true =>
              simp only [cond_true]
              refine hrec2 _ ⟨j2 + 1, ?_, hlt2⟩ (by simp only [Int.toNat_natCast]; omega)
              rw [hst, ← Bool.and_assoc, hc, Bool.true_and]
            | false =>
              simp only [cond_false]
              refine hrec2 _ ⟨j2 + 1, ?_, hlt2⟩ (by simp only [Int.toNat_natCast]; omega)
              rw [hst, ← Bool.and_assoc, hc, Bool.false_and]
          · have hj3 : j2 = L.length := by omega
            subst hj3
            have hsum : iadd .i64 (lenI L) (lenI M) = lenI (L ++ M.map (fun a => iadd .i64 a (lenI L))) := by
              unfold lenI
              rw [iadd_of _ _ (by omega) (by omega), List.length_append, List.length_map]; omega
            have hrm' : rgF (0 + L.length) (M.map fun a => iadd .i64 a (lenI L)) = rgF 0 M := hrm
            simp only [hlt2, decide_false, cond_false, e23, e23', e22, e21, Option.bind_some, hm, e23n, hsum, ieq_dec, decide_true, Bool.and_true, List.take_length, cond_true, rgF_app, hrm']
            have e1 : beqB (rgF 0 L && decide (lenI L = x)) (decide (lenI L = x) && rgF 0 L) = true := by
              unfold beqB; rw [Bool.and_comm]; exact beq_self_eq_true _
            rw [e1]
            cases rgF 0 L with
            | false => rfl
            | true =>
              simp only [Bool.not_true, cond_false, cond_true, Bool.true_and]
              have e2 : beqB (rgF 0 M) (rgF 0 M) = true := by unfold beqB; exact beq_self_eq_true _
              rw [e2]
      · simp only [hw, decide_false, Bool.not_false, cond_true]
    · simp only [h, h', decide_true, decide_false, Bool.not_true, Bool.not_false, cond_false, cond_true]
  · simp only [h, decide_false, Bool.not_false, cond_true]
theorem ok8 : ConOk CC Tryd.prog 8 ⟨as8, rs8, fun _ => some (true, ())⟩ := (con8 1000001 c9 ok9 c10 ok10 c11 ok11 c13 ok13 c17 ok17 c21 ok21 c22 ok22 c23 ok23).sub fun x y h => by
  have h2 : y = (true, ()) := by injection h with h; exact h.symm
  rw [h2]
  exact sh8_true 1000001 (by decide) _ x.1 x.2.1 x.2.2.1

/- What is made. -/
theorem dec_len (u : Nat) : (Lib.decDigits u).length ≤ u + 1 := by
  induction u using Nat.strongRecOn with
  | ind u ih =>
    rw [Lib.decDigits]
    split
    · simp
    · have := ih (u / 10) (by omega)
      simp only [List.length_append, List.length_cons, List.length_nil]; omega
theorem itoa_len (n : Nat) : (Lib.itoa (n : Int)).length ≤ n + 1 := by rw [Lib.itoa_nonneg]; exact dec_len n
theorem sh6_true (fu : Nat) (hfu : 10000 ≤ fu) (nf : Nat → Bool) (s u : List UInt8) (x : Int) : sh6 fu c9 c10 c11 c12 c15 c21 nf s u x = some (true, ()) := by
  have e10 : ∀ s, c10 (s, ()) = some ((readR s).1, (readR s).2, ()) := fun s => rfl
  have e21 : ∀ k l, c21 (k, l, ()) = some (.mk k 0 l, ()) := fun k l => rfl
  unfold sh6
  simp only [c9, e10, c11_of, e21, Option.bind_some, ine_dec, ilt_dec, nd_eta]
  by_cases h : (readR s).2 = 0
  · by_cases h' : (readR u).2 = 0
    · by_cases hlo : x < 1
      · simp only [h, h', hlo, decide_true, Bool.not_true, cond_false, cond_true]
      · by_cases hhi : 99 < x
        · simp only [h, h', hlo, hhi, decide_true, decide_false, Bool.not_true, cond_false, cond_true]
        · have ht := isTree_of h
          have ht' := isTree_of h'
          have hsl := ht.len
          have hul := ht'.len
          have o1 : okS (4 + s.length) = true := okS_of (by omega)
          have o2 : okS (([40, 57, 57, 32] ++ s).length + 1) = true := okS_of (by simp only [List.length_append, List.length_cons, List.length_nil]; omega)
          have o3 : okS (([40, 57, 57, 32] ++ s ++ [32]).length + u.length) = true := okS_of (by simp only [List.length_append, List.length_cons, List.length_nil]; omega)
          have o4 : okS (([40, 57, 57, 32] ++ s ++ [32] ++ u).length + 1) = true := okS_of (by simp only [List.length_append, List.length_cons, List.length_nil]; omega)
          simp only [h, h', hlo, hhi, decide_true, decide_false, Bool.not_true, cond_false, o1, o2, o3, o4, cond_true]
          by_cases hw : (readR ([40, 57, 57, 32] ++ s ++ [32] ++ u ++ [41])).2 = 0
          · generalize (readR s).1 = t at ht
            generalize (readR u).1 = t' at ht'
            have hs := ht.sz
            have hs' := ht'.sz
            have hx0 : x ≠ 0 := by omega
            obtain ⟨n, rfl⟩ : ∃ n : Nat, x = (n : Int) := ⟨x.toNat, by omega⟩
            have hil := itoa_len n
            have hpr : prT (.mk (n : Int) 0 [t, t']) = 40 :: (Lib.itoa n ++ (32 :: (s ++ 32 :: u) ++ [41])) := by
              simp only [prT, if_neg hx0, prK, ht.pr, ht'.pr, List.append_nil]
            have hpr0 : prT (.mk (n : Int) 0 []) = 40 :: (Lib.itoa n ++ [41]) := by simp only [prT, if_neg hx0, prK, List.nil_append]
            have hpl : (prT (.mk (n : Int) 0 [t, t'])).length = (Lib.itoa n).length + s.length + u.length + 4 := by
              rw [hpr]; simp only [List.length_append, List.length_cons, List.length_nil]; omega
            have e12 : c12 (.mk (n : Int) 0 [t, t'], ()) = some (prT (.mk (n : Int) 0 [t, t']), ()) := c12_of (by simp only [wfT, wfK]; exact .inr ⟨by omega, by omega, trivial, ht.wf, ht'.wf, trivial⟩) (by simp only [szT, szK]; omega) (by omega)
            have e12' : c12 (.mk (n : Int) 0 [], ()) = some (40 :: (Lib.itoa n ++ [41]), ()) := by
              rw [c12_of (by simp only [wfT, wfK]; exact .inr ⟨by omega, by omega, trivial, trivial⟩) (by simp only [szT, szK]; omega) (by rw [hpr0]; simp only [List.length_append, List.length_cons, List.length_nil]; omega), hpr0]
            have e15 : ∀ y, c15 (t, y, ()) = some (fdT t y, ()) := fun y => c15_of (by omega) y
            have e15' : ∀ y, c15 (t', y, ()) = some (fdT t' y, ()) := fun y => c15_of (by omega) y
            have e15n : ∀ y, c15 (.mk (n : Int) 0 [t, t'], y, ()) = some (fdT (.mk (n : Int) 0 [t, t']) y, ()) := fun y => c15_of (by simp only [szT, szK]; omega) y
            have hfd : lenI (fdT (.mk (n : Int) 0 [t, t']) n) = lenI (fdT t n) + lenI (fdT t' n) + 1 := by
              have e : fdT (.mk (n : Int) 0 [t, t']) n = .mk (n : Int) 0 [t, t'] :: (fdT t n ++ fdT t' n) := by
                unfold fdT
                simp [allT, allK, List.filter_cons, Nd.kind]
              rw [e]
              unfold lenI
              simp only [List.length_cons, List.length_append]
              omega
            have hf1 := fdT_len t n
            have hf2 := fdT_len t' n
            have hadd : iadd .i64 (iadd .i64 (lenI (fdT t n)) (lenI (fdT t' n))) 1 = lenI (fdT t n) + lenI (fdT t' n) + 1 := by
              unfold lenI
              rw [iadd_of (((fdT t n).length : Int)) _ (by omega) (by omega), iadd_of _ _ (by omega) (by omega)]
            have hle : lenI (40 :: (Lib.itoa n ++ [41])) = (((Lib.itoa n).length + 2 : Nat) : Int) := by
              unfold lenI; simp only [List.length_cons, List.length_append, List.length_nil]
            have hsub : isub .i64 (((Lib.itoa n).length + 2 : Nat) : Int) 1 = (((Lib.itoa n).length + 1 : Nat) : Int) := by
              rw [isub_of _ _ (by omega) (by omega)]; omega
            have hin : inS 0 (((Lib.itoa n).length + 1 : Nat) : Int) (40 :: (Lib.itoa n ++ [41])).length = true := by
              have := inS_nat 0 ((Lib.itoa n).length + 1) (40 :: (Lib.itoa n ++ [41])).length
              rw [show (0 : Int) = ((0 : Nat) : Int) from rfl, this]
              simp only [List.length_cons, List.length_append, List.length_nil]
              simp
            have hcut : cutL (40 :: (Lib.itoa n ++ [41])) 0 (((Lib.itoa n).length + 1 : Nat) : Int) = 40 :: Lib.itoa n := by
              unfold cutL
              simp
            have hne : seq (40 :: (Lib.itoa n ++ [41])) [] = false := rfl
            have p1 : okS ((40 :: Lib.itoa n).length + 1) = true := okS_of (by simp only [List.length_cons]; omega)
            have p2 : okS ((40 :: Lib.itoa n ++ [32]).length + s.length) = true := okS_of (by simp only [List.length_append, List.length_cons, List.length_nil]; omega)
            have p3 : okS ((40 :: Lib.itoa n ++ [32] ++ s).length + 1) = true := okS_of (by simp only [List.length_append, List.length_cons, List.length_nil]; omega)
            have p4 : okS ((40 :: Lib.itoa n ++ [32] ++ s ++ [32]).length + u.length) = true := okS_of (by simp only [List.length_append, List.length_cons, List.length_nil]; omega)
            have p5 : okS ((40 :: Lib.itoa n ++ [32] ++ s ++ [32] ++ u).length + 1) = true := okS_of (by simp only [List.length_append, List.length_cons, List.length_nil]; omega)
            have hfin : prT (.mk (n : Int) 0 [t, t']) = 40 :: Lib.itoa n ++ [32] ++ s ++ [32] ++ u ++ [41] := by
              rw [hpr]; simp
            simp only [hw, decide_true, Bool.not_true, cond_false, e12, e12', Option.bind_some, hne, e15, e15', e15n, cond_true, hle, hsub, hin, hcut, p1, p2, p3, p4, p5, hfin, seq_self, hfd, hadd, ieq_dec]
          · simp only [hw, decide_false, Bool.not_false, cond_true]
    · simp only [h, h', decide_true, decide_false, Bool.not_true, Bool.not_false, cond_false, cond_true]
  · simp only [h, decide_false, Bool.not_false, cond_true]
theorem ok6 : ConOk CC Tryd.prog 6 ⟨as6, rs6, fun _ => some (true, ())⟩ := (con6 1000001 c9 ok9 c10 ok10 c11 ok11 c12 ok12 c15 ok15 c21 ok21).sub fun x y h => by
  have h2 : y = (true, ()) := by injection h with h; exact h.symm
  rw [h2]
  exact sh6_true 1000001 (by decide) _ x.1 x.2.1 x.2.2.1
end Go.Proofs.YtegibhjgldpndaaDoor
