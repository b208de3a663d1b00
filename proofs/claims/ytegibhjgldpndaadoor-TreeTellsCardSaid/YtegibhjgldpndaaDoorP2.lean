/-
  Trees in texts: they are read; they are printed; their pieces. Plain Lean.
-/
import Derived.Test.YtegibhjgldpndaaDoorP1
import Derived.Test.YtegibhjgldpndaaDoorT
set_option linter.unusedVariables false
set_option linter.unusedSimpArgs false
namespace Go.Proofs.YtegibhjgldpndaaDoor

mutual
/-- A tree that a text begins with; what stands behind it; how deep it is. -/
def rdT : Nat → List UInt8 → Option (Nd × List UInt8 × Nat)
  | 0, _ => none
  | n + 1, s => if s.head? = some 40 then
      (if numOk (dgs s.tail) 1 99 = true then
        match rdK n (s.tail.drop (dgs s.tail).length) with
        | none => none
        | some (ks, r, d) => some (.mk (valF 0 (dgs s.tail) : Int) 0 ks, r, d + 1)
      else none)
    else if numOk (dgs s) 0 9999 = true then some (.mk 0 (valF 0 (dgs s) : Int) [], s.drop (dgs s).length, 0) else none
/-- What stands up to a bracket's end. -/
def rdK : Nat → List UInt8 → Option (List Nd × List UInt8 × Nat)
  | 0, _ => none
  | n + 1, s => if s.head? = some 32 then
      (match rdT n s.tail with
      | none => none
      | some (t, r, d) => match rdK n r with
        | none => none
        | some (ks, r', d') => some (t :: ks, r', max d d'))
    else if s.head? = some 41 then some ([], s.tail, 0) else none
end

theorem numOk_ne {l : List UInt8} {lo hi : Nat} (h : numOk l lo hi = true) : 0 < l.length := by
  cases l with
  | nil => simp [numOk] at h
  | cons _ _ => simp
theorem numOk_val {l : List UInt8} {lo hi : Nat} (h : numOk l lo hi = true) : lo ≤ valF 0 l ∧ valF 0 l ≤ hi := by
  unfold numOk at h
  simp only [Bool.and_eq_true, decide_eq_true_eq] at h
  exact h.2
theorem drop_lt {s : List UInt8} {lo hi : Nat} (h : numOk (dgs s) lo hi = true) : (s.drop (dgs s).length).length < s.length := by
  have h1 := numOk_ne h
  have h2 := dgs_len s
  rw [List.length_drop]; omega
theorem tail_lt {s : List UInt8} {c : UInt8} (h : s.head? = some c) : s.tail.length < s.length := by
  cases s with
  | nil => simp at h
  | cons x r => simp
theorem head_tail {s : List UInt8} {c : UInt8} (h : s.head? = some c) : s = c :: s.tail := by
  cases s with
  | nil => simp at h
  | cons x r => simp at h; simp [h]

theorem rd_len : ∀ n, (∀ s t r d, rdT n s = some (t, r, d) → r.length < s.length ∧ d < s.length) ∧ (∀ s ks r d, rdK n s = some (ks, r, d) → r.length < s.length ∧ d < s.length)
  | 0 => ⟨fun s t r d h => by simp [rdT] at h, fun s t r d h => by simp [rdK] at h⟩
  | n + 1 => by
    obtain ⟨ih1, ih2⟩ := rd_len n
    refine ⟨fun s t r d h => ?_, fun s ks r d h => ?_⟩
    · unfold rdT at h
      split at h
      · rename_i h1
        have ht := tail_lt h1
        split at h
        · rename_i h2
          have hd := drop_lt h2
          split at h
          · cases h
          · rename_i ks r' d' hk
            injection h with h
            injection h with h3 h4
            injection h4 with h4 h5
            subst h4; subst h5
            have := ih2 _ _ _ _ hk
            omega
        · cases h
      · split at h
        · rename_i h2
          have hd := drop_lt h2
          injection h with h
          injection h with h3 h4
          injection h4 with h4 h5
          subst h4; subst h5
          omega
        · cases h
    · unfold rdK at h
      split at h
      · rename_i h1
        have ht := tail_lt h1
        split at h
        · cases h
        · rename_i t r1 d1 h2
          split at h
          · cases h
          · rename_i ks' r2 d2 h3
            injection h with h
            injection h with h4 h5
            injection h5 with h5 h6
            subst h5; subst h6
            have q1 := ih1 _ _ _ _ h2
            have q2 := ih2 _ _ _ _ h3
            omega
      · split at h
        · rename_i h1
          have ht := tail_lt h1
          injection h with h
          injection h with h4 h5
          injection h5 with h5 h6
          subst h5; subst h6
          omega
        · cases h

/-- How much fuel there is does not matter. -/
theorem rd_fuel : ∀ N, ∀ s : List UInt8, s.length < N → ∀ n m, s.length < n → s.length < m → rdT n s = rdT m s ∧ rdK n s = rdK m s
  | 0, s, h => by omega
  | N + 1, s, h => by
    intro n m hn hm
    obtain ⟨n, rfl⟩ : ∃ k, n = k + 1 := ⟨n - 1, by omega⟩
    obtain ⟨m, rfl⟩ : ∃ k, m = k + 1 := ⟨m - 1, by omega⟩
    have ih := rd_fuel N
    constructor
    · unfold rdT
      split
      · rename_i h1
        have ht := tail_lt h1
        split
        · rename_i h2
          have hd := drop_lt h2
          rw [(ih _ (by omega) n m (by omega) (by omega)).2]
        · rfl
      · rfl
    · unfold rdK
      split
      · rename_i h1
        have ht := tail_lt h1
        rw [(ih _ (by omega) n m (by omega) (by omega)).1]
        split
        · rfl
        · rename_i t r d h2
          have := (rd_len m).1 _ _ _ _ h2
          rw [(ih _ (by omega) n m (by omega) (by omega)).2]
      · rfl

def rdTq (s : List UInt8) : Option (Nd × List UInt8 × Nat) := rdT (s.length + 1) s
def rdKq (s : List UInt8) : Option (List Nd × List UInt8 × Nat) := rdK (s.length + 1) s
theorem rdT_q {n : Nat} {s : List UInt8} (h : s.length < n) : rdT n s = rdTq s := (rd_fuel (s.length + 1) s (by omega) n _ h (by omega)).1
theorem rdK_q {n : Nat} {s : List UInt8} (h : s.length < n) : rdK n s = rdKq s := (rd_fuel (s.length + 1) s (by omega) n _ h (by omega)).2
theorem rdTq_len {s : List UInt8} {t : Nd} {r : List UInt8} {d : Nat} (h : rdTq s = some (t, r, d)) : r.length < s.length ∧ d < s.length := (rd_len _).1 _ _ _ _ h
theorem rdKq_len {s : List UInt8} {t : List Nd} {r : List UInt8} {d : Nat} (h : rdKq s = some (t, r, d)) : r.length < s.length ∧ d < s.length := (rd_len _).2 _ _ _ _ h

theorem rdTq_eq (s : List UInt8) : rdTq s = if s.head? = some 40 then
      (if numOk (dgs s.tail) 1 99 = true then
        match rdKq (s.tail.drop (dgs s.tail).length) with
        | none => none
        | some (ks, r, d) => some (.mk (valF 0 (dgs s.tail) : Int) 0 ks, r, d + 1)
      else none)
    else if numOk (dgs s) 0 9999 = true then some (.mk 0 (valF 0 (dgs s) : Int) [], s.drop (dgs s).length, 0) else none := by
  conv => lhs; unfold rdTq rdT
  split
  · rename_i h1
    have ht := tail_lt h1
    split
    · rename_i h2
      have hd := drop_lt h2
      rw [rdK_q (by omega)]
    · rfl
  · rfl
theorem rdKq_eq (s : List UInt8) : rdKq s = if s.head? = some 32 then
      (match rdTq s.tail with
      | none => none
      | some (t, r, d) => match rdKq r with
        | none => none
        | some (ks, r', d') => some (t :: ks, r', max d d'))
    else if s.head? = some 41 then some ([], s.tail, 0) else none := by
  conv => lhs; unfold rdKq rdK
  split
  · rename_i h1
    have ht := tail_lt h1
    rw [rdT_q (by omega)]
    split
    · rfl
    · rename_i t r d h2
      have := rdTq_len h2
      rw [rdK_q (by omega)]
  · rfl

/- What is printed; the pieces; what is well made. -/
mutual
def prT : Nd → List UInt8
  | .mk k a ks => if k = 0 then Lib.itoa a else 40 :: (Lib.itoa k ++ (prK ks ++ [41]))
def prK : List Nd → List UInt8
  | [] => []
  | t :: r => 32 :: (prT t ++ prK r)
end
mutual
def flT : Nd → List PieceT
  | .mk k a ks => if k = 0 then [⟨0, a⟩] else ⟨1, k⟩ :: (flK ks ++ [⟨2, 0⟩])
def flK : List Nd → List PieceT
  | [] => []
  | t :: r => flT t ++ flK r
end
mutual
def wfT : Nd → Prop
  | .mk k a ks => (k = 0 ∧ 0 ≤ a ∧ a ≤ 9999 ∧ ks = []) ∨ (1 ≤ k ∧ k ≤ 99 ∧ a = 0 ∧ wfK ks)
def wfK : List Nd → Prop
  | [] => True
  | t :: r => wfT t ∧ wfK r
end
/- How many nodes. -/
mutual
def szT : Nd → Nat
  | .mk _ _ ks => 1 + szK ks
def szK : List Nd → Nat
  | [] => 0
  | t :: r => szT t + szK r
end

theorem rd_print : ∀ n, (∀ s t r d, rdT n s = some (t, r, d) → s = prT t ++ r ∧ wfT t) ∧ (∀ s ks r d, rdK n s = some (ks, r, d) → s = prK ks ++ 41 :: r ∧ wfK ks)
  | 0 => ⟨fun s t r d h => by simp [rdT] at h, fun s t r d h => by simp [rdK] at h⟩
  | n + 1 => by
    obtain ⟨ih1, ih2⟩ := rd_print n
    refine ⟨fun s t r d h => ?_, fun s ks r d h => ?_⟩
    · unfold rdT at h
      split at h
      · rename_i h1
        have ht := head_tail h1
        split at h
        · rename_i h2
          split at h
          · cases h
          · rename_i ks r' d' hk
            injection h with h
            injection h with h3 h4
            injection h4 with h4 h5
            subst h3; subst h4; subst h5
            obtain ⟨q1, q2⟩ := ih2 _ _ _ _ hk
            have hv := numOk_val h2
            refine ⟨?_, .inr ⟨by omega, by omega, rfl, q2⟩⟩
            unfold prT
            rw [if_neg (by omega), itoa_numOk (allD_dgs _) h2]
            have hs := dgs_split s.tail
            rw [q1] at hs
            have e : s = 40 :: (dgs s.tail ++ (prK ks ++ 41 :: r')) := by rw [hs]; exact ht
            exact e.trans (by simp)
        · cases h
      · split at h
        · rename_i h2
          injection h with h
          injection h with h3 h4
          injection h4 with h4 h5
          subst h3; subst h4; subst h5
          have hv := numOk_val h2
          refine ⟨?_, .inl ⟨rfl, by omega, by omega, rfl⟩⟩
          unfold prT
          rw [if_pos rfl, itoa_numOk (allD_dgs _) h2]
          exact (dgs_split s).symm
        · cases h
    · unfold rdK at h
      split at h
      · rename_i h1
        have ht := head_tail h1
        split at h
        · cases h
        · rename_i t r1 d1 h2
          split at h
          · cases h
          · rename_i ks' r2 d2 h3
            injection h with h
            injection h with h4 h5
            injection h5 with h5 h6
            subst h4; subst h5; subst h6
            obtain ⟨p1, p2⟩ := ih1 _ _ _ _ h2
            obtain ⟨q1, q2⟩ := ih2 _ _ _ _ h3
            refine ⟨?_, p2, q2⟩
            rw [ht, p1, q1]
            simp [prK]
      · split at h
        · rename_i h1
          have ht := head_tail h1
          injection h with h
          injection h with h4 h5
          injection h5 with h5 h6
          subst h4; subst h5; subst h6
          exact ⟨by rw [prK, List.nil_append]; exact ht, trivial⟩
        · cases h

/- The walk over the pieces. -/
def bad : List PieceT × Nat × Bool := ([], 0, false)
mutual
def mI : Nat → List PieceT → Nat → Nat → List UInt8 → List PieceT × Nat × Bool
  | 0, _, _, _, _ => bad
  | n + 1, out, k, dp, s => if s.head? = some 40 then
      (if numOk (dgs s.tail) 1 99 = true then mC n (out ++ [⟨1, (valF 0 (dgs s.tail) : Int)⟩]) (k + 1) (max dp (k + 1)) (s.tail.drop (dgs s.tail).length) else bad)
    else if numOk (dgs s) 0 9999 = true then mC n (out ++ [⟨0, (valF 0 (dgs s) : Int)⟩]) k dp (s.drop (dgs s).length) else bad
def mC : Nat → List PieceT → Nat → Nat → List UInt8 → List PieceT × Nat × Bool
  | 0, _, _, _, _ => bad
  | n + 1, out, k, dp, s => if k = 0 then (out, dp, s.isEmpty)
    else if s.head? = some 41 then mC n (out ++ [⟨2, 0⟩]) (k - 1) dp s.tail
    else if s.head? = some 32 then mI n out k dp s.tail else bad
end
theorem m_fuel : ∀ N, ∀ s : List UInt8, s.length < N → ∀ n m out k dp, s.length < n → s.length < m → mI n out k dp s = mI m out k dp s ∧ mC n out k dp s = mC m out k dp s
  | 0, s, h => by omega
  | N + 1, s, h => by
    intro n m out k dp hn hm
    obtain ⟨n, rfl⟩ : ∃ k, n = k + 1 := ⟨n - 1, by omega⟩
    obtain ⟨m, rfl⟩ : ∃ k, m = k + 1 := ⟨m - 1, by omega⟩
    have ih := m_fuel N
    constructor
    · unfold mI
      split
      · rename_i h1
        have ht := tail_lt h1
        split
        · rename_i h2
          have hd := drop_lt h2
          rw [(ih _ (by omega) n m _ _ _ (by omega) (by omega)).2]
        · rfl
      · split
        · rename_i h2
          have hd := drop_lt h2
          rw [(ih _ (by omega) n m _ _ _ (by omega) (by omega)).2]
        · rfl
    · unfold mC
      split
      · rfl
      · split
        · rename_i h1
          have ht := tail_lt h1
          rw [(ih _ (by omega) n m _ _ _ (by omega) (by omega)).2]
        · split
          · rename_i h1
            have ht := tail_lt h1
            rw [(ih _ (by omega) n m _ _ _ (by omega) (by omega)).1]
          · rfl
def mIq (out : List PieceT) (k dp : Nat) (s : List UInt8) : List PieceT × Nat × Bool := mI (s.length + 1) out k dp s
def mCq (out : List PieceT) (k dp : Nat) (s : List UInt8) : List PieceT × Nat × Bool := mC (s.length + 1) out k dp s
theorem mI_q {n : Nat} {s : List UInt8} (h : s.length < n) (out : List PieceT) (k dp : Nat) : mI n out k dp s = mIq out k dp s := (m_fuel (s.length + 1) s (by omega) n _ out k dp h (by omega)).1
theorem mC_q {n : Nat} {s : List UInt8} (h : s.length < n) (out : List PieceT) (k dp : Nat) : mC n out k dp s = mCq out k dp s := (m_fuel (s.length + 1) s (by omega) n _ out k dp h (by omega)).2
theorem mIq_eq (out : List PieceT) (k dp : Nat) (s : List UInt8) : mIq out k dp s = if s.head? = some 40 then
      (if numOk (dgs s.tail) 1 99 = true then mCq (out ++ [⟨1, (valF 0 (dgs s.tail) : Int)⟩]) (k + 1) (max dp (k + 1)) (s.tail.drop (dgs s.tail).length) else bad)
    else if numOk (dgs s) 0 9999 = true then mCq (out ++ [⟨0, (valF 0 (dgs s) : Int)⟩]) k dp (s.drop (dgs s).length) else bad := by
  conv => lhs; unfold mIq mI
  split
  · rename_i h1
    have ht := tail_lt h1
    split
    · rename_i h2
      have hd := drop_lt h2
      rw [mC_q (by omega)]
    · rfl
  · split
    · rename_i h2
      have hd := drop_lt h2
      rw [mC_q (by omega)]
    · rfl
theorem mCq_eq (out : List PieceT) (k dp : Nat) (s : List UInt8) : mCq out k dp s = if k = 0 then (out, dp, s.isEmpty)
    else if s.head? = some 41 then mCq (out ++ [⟨2, 0⟩]) (k - 1) dp s.tail
    else if s.head? = some 32 then mIq out k dp s.tail else bad := by
  conv => lhs; unfold mCq mC
  split
  · rfl
  · split
    · rename_i h1
      have ht := tail_lt h1
      rw [mC_q (by omega)]
    · split
      · rename_i h1
        have ht := tail_lt h1
        rw [mI_q (by omega)]
      · rfl

/-- THE WALK OVER THE PIECES READS TREES. -/
theorem m_rd : ∀ N, ∀ s : List UInt8, s.length < N → (∀ out k dp, k ≤ dp → mIq out k dp s = match rdTq s with
      | none => bad
      | some (t, r, d) => mCq (out ++ flT t) k (max dp (k + d)) r) ∧
    (∀ out k dp, k + 1 ≤ dp → mCq out (k + 1) dp s = match rdKq s with
      | none => bad
      | some (ks, r, d) => mCq (out ++ (flK ks ++ [⟨2, 0⟩])) k (max dp (k + 1 + d)) r)
  | 0, s, h => by omega
  | N + 1, s, h => by
    have ih := m_rd N
    constructor
    · intro out k dp hk
      rw [mIq_eq, rdTq_eq]
      split
      · rename_i h1
        have ht := tail_lt h1
        split
        · rename_i h2
          have hd := drop_lt h2
          have hv := numOk_val h2
          rw [(ih _ (by omega)).2 _ _ _ (by omega)]
          split
          · rename_i h3; first | rfl | (rw [h3])
          · rename_i ks r d h3
            try rw [h3]
            simp only [flT]
            rw [if_neg (by omega)]
            have e1 : max (max dp (k + 1)) (k + 1 + d) = max dp (k + (d + 1)) := by omega
            rw [e1]
            simp
        · rfl
      · split
        · simp only [flT, if_true, Nat.add_zero]
          have e1 : max dp k = dp := by omega
          rw [e1]
        · rfl
    · intro out k dp hk
      rw [mCq_eq, rdKq_eq, if_neg (by omega)]
      by_cases h32 : s.head? = some 32
      · have h41 : ¬ s.head? = some 41 := by rw [h32]; simp
        have ht := tail_lt h32
        rw [if_neg h41, if_pos h32, if_pos h32, (ih _ (by omega)).1 _ _ _ hk]
        split
        · rename_i h3; first | rfl | (rw [h3])
        · rename_i t r d h3
          try rw [h3]
          have hl := rdTq_len h3
          try simp only
          rw [(ih _ (by omega)).2 _ _ _ (by omega)]
          split
          · rename_i h4; first | rfl | (rw [h4])
          · rename_i ks r' d' h4
            try rw [h4]
            simp only [flK]
            have e1 : max (max dp (k + 1 + d)) (k + 1 + d') = max dp (k + 1 + max d d') := by omega
            rw [e1]
            simp
      · rw [if_neg h32, if_neg h32]
        split
        · simp only [flK, List.nil_append, Nat.add_zero]
          have e1 : max dp (k + 1) = dp := by omega
          have e2 : k + 1 - 1 = k := by omega
          rw [e1, e2]
        · rfl

/-- A text's pieces: those of the tree that it is. -/
theorem pieces_eq (s : List UInt8) : mIq [] 0 0 s = match rdTq s with
    | none => bad
    | some (t, r, d) => (flT t, d, r.isEmpty) := by
  rw [(m_rd (s.length + 1) s (by omega)).1 [] 0 0 (by omega)]
  split
  · rfl
  · rename_i t r d h
    rw [mCq_eq, if_pos rfl]
    simp
end Go.Proofs.YtegibhjgldpndaaDoor
