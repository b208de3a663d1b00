/-
  DEN, part 10: functions: contracts, calls that are run through, A FUNCTION'S CONTRACT OUT OF ITS RUN. General: no program in sight.
-/
import Derived.Test.YtdedkemkmccliaaD9
set_option linter.unusedVariables false
set_option linter.unusedSimpArgs false
namespace Go.Den
open Go.Al

/-- Kinds of arguments and results. -/
inductive AK (U : TyU) where
  | int (k : IntKind)
  | bool
  | str
  | ls (i : U.I)
  | dl (i : U.I)
  | bl (i : U.I)
  | st (i : U.I)

def denA {U : TyU} : AK U → Type
  | .int _ => Int
  | .bool => Bool
  | .str => List UInt8
  | .ls i => List (U.den i)
  | .dl i => List (U.den i)
  | .bl i => Bool × List (U.den i)
  | .st i => U.den i
def denAs {U : TyU} : List (AK U) → Type
  | [] => Unit
  | a :: r => denA a × denAs r

/-- A contract: of a function that leaves memory alone. -/
structure Con (U : TyU) where
  as : List (AK U)
  rs : List (AK U)
  fn : denAs as → Option (denAs rs)

/-- A function's text. -/
structure FD (U : TyU) where
  fi : FI U
  body : Code
  n : Nat
  rs : List ResultVar

section
variable {U : TyU} (C : Cod U) (Tb : TypeId → TD U) {R : Type}

/-- An argument; the Bool tells whether a slice is nil. -/
def argT : (a : AK U) → Bool → denA a → T U
  | .int k, _, x => .int k x
  | .bool, _, x => .bool x
  | .str, _, x => .str x
  | .ls i, n, x => .lst (.b n) i x
  | .dl i, _, x => .lst .dl i x
  | .bl i, _, x => .lst (.b x.1) i x.2
  | .st i, _, x => C.enc i x
def argTs : (as : List (AK U)) → (Nat → Bool) → Nat → denAs as → List (T U)
  | [], _, _, _ => []
  | a :: r, nf, j, x => argT C a (nf j) x.1 :: argTs r nf (j + 1) x.2

/-- How an argument reads. -/
def ArgV : (a : AK U) → denA a → V → Prop
  | .ls i, x, v => ∃ n : Bool, v = .lst (if n then .nil else .no) (x.map (C.encV i))
  | a, x, v => v = trT C ⟨id, id, id, id⟩ (argT C a false x)
def ArgVs : (as : List (AK U)) → denAs as → List V → Prop
  | [], _, vs => vs = []
  | a :: r, x, vs => ∃ v vs', vs = v :: vs' ∧ ArgV C a x.1 v ∧ ArgVs r x.2 vs'

/-- Read as an argument, or as a result. -/
def decA : (a : AK U) → T U → (denA a → Option R) → Option R
  | .int k, v, K => (match v with | .int k' n => bif decide (k' = k) then K n else none | _ => none)
  | .bool, v, K => (match v with | .bool b => K b | _ => none)
  | .str, v, K => (match v with | .str s => K s | _ => none)
  | .ls i, v, K => (match v with
    | .nil => K []
    | .lst m j ys => sameC i j ys K
    | _ => none)
  | .dl i, v, K => (match v with
    | .nil => K []
    | .lst m j ys => sameC i j ys fun xs => (match m with
      | .dl => K xs
      | .b n => bif (bif n then xs.isEmpty else !xs.isEmpty) then K xs else none
      | .ow _ nb => bif nb then K xs else bif !xs.isEmpty then K xs else none)
    | _ => none)
  | .bl i, v, K => (match v with
    | .nil => K (true, [])
    | .lst m j ys => sameC i j ys fun xs => (match m with
      | .dl => K (xs.isEmpty, xs)
      | .b n => K (n, xs)
      | .ow _ nb => bif nb then K (xs.isEmpty, xs) else K (false, xs))
    | _ => none)
  | .st i, v, K => C.dec i v K
def decAs : (as : List (AK U)) → List (T U) → (denAs as → Option R) → Option R
  | [], vs, K => (match vs with | [] => K () | _ :: _ => none)
  | a :: r, vs, K => (match vs with
    | [] => none
    | v :: vs => decA C a v fun x => decAs r vs fun xs => K (x, xs))

def finT : List (T U) → T U
  | [] => .tup []
  | x :: r => match r with
    | [] => x
    | _ :: _ => .tup (x :: r)

def dres (e : En U) (st : St U) : List ResultVar → (List (T U) → Option R) → Option R
  | [], K => K []
  | v :: r, K => match v with
    | .tmp t => fe (eget e t) fun v => bif oneAll v.flat then dres e st r fun vs => K (v :: vs) else none
    | .cell p t => dLoad C Tb st t (eget e p) fun v => fe v fun v => bif oneAll v.flat then dres e st r fun vs => K (v :: vs) else none

def argsT : Nat → List (T U) → En U
  | _, [] => []
  | n, x :: xs => (n, x) :: argsT (n + 1) xs

/-- Calls: by contracts; or run through, so deep at most. -/
def callD (fu : Nat) (inl : Nat → Option (FD U)) (orc : Nat → Option (Con U)) : Nat → Call U R
  | 0, _, _, _, _ => none
  | d + 1, f, args, st, k =>
    match orc f with
    | some c => decAs C c.as args fun x => Option.bind (c.fn x) fun y => k (finT (argTs C c.rs (fun _ => false) 0 y)) st
    | none =>
      match inl f with
      | some fd => bif Nat.ble args.length fd.n then
          drun C Tb fu (callD fu inl orc d) fd.fi fd.body (argsT 0 args) st fun ex e' st' => match ex with
            | .normal => dres C Tb e' st' fd.rs fun vs => k (finT vs) st'
            | .ret => dres C Tb e' st' fd.rs fun vs => k (finT vs) st'
            | _ => none
        else none
      | none => none

/-- A function's run. -/
def runF (fu d : Nat) (inl : Nat → Option (FD U)) (orc : Nat → Option (Con U)) (fd : FD U) (as rs : List (AK U)) (nf : Nat → Bool) (x : denAs as) : Option (denAs rs) :=
  drun C Tb fu (callD C Tb fu inl orc d) fd.fi fd.body (argsT 0 (argTs C as nf 0 x)) ⟨[], [], 0, 0⟩ fun ex e' st' => match ex with
    | .normal => dres C Tb e' st' fd.rs fun vs => decAs C rs vs some
    | .ret => dres C Tb e' st' fd.rs fun vs => decAs C rs vs some
    | _ => none

variable {C Tb} {P : Program} {r : R}

structure FDOk (P : Program) (pf : FuncId → Bool) (f : Nat) (fd : FD U) : Prop where
  fn : ∃ fn, P.funcs[f]? = some fn ∧ fn.body = some fd.body ∧ fn.ntmps = fd.n ∧ fn.results = fd.rs.toArray
  code : isCode P f = true
  ok : codeOk ⟨pf, fd.fi.wr, fd.fi.own⟩ fd.n fd.body = true
  hok : headOk fd.fi fd.body = true

def ConOk (C : Cod U) (P : Program) (f : Nat) (c : Con U) : Prop := ∀ x y, c.fn x = some y → ∀ vs, ArgVs C c.as x vs → PureF P f vs (finV ((argTs C c.rs (fun _ => false) 0 y).map (trT C ⟨id, id, id, id⟩)))

theorem argT_bdd (hC : CodOk C) (a : AK U) (n : Bool) (x : denA a) : bdd 0 0 (argT C a n x) = true := by
  cases a <;> first | rfl | exact hC.bd _ _
theorem argTs_bdd (hC : CodOk C) : ∀ (as : List (AK U)) (nf : Nat → Bool) (j : Nat) (x : denAs as), bdds 0 0 (argTs C as nf j x) = true
  | [], _, _, _ => rfl
  | a :: r, nf, j, x => by simp only [argTs, bdds, argT_bdd hC, argTs_bdd hC r, Bool.and_self]

theorem tr_any (hC : CodOk C) (N N' : NM) {l : List (T U)} (h : bdds 0 0 l = true) : l.map (trT C N') = l.map (trT C N) :=
  map_tr_ext (nl := 0) (nx := 0) ⟨fun _ h => by omega, fun _ h => by omega, fun _ h => by omega, fun _ h => by omega⟩ h

theorem decA_ok (hC : CodOk C) : ∀ (a : AK U) {v : T U} {K : denA a → Option R}, decA C a v K = some r → ∃ x, K x = some r ∧ ∀ N, ArgV C a x ((trT C N v).untag)
  | .int k, v, K, h => by
    simp only [decA] at h
    split at h
    · obtain ⟨h1, h2⟩ := bif_some h
      simp only [decide_eq_true_eq] at h1
      subst h1
      exact ⟨_, h2, fun N => rfl⟩
    · cases h
  | .bool, v, K, h => by
    simp only [decA] at h
    split at h
    · exact ⟨_, h, fun N => rfl⟩
    · cases h
  | .str, v, K, h => by
    simp only [decA] at h
    split at h
    · exact ⟨_, h, fun N => rfl⟩
    · cases h
  | .ls i, v, K, h => by
    simp only [decA] at h
    split at h
    · exact ⟨_, h, fun N => ⟨true, rfl⟩⟩
    · rename_i m j ys
      have hq := sameC_ok h; clear h; obtain ⟨rfl, h⟩ := hq
      simp only [castL] at h
      refine ⟨_, h, fun N => ?_⟩
      cases m with
      | b n => cases n with
        | false => exact ⟨false, rfl⟩
        | true => exact ⟨true, rfl⟩
      | dl => cases ys with
        | nil => exact ⟨true, rfl⟩
        | cons y ys => exact ⟨false, rfl⟩
      | ow t nb => cases nb with
        | false => exact ⟨false, rfl⟩
        | true => cases ys with
          | nil => exact ⟨true, rfl⟩
          | cons y ys => exact ⟨false, rfl⟩
    · cases h
  | .dl i, v, K, h => by
    simp only [decA] at h
    split at h
    · exact ⟨_, h, fun N => rfl⟩
    · rename_i m j ys
      have hq := sameC_ok h; clear h; obtain ⟨rfl, h⟩ := hq
      simp only [castL] at h
      split at h
      · refine ⟨_, h, fun N => ?_⟩
        cases ys <;> rfl
      · rename_i n
        obtain ⟨h1, h2⟩ := bif_some h
        refine ⟨_, h2, fun N => ?_⟩
        cases n <;> cases ys <;> simp at h1 <;> rfl
      · rename_i t nb
        cases nb with
        | true => exact ⟨_, h, fun N => rfl⟩
        | false =>
          simp only [cond_false] at h
          obtain ⟨h1, h2⟩ := bif_some h
          refine ⟨_, h2, fun N => ?_⟩
          cases ys <;> simp at h1
          rfl
    · cases h
  | .bl i, v, K, h => by
    simp only [decA] at h
    split at h
    · exact ⟨_, h, fun N => rfl⟩
    · rename_i m j ys
      have hq := sameC_ok h; clear h; obtain ⟨rfl, h⟩ := hq
      simp only [castL] at h
      split at h
      · refine ⟨_, h, fun N => ?_⟩
        cases ys <;> rfl
      · rename_i n
        refine ⟨_, h, fun N => ?_⟩
        cases n <;> rfl
      · rename_i t nb
        cases nb with
        | true => refine ⟨_, h, fun N => ?_⟩; cases ys <;> rfl
        | false => exact ⟨_, h, fun N => rfl⟩
    · cases h
  | .st i, v, K, h => by
    simp only [decA] at h
    obtain ⟨x, h1, h2⟩ := hC.dec i _ _ _ h
    exact ⟨x, h1, fun N => by show _ = trT C _ (C.enc i x); rw [hC.enc, h2]⟩

theorem decAs_ok (hC : CodOk C) : ∀ (as : List (AK U)) {vs : List (T U)} {K : denAs as → Option R}, decAs C as vs K = some r → ∃ x, K x = some r ∧ ∀ N, ArgVs C as x ((vs.map (trT C N)).map V.untag)
  | [], vs, K, h => by
    cases vs with
    | nil => exact ⟨_, h, fun N => rfl⟩
    | cons _ _ => cases h
  | a :: rest, vs, K, h => by
    cases vs with
    | nil => cases h
    | cons v vs =>
      simp only [decAs] at h
      obtain ⟨x, h1, h2⟩ := decA_ok hC a h
      obtain ⟨xs, h3, h4⟩ := decAs_ok hC rest h1
      exact ⟨_, h3, fun N => ⟨_, _, rfl, h2 N, h4 N⟩⟩

theorem finV_tr (N : NM) (vs : List (T U)) : finV (vs.map (trT C N)) = trT C N (finT vs) := by
  match vs with
  | [] => rfl
  | [x] => rfl
  | x :: y :: r => simp [finV, finT, trT, trTs_map]

theorem argsE_sim {st : St U} {N : NM} : ∀ (args : List (T U)) (n : Nat), bdds st.nl st.nx args = true → ESim C N st (argsT n args) (argsE n (args.map (trT C N)))
  | [], n, _, k => ⟨.inl rfl, rfl⟩
  | x :: xs, n, h, k => by
    simp only [bdds, Bool.and_eq_true] at h
    simp only [argsT, eget, List.map_cons, argsE, Env.get]
    by_cases e : n = k
    · subst e
      have : Nat.beq n n = true := by simp
      simp only [this, cond_true, if_true]
      exact ⟨.inr rfl, h.1⟩
    · simp only [beq_ne e, cond_false, if_neg e]
      exact argsE_sim xs (n + 1) h.2 k

theorem dres_okR (hT : TbOk C P Tb) (hC : CodOk C) {N : NM} {st : St U} {s : S} {e : En U} {E : Env} (hs : SSim C N st s) (he : ESim C N st e E) : ∀ (rs : List ResultVar) {K : List (T U) → Option R} {G : List V → Prop}, dres C Tb e st rs K = some r →
    (∀ vs, K vs = some r → G (vs.map (trT C N))) → aResultsR P rs E s G
  | [], K, G, h, hG => hG [] h
  | v :: rest, K, G, h, hG => by
    cases v with
    | tmp t =>
      simp only [dres, fe_eq] at h
      obtain ⟨h1, h2⟩ := bif_some h
      have hne : eget e t ≠ .any := fun e' => by rw [e'] at h1; simp [T.flat, oneAll, T.isOne] at h1
      simp only [aResultsR]
      rw [((he t).1).get hne, flat_tr]
      exact ⟨(allOne_tr C N _).2 h1, dres_okR hT hC hs he rest h2 fun vs hv => hG (_ :: vs) hv⟩
    | cell p t =>
      simp only [dres, fe_eq] at h
      simp only [aResultsR]
      refine dLoad_ok hT hC hs (he p).1 h fun v hv => ?_
      obtain ⟨h1, h2⟩ := bif_some hv
      rw [flat_tr]
      exact ⟨(allOne_tr C N _).2 h1, dres_okR hT hC hs he rest h2 fun vs hv => hG (_ :: vs) hv⟩

theorem dres_ok (hT : TbOk C P Tb) (hC : CodOk C) {N : NM} {st : St U} {s : S} {e : En U} {E : Env} (hs : SSim C N st s) (he : ESim C N st e E) : ∀ (rs : List ResultVar) {K : List (T U) → Option R} {G : List V → Prop}, dres C Tb e st rs K = some r →
    (∀ vs, K vs = some r → G ((vs.map (trT C N)).map V.untag)) → aResults P rs E s G
  | [], K, G, h, hG => hG [] h
  | v :: rest, K, G, h, hG => by
    cases v with
    | tmp t =>
      simp only [dres, fe_eq] at h
      obtain ⟨h1, h2⟩ := bif_some h
      have hne : eget e t ≠ .any := fun e' => by rw [e'] at h1; simp [T.flat, oneAll, T.isOne] at h1
      simp only [aResults]
      rw [((he t).1).get hne, flat_tr]
      exact ⟨(allOne_tr C N _).2 h1, dres_ok hT hC hs he rest h2 fun vs hv => hG (_ :: vs) hv⟩
    | cell p t =>
      simp only [dres, fe_eq] at h
      simp only [aResults]
      refine dLoad_ok hT hC hs (he p).1 h fun v hv => ?_
      obtain ⟨h1, h2⟩ := bif_some hv
      rw [flat_tr]
      exact ⟨(allOne_tr C N _).2 h1, dres_ok hT hC hs he rest h2 fun vs hv => hG (_ :: vs) hv⟩

theorem Sub.refl : ∀ l : List V, Sub l l
  | [] => .nil
  | _ :: r => .keep (Sub.refl r)

theorem okArgs_V (N : NM) : ∀ {l : List (T U)}, okArgs l = true → ((l.map (trT C N)).all fun x => x.flat.all V.isOne) = true
  | [], _ => rfl
  | x :: r, h => by
    simp only [okArgs, Bool.and_eq_true] at h
    simp only [List.map_cons, List.all_cons, Bool.and_eq_true]
    refine ⟨?_, okArgs_V N h.2⟩
    have := (allOne_tr C N x.flat).2 h.1
    rw [← flat_tr] at this
    exact this

/-- EVERY CALL IS SOUND. -/
theorem callD_ok (hT : TbOk C P Tb) (hC : CodOk C) (hm : P.follows .mixedOrders = true) {pf : FuncId → Bool} {fu : Nat} {inl : Nat → Option (FD U)} {orc : Nat → Option (Con U)}
    (hpf : ∀ f, pf f = (orc f).isSome) (hin : ∀ f fd, inl f = some fd → FDOk P pf f fd) (hor : ∀ f c, orc f = some c → isCode P f = true ∧ ConOk C P f c) :
    ∀ (d : Nat) (wr own : Nat → Bool), CallOk C P ⟨pf, wr, own⟩ (callD C Tb fu inl orc d : Call U R) r
  | 0, wr, own, f, args, st, k, N, s, _, _, _, h, _, _, _ => by simp [callD] at h
  | d + 1, wr, own, f, args, st, k, N, s, hs, hb, ha, h, K, KP, hK => by
    simp only [callD] at h
    split at h
    · rename_i c hc
      obtain ⟨h1, h2⟩ := hor f c hc
      obtain ⟨x, h3, h4⟩ := decAs_ok hC c.as h
      cases hx : c.fn x with
      | none => rw [hx] at h3; cases h3
      | some y =>
        rw [hx] at h3
        simp only [Option.bind_some] at h3
        refine ⟨h1, okArgs_V N ha, rfl, ?_⟩
        have hp : pf f = true := by rw [hpf, hc]; rfl
        show (if pf f = true then _ else _)
        rw [if_pos hp]
        refine ⟨rfl, _, h2 x y hx _ (h4 N), hK _ _ _ _ _ h3 (.refl _ _) hs (.inr ?_)⟩
        rw [tr_any hC N ⟨id, id, id, id⟩ (argTs_bdd hC c.rs _ 0 y), finV_tr]
    · rename_i hc
      split at h
      · rename_i fd hfd
        obtain ⟨h1, h2⟩ := bif_some h
        have hok := hin f fd hfd
        obtain ⟨fn, q1, q2, q3, q4⟩ := hok.fn
        refine ⟨hok.code, okArgs_V N ha, rfl, ?_⟩
        have hp : ¬ pf f = true := by rw [hpf, hc]; simp
        show (if pf f = true then _ else _)
        rw [if_neg hp]
        refine ⟨_, Sub.refl _, ?_⟩
        rw [List.append_nil]
        refine FnC_intro q1 q2 q3 q4 (by simpa [Nat.ble_eq] using h1) fun B => ?_
        refine run_ok (X := ⟨B, fd.n⟩) hT hC hm (callD_ok hT hC hm hpf hin hor d fd.fi.wr fd.fi.own) fd.body hs (argsE_sim args 0 hb) h2 hok.ok hok.hok ?_
        intro ex N' e' st' E' s' p1 p2 p3 p4 _
        have fin : (dres C Tb e' st' fd.rs fun vs => k (finT vs) st') = some r → aResultsR P fd.rs E' s' fun xs => ∃ s0, s'.sub s0 ∧ K (finV xs) s0 := fun hh =>
          dres_okR hT hC p3 p4 fd.rs hh fun vs hv => ⟨s', S.sub_refl _, hK _ _ _ _ _ hv p2 p3 (.inr (finV_tr N' vs))⟩
        cases ex <;> simp only at p1 <;> first | exact fin p1 | cases p1
      · cases h

/-- A FUNCTION'S CONTRACT. -/
theorem runF_ok (hT : TbOk C P Tb) (hC : CodOk C) (hm : P.follows .mixedOrders = true) {pf : FuncId → Bool} {fu d : Nat} {inl : Nat → Option (FD U)} {orc : Nat → Option (Con U)} (hpf : ∀ f, pf f = (orc f).isSome)
    (hin : ∀ f fd, inl f = some fd → FDOk P pf f fd) (hor : ∀ f c, orc f = some c → isCode P f = true ∧ ConOk C P f c) {f : Nat} {fd : FD U} (hfd : FDOk P pf f fd) {c : Con U} (hlen : c.as.length ≤ fd.n)
    (hrs : ∀ a ∈ c.rs, ∀ i, a ≠ .ls i) (h : ∀ nf x, runF C Tb fu d inl orc fd c.as c.rs nf x = c.fn x) : ConOk C P f c := by
  intro x y hx vs hvs
  obtain ⟨fn, q1, q2, q3, q4⟩ := hfd.fn
  have hnf : ∃ nf, vs = (argTs C c.as nf 0 x).map (trT C ⟨id, id, id, id⟩) := by
    have key : ∀ (as : List (AK U)) (x : denAs as) (vs : List V) (j : Nat), ArgVs C as x vs → ∃ nf : Nat → Bool, vs = (argTs C as nf j x).map (trT C ⟨id, id, id, id⟩) := by
      intro as
      induction as with
      | nil => intro x vs j h; exact ⟨fun _ => false, h⟩
      | cons a r ih =>
        intro x vs j h
        obtain ⟨v, vs', rfl, h1, h2⟩ := h
        obtain ⟨nf, h3⟩ := ih x.2 vs' (j + 1) h2
        have h4 : ∃ n, v = trT C ⟨id, id, id, id⟩ (argT C a n x.1) := by
          cases a with
          | ls i => obtain ⟨n, hn⟩ := h1; exact ⟨n, by rw [hn]; cases n <;> rfl⟩
          | _ => exact ⟨false, h1⟩
        obtain ⟨n, h4⟩ := h4
        have hcong : ∀ (as : List (AK U)) (x : denAs as) (nf nf' : Nat → Bool) (j : Nat), (∀ m, j ≤ m → nf m = nf' m) → argTs C as nf j x = argTs C as nf' j x := by
          intro as
          induction as with
          | nil => intros; rfl
          | cons a r ih =>
            intro x nf nf' j hh
            simp only [argTs, hh j (Nat.le_refl _), ih x.2 nf nf' (j + 1) fun m hm => hh m (by omega)]
        refine ⟨fun m => if m = j then n else nf m, ?_⟩
        simp only [argTs, List.map_cons, if_true]
        rw [h3, h4, hcong r x.2 (fun m => if m = j then n else nf m) nf (j + 1) fun m hm => if_neg (by omega)]
    exact key c.as x vs 0 hvs
  obtain ⟨nf, rfl⟩ := hnf
  have hlenA : ∀ (as : List (AK U)) (nf : Nat → Bool) (j : Nat) (x : denAs as), (argTs C as nf j x).length = as.length := by
    intro as
    induction as with
    | nil => intros; rfl
    | cons a r ih => intro nf j x; simp [argTs, ih]
  have hrun := (h nf x).trans hx
  unfold runF at hrun
  refine PureF_intro q1 q2 q3 q4 (by rw [List.length_map, hlenA]; exact hlen) fun B => ?_
  refine run_ok (X := ⟨B, fd.n⟩) hT hC hm (callD_ok hT hC hm hpf hin hor d fd.fi.wr fd.fi.own) fd.body (SSim.empty ⟨id, id, id, id⟩ 0 0 _) (argsE_sim (st := ⟨[], [], 0, 0⟩) _ 0 (argTs_bdd hC c.as nf 0 x)) hrun hfd.ok hfd.hok ?_
  intro ex N' e' st' E' s' p1 p2 p3 p4 _
  have resV : ∀ (rs : List (AK U)), (∀ a ∈ rs, ∀ i, a ≠ .ls i) → ∀ (y : denAs rs) (us : List V) (j : Nat), ArgVs C rs y us → us = (argTs C rs (fun _ => false) j y).map (trT C ⟨id, id, id, id⟩) := by
    intro rs
    induction rs with
    | nil => intro _ y us j hu; exact hu
    | cons a r ih =>
      intro hr y us j hu
      obtain ⟨v, vs', rfl, h1, h2⟩ := hu
      simp only [argTs, List.map_cons]
      rw [← ih (fun a ha => hr a (by simp [ha])) y.2 vs' (j + 1) h2]
      congr 1
      cases a with
      | ls i => exact absurd rfl (hr (.ls i) (by simp) i)
      | _ => exact h1
  have fin : (dres C Tb e' st' fd.rs fun vs => decAs C c.rs vs some) = some y → aResults P fd.rs E' s' fun xs => Outc.ret (finV xs) = .ret (finV ((argTs C c.rs (fun _ => false) 0 y).map (trT C ⟨id, id, id, id⟩))) := fun hh =>
    dres_ok hT hC p3 p4 fd.rs hh fun vs hv => by
      obtain ⟨y', h1, h2⟩ := decAs_ok hC c.rs hv
      injection h1 with h1
      subst h1
      rw [resV c.rs hrs y' _ 0 (h2 N')]
  cases ex <;> simp only at p1 <;> first | exact fin p1 | cases p1

end
end Go.Den
