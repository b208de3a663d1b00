/-
  AL, part 6: each operation that turns no memory is sound. General: no program in sight.
-/
import Derived.Test.YtdedkemkmccliaaAl5
set_option linter.unusedVariables false
set_option linter.unusedSimpArgs false
namespace Go.Al
open Go.RowKit

def OpOut (X : Cx) (g : Gh) (w : World) (o : Oper) (a : Act) (K : V → S → Prop) : Act → World → Prop :=
  fun a' w' => ∃ u v g' st', a' = a.put o.dst u ∧ Out X.B g w g' st' w' ∧ RV g' w' v u ∧ K v st'
def OpPan (X : Cx) (g : Gh) (w : World) (a : Act) (KP : List PanicEntry → S → Prop) : Exit → Act → World → Prop :=
  fun ex a' w' => ∃ c g' st', ex = .panic c ∧ a' = a ∧ Out X.B g w g' st' w' ∧ KP c st'

section
variable {P : Program} {X : Cx} {g : Gh} {w : World} {a : Act} {o : Oper} {st : S} {K : V → S → Prop} {KP : List PanicEntry → S → Prop}

theorem wp_of_value {w' : World} {u : Value} {Q : Exit → Act → World → Prop} {K : Act → World → Prop} (h : (execOp a.eval o).run P w = .ok (.value u) w') (hk : K (a.put o.dst u) w') : o.wp P a w K Q := by
  unfold Oper.wp Oper.upon
  rw [h]; exact hk

theorem wp_of_skip {w' : World} {Q : Exit → Act → World → Prop} {K : Act → World → Prop} (h : (execOp a.eval o).run P w = .ok .skip w') (hk : K (a.put o.dst undef) w') : o.wp P a w K Q := by
  unfold Oper.wp Oper.upon
  rw [h]; exact hk

/-- An operation that leaves the world alone. -/
theorem still_op (hi : Inv X.B g st w) {u : Value} {v : V} (h : (execOp a.eval o).run P w = .ok (.value u) w) (hv : RV g w v u) (hk : K v st) : o.wp P a w (OpOut X g w o a K) (OpPan X g w a KP) :=
  wp_of_value h ⟨u, v, g, st, rfl, .refl hi, hv, hk⟩

theorem run_v {s : Sem Value} {u : Value} {w' : World} (h : s.run P w = .ok u w') : ((do pure (Next.value (← s))) : Sem Next).run P w = .ok (.value u) w' := by
  simp [Sem.run_bind, h]

theorem run_u {s : Sem Unit} {w' : World} (h : s.run P w = .ok () w') : ((do s; pure Next.skip) : Sem Next).run P w = .ok .skip w' := by
  simp [Sem.run_bind, h]

theorem aPick_spec {c x y : V} {K : V → Prop} (h : aPick c x y K) {uc ux uy : Value} (hc : RV g w c uc) (hx : RV g w x ux) (hy : RV g w y uy) :
    ∃ v t, K v ∧ uc = .bool t ∧ RV g w v (if t then ux else uy) := by
  unfold aPick at h
  split at h
  · rename_i t
    refine ⟨_, t, h, RV_at hc, ?_⟩
    cases t <;> simpa
  · cases h

theorem aInt_spec {op : BinOp} {k : IntKind} {x y : Int} {K : V → Prop} (h : aInt op k x y K) : ∃ v, K (.at v) ∧ one v = true ∧ (Go.binOp op 0 (.int k x) (.int k y)).run P w = .ok v w ∧ (∀ t, Go.binOp op t (.int k x) (.int k y) = Go.binOp op 0 (.int k x) (.int k y)) := by
  cases op <;> simp only [aInt] at h
  case quo => exact ⟨_, h.2, rfl, by simp [Go.binOp, Op.intDiv, h.1], fun _ => rfl⟩
  case rem => exact ⟨_, h.2, rfl, by simp [Go.binOp, Op.intDiv, h.1], fun _ => rfl⟩
  all_goals exact ⟨_, h, rfl, by simp [Go.binOp, Op.intArith, Op.intCmp], fun _ => rfl⟩

theorem aStr_spec {op : BinOp} {x y : ByteArray} {K : V → Prop} (h : aStr op x y K) (t : TypeId) : ∃ v, K (.at v) ∧ one v = true ∧ (Go.binOp op t (.string x) (.string y)).run P w = .ok v w := by
  cases op <;> simp only [aStr] at h
  case add =>
    refine ⟨_, h.2, rfl, ?_⟩
    have : ¬ (((x.size + y.size : Nat) : Int) > IntKind.i64.max) := by have := h.1; omega
    simp only [Go.binOp, Op.stringOp, if_neg this]
    rfl
  all_goals exact ⟨_, h, rfl, by simp [Go.binOp, Op.stringOp]⟩

theorem eqGuard_plain {op : BinOp} {t : TypeId} {x y : Operand} {u v : Value} (h : u ≠ .nilIface) (h2 : one u = true) : (eqGuard op t x y u v).run P w = .ok () w := by
  cases u <;> first | (exact absurd rfl h) | (simp [one] at h2; done) | skip
  all_goals
    unfold eqGuard
    cases op <;> simp

theorem isBoolT_spec {t : TypeId} (h : isBoolT P t = true) : P.underlying t = some .bool := by
  unfold isBoolT at h; split at h
  · rename_i e; exact e
  · cases h
theorem isStrT_spec {t : TypeId} (h : isStrT P t = true) : P.underlying t = some .string := by
  unfold isStrT at h; split at h
  · rename_i e; exact e
  · cases h

theorem run_equal_bool {t : TypeId} (hu : P.underlying t = some .bool) (p q : Bool) (w : World) : (Op.equal t (.bool p) (.bool q)).run P w = .ok (p == q) w := by
  show (Op.equalIn (9999 + 1) t (.bool p) (.bool q)).run P w = _
  generalize 9999 = d
  unfold Op.equalIn
  simp only [Sem.run_bind, run_underlying hu, Result.andThen_ok, Sem.run_pure]
theorem run_equal_nil {t el : TypeId} (hu : P.underlying t = some (.slice el)) (ad : Option Addr) (n c : Nat) (w : World) : (Op.equal t (.slice ad n c) (.slice none 0 0)).run P w = .ok ad.isNone w := by
  show (Op.equalIn (9999 + 1) t (.slice ad n c) (.slice none 0 0)).run P w = _
  generalize 9999 = d
  unfold Op.equalIn
  cases ad <;> simp only [Sem.run_bind, run_underlying hu, Result.andThen_ok, Sem.run_pure, Option.isNone]

theorem aBool_spec {op : BinOp} {x y : Bool} {K : V → Prop} (h : aBool op x y K) : (op = .eql ∧ K (.at (.bool (x == y)))) ∨ (op = .neq ∧ K (.at (.bool (!(x == y))))) := by
  cases op <;> simp only [aBool] at h
  · exact .inl ⟨rfl, h⟩
  · exact .inr ⟨rfl, h⟩

/-- nil or not, as the tag says. -/
theorem nilB_spec {tg : Tag} {es : List V} {u : Value} (h : RC g w (.lst tg es) [u]) : ∃ ad n c, u = .slice ad n c ∧ ad.isNone = nilB tg es := by
  simp only [RC] at h
  rcases h with ⟨rfl, hu, hn⟩ | ⟨b, o, cap, ds, hu, hc, ht, hr, hf, ha⟩
  · injection hu with hu _
    refine ⟨none, 0, 0, hu, ?_⟩
    cases tg with
    | nil => rfl
    | no => exact hn.elim
    | own t nb s => obtain ⟨_, rfl⟩ := hn; rfl
  · injection hu with hu _
    refine ⟨some _, _, _, hu, ?_⟩
    cases tg with
    | nil => exact ht.elim
    | no => rfl
    | own t nb s =>
      cases nb with
      | false => rfl
      | true => have := ht.2.2 rfl; cases es <;> simp at this ⊢; simp [nilB]

theorem aBin_spec {op : BinOp} {t : TypeId} {x y : V} {K : V → Prop} (h : aBin P op t x y K) {ux uy : Value} (hx : RV g w x ux) (hy : RV g w y uy) (ox oy : Operand) :
    ∃ v, K (.at v) ∧ one v = true ∧ ((do eqGuard op t ox oy ux uy; Go.binOp op t ux uy) : Sem Value).run P w = .ok v w := by
  unfold aBin at h
  split at h
  · rename_i k p k' q
    obtain ⟨rfl, h⟩ := h
    have e1 := RV_at hx; have e2 := RV_at hy
    subst e1; subst e2
    obtain ⟨v, h1, h2, h3, h4⟩ := aInt_spec (P := P) (w := w) h
    exact ⟨v, h1, h2, by rw [Sem.run_bind, eqGuard_plain (by simp) rfl, Result.andThen_ok, h4 t, h3]⟩
  · obtain ⟨hb, h⟩ := h
    have e1 := RV_at hx; have e2 := RV_at hy
    subst e1; subst e2
    have hu := isBoolT_spec hb
    rcases aBool_spec h with ⟨rfl, h⟩ | ⟨rfl, h⟩
    · exact ⟨_, h, rfl, by rw [Sem.run_bind, eqGuard_plain (by simp) rfl, Result.andThen_ok]; simp only [Go.binOp, Sem.run_bind, run_equal_bool hu, Result.andThen_ok, Sem.run_pure]⟩
    · exact ⟨_, h, rfl, by rw [Sem.run_bind, eqGuard_plain (by simp) rfl, Result.andThen_ok]; simp only [Go.binOp, Sem.run_bind, run_equal_bool hu, Result.andThen_ok, Sem.run_pure]⟩
  · have e1 := RV_at hx; have e2 := RV_at hy
    subst e1; subst e2
    obtain ⟨v, h1, h2, h3⟩ := aStr_spec (P := P) (w := w) h t
    exact ⟨v, h1, h2, by rw [Sem.run_bind, eqGuard_plain (by simp) rfl, Result.andThen_ok, h3]⟩
  · rename_i tg es
    obtain ⟨hel, h⟩ := h
    obtain ⟨el, hel⟩ := Option.isSome_iff_exists.1 hel
    have hu := elT_spec hel
    obtain ⟨ad, n, c, rfl, hn⟩ := nilB_spec (RV_lst hx)
    have hy' := RV_lst hy
    simp only [RC] at hy'
    have e2 : uy = .slice none 0 0 := by
      rcases hy' with ⟨_, hu, _⟩ | ⟨b, o, cap, ds, _, _, ht, _⟩
      · injection hu
      · exact ht.elim
    subst e2
    rcases aBool_spec h with ⟨rfl, h⟩ | ⟨rfl, h⟩
    · refine ⟨_, h, rfl, ?_⟩
      rw [Sem.run_bind, eqGuard_plain (by simp) rfl, Result.andThen_ok]
      simp only [Go.binOp, Sem.run_bind, run_equal_nil hu, Result.andThen_ok, Sem.run_pure, hn]
      cases nilB tg es <;> rfl
    · refine ⟨_, h, rfl, ?_⟩
      rw [Sem.run_bind, eqGuard_plain (by simp) rfl, Result.andThen_ok]
      simp only [Go.binOp, Sem.run_bind, run_equal_nil hu, Result.andThen_ok, Sem.run_pure, hn]
      cases nilB tg es <;> rfl
  · cases h

theorem aUn_spec {op : UnOp} {x : V} {K : V → Prop} (h : aUn op x K) {ux : Value} (hx : RV g w x ux) : ∃ v, K (.at v) ∧ one v = true ∧ (Op.unary op ux).run P w = .ok v w := by
  unfold aUn at h
  split at h
  · have e1 := RV_at hx; subst e1
    split at h
    · exact ⟨_, h, rfl, by simp [Op.unary]⟩
    · cases h
  · have e1 := RV_at hx; subst e1
    split at h
    · exact ⟨_, h, rfl, by simp [Op.unary, Op.intArith]⟩
    · cases h
  · cases h

theorem aExtract_spec {x : V} {i : Nat} {K : V → Prop} (h : aExtract x i K) {ux : Value} (hx : RV g w x ux) : ∃ v u, K v ∧ RV g w v u ∧ (Instr.extract ux i).run P w = .ok u w := by
  unfold aExtract at h
  split at h
  · rename_i vs
    obtain ⟨us, h1, rfl⟩ := hx
    obtain ⟨u, hu, hr⟩ := h1.get i (vs[i]'h.1) (List.getElem?_eq_getElem h.1)
    refine ⟨_, u, h.2, ?_, ?_⟩
    · have : vs.getD i .any = vs[i]'h.1 := by simp [h.1]
      rw [this]; exact RV.of_RV1 hr
    · simp [Instr.extract, hu]
  · cases h

theorem fieldAt_spec {t : TypeId} {i off : Nat} {ft : TypeId} (h : fieldAt P t i = some (off, ft)) : ∃ fs f, P.underlying t = some (.struct fs) ∧ fs[i]? = some f ∧ f.offset = off ∧ f.type = ft := by
  unfold fieldAt at h
  split at h
  · rename_i fs e
    cases hf : fs[i]? with
    | none => simp [hf] at h
    | some f => simp [hf] at h; exact ⟨fs, f, e, hf, h.1, h.2⟩
  · cases h

theorem run_part {t : TypeId} {fs : List V} {off : Nat} {us : List Value} (ha : allOne fs) (hp : partOk P t fs off) (h : RCs g w fs us) :
    (part t us.toArray off).run P w = .ok (pack (partV P t fs off) ((us.drop off).take (P.cellsOf t))) w := by
  have hp' := hp
  obtain ⟨h1, h2, h3⟩ := hp
  have hl := RCs_length g w fs us h
  rw [sizes_one ha] at hl
  unfold part
  simp only [Sem.run_bind, run_isAgg' h1, Result.andThen_ok]
  cases hb : isAggT P t with
  | true =>
    simp only [if_true, Sem.run_bind, run_sizeOf' h1, Result.andThen_ok, partV, hb, pack]
    simp only [List.extract_toArray, List.extract_eq_take_drop]
    simp
  | false =>
    simp only [Bool.false_eq_true, if_false, partV, hb]
    have h5 := h3 hb
    obtain ⟨u, hu, hr⟩ := RCs_get ha h off (by omega)
    have hlt : off < us.length := by omega
    have e : (us.drop off).take (P.cellsOf t) = [u] := by
      rw [h5, List.drop_eq_getElem_cons hlt]
      rw [List.getElem?_eq_getElem hlt] at hu
      injection hu with hu
      simp [hu]
    have hone : (fs.getD off .any).isOne = true := by
      have hlt : off < fs.length := by omega
      have := List.all_eq_true.1 ha (fs[off]) (List.getElem_mem hlt)
      simpa [hlt] using this
    have hpk : pack (fs.getD off .any) [u] = u := by cases hq : fs.getD off .any <;> rw [hq] at hone <;> simp [V.isOne] at hone <;> rfl
    rw [e, hpk]
    simp [hu]

theorem aField_spec {t : TypeId} {x : V} {f : Nat} {K : V → Prop} (h : aField P t x f K) {ux : Value} (hx : RV g w x ux) : ∃ v u, K v ∧ RV g w v u ∧ (Instr.field t ux f).run P w = .ok u w := by
  unfold aField at h
  split at h
  · rename_i fs off ft hfa
    obtain ⟨fds, fd, hu, hf, rfl, rfl⟩ := fieldAt_spec hfa
    obtain ⟨us, h1, rfl⟩ := RV_agg hx
    refine ⟨_, _, h.2.2, RV_of_RC (part_RC h.1 h.2.1 h1).1, ?_⟩
    simp only [Instr.field, Sem.run_bind, run_underlying hu, Result.andThen_ok, hf, asAgg, Sem.run_pure]
    exact run_part h.1 h.2.1 h1
  · cases h

theorem aFieldAddr_spec {t : TypeId} {x : V} {f : Nat} {K : V → Prop} (h : aFieldAddr P t x f K) {ux : Value} (hx : RV g w x ux) : ∃ v u, K v ∧ RV g w v u ∧ (Instr.fieldAt t ux f).run P w = .ok u w := by
  unfold aFieldAddr at h
  split at h
  · rename_i fs off ft hfa
    obtain ⟨fds, fd, hu, hf, rfl, rfl⟩ := fieldAt_spec hfa
    obtain ⟨b, o, ds, rfl, h1, h2⟩ := RV_rptr hx
    simp only [RC] at h1
    refine ⟨_, .pointer (some ⟨b, o + fd.offset, none⟩), h.2.2.2, RV_rptr_mk (part_RC h.1 h.2.1 h1).1 (h2.sub _ _), ?_⟩
    have hz : ¬ P.cellsOf fd.type = 0 := by have := h.2.2.1; omega
    simp [Instr.fieldAt, run_underlying hu, hf, Instr.sureAddr, fieldPlace, run_sizeOf' h.2.1.1, hz, addr_add]
  · rename_i b o off ft hfa
    obtain ⟨fds, fd, hu, hf, rfl, rfl⟩ := fieldAt_spec hfa
    have e1 := RV_at hx; subst e1
    have hz : ¬ P.cellsOf fd.type = 0 := by have := h.2.1; omega
    refine ⟨_, .pointer (some ⟨b, o + fd.offset, none⟩), h.2.2, RV_at_mk rfl, ?_⟩
    simp [Instr.fieldAt, run_underlying hu, hf, Instr.sureAddr, fieldPlace, run_sizeOf' h.1, hz, addr_add]
  · cases h

theorem aIndexAddr_spec {t : TypeId} {x i : V} {K : V → Prop} (h : aIndexAddr P t x i K) {ux ui : Value} (hx : RV g w x ux) (hi : RV g w i ui) : ∃ v u, K v ∧ RV g w v u ∧ (Instr.indexAt t ux ui).run P w = .ok u w := by
  unfold aIndexAddr at h
  split at h
  · rename_i el tg es k n hel
    obtain ⟨h1, h2, h3, h4⟩ := h
    have hu := elT_spec hel
    have e2 := RV_at hi; subst e2
    have hl := RV_lst hx
    simp only [RC] at hl
    rcases hl with ⟨rfl, _, _⟩ | ⟨b, o, cap, ds, hux, hc, ht, hr, hf, ha⟩
    · simp at h2; omega
    · injection hux with hux _
      subst hux
      obtain ⟨sz, hsz, _⟩ := hf
      have hn : n.toNat < es.length := by omega
      have hszn : sz = P.cellsOf el := by
        rw [← h3, ← hsz (es[n.toNat]) (List.getElem_mem hn)]; simp [hn]
      refine ⟨_, .pointer (some ⟨b, o + n.toNat * sz, none⟩), h4, RV_rptr_mk (RCs_elem hsz hr n.toNat hn) (ha.sub _ _), ?_⟩
      simp [Instr.indexAt, asIntOf, run_underlying hu, h2, run_sizeOf' h1, addr_add, hszn]
  · rename_i el b o len cap k n hel
    obtain ⟨h1, h2, h4⟩ := h
    have hu := elT_spec hel
    have e2 := RV_at hi; subst e2
    have e1 := RV_at hx; subst e1
    refine ⟨_, .pointer (some ⟨b, o + n.toNat * P.cellsOf el, none⟩), h4, RV_at_mk rfl, ?_⟩
    simp [Instr.indexAt, asIntOf, run_underlying hu, h2, run_sizeOf' h1, addr_add]
  · cases h

theorem aIndex_spec {t : TypeId} {x i : V} {K : V → Prop} (h : aIndex P t x i K) {ux ui : Value} (hx : RV g w x ux) (hi : RV g w i ui) : ∃ v u, K v ∧ RV g w v u ∧ (Instr.index t ux ui).run P w = .ok u w := by
  unfold aIndex at h
  split at h
  · rename_i s k n
    obtain ⟨h1, h2, h3⟩ := h
    have hu := isStrT_spec h1
    have e1 := RV_at hx; have e2 := RV_at hi
    subst e1; subst e2
    refine ⟨_, _, h3, RV_at_mk rfl, ?_⟩
    have hn : n.toNat < s.size := by omega
    have hn' : n.toNat < s.data.size := hn
    have : s[n.toNat]? = some (s.data.getD n.toNat 0) := by
      rw [getElem?_pos s n.toNat hn]
      simp only [Array.getD, hn', dif_pos]
      rfl
    simp only [Instr.index, asIntOf, Sem.run_bind, Sem.run_pure, Result.andThen_ok, run_underlying hu, if_pos h2.1, this]
  · cases h

theorem aLen_spec {t : TypeId} {x : V} {K : V → Prop} (h : aLen P t x K) {ux : Value} (hx : RV g w x ux) (rest : List TypeId) (ty : TypeId) : ∃ v, K (.at v) ∧ one v = true ∧ (Builtin.len_ (t :: rest).toArray ty #[ux]).run P w = .ok v w := by
  unfold aLen at h
  split at h
  · rename_i tg es
    obtain ⟨el, hel⟩ := Option.isSome_iff_exists.1 h.1
    have hu := elT_spec hel
    have hl := RV_lst hx
    simp only [RC] at hl
    refine ⟨_, h.2, rfl, ?_⟩
    rcases hl with ⟨rfl, hux, _⟩ | ⟨b, o, cap, ds, hux, _⟩
    · injection hux with hux _
      subst hux
      simp [Builtin.len_, run_underlying hu, goInt]
    · injection hux with hux _
      subst hux
      simp [Builtin.len_, run_underlying hu, goInt]
  · obtain ⟨el, hel⟩ := Option.isSome_iff_exists.1 h.1
    have hu := elT_spec hel
    have e1 := RV_at hx; subst e1
    exact ⟨_, h.2, rfl, by simp [Builtin.len_, run_underlying hu, goInt]⟩
  · have hu := isStrT_spec h.1
    have e1 := RV_at hx; subst e1
    exact ⟨_, h.2, rfl, by simp [Builtin.len_, run_underlying hu, goInt]⟩
  · cases h

theorem aMax_spec {x y : V} {K : V → Prop} (h : aMax x y K) {ux uy : Value} (hx : RV g w x ux) (hy : RV g w y uy) (ts : Array TypeId) (ty : TypeId) : ∃ v, K (.at v) ∧ one v = true ∧ (Builtin.max_ ts ty #[ux, uy]).run P w = .ok v w := by
  unfold aMax at h
  split at h
  · have e1 := RV_at hx; have e2 := RV_at hy
    subst e1; subst e2
    exact ⟨_, h, rfl, by simp [Builtin.max_, Builtin.max2]⟩
  · cases h

theorem aNilCheck_spec {x : V} {K : V → Prop} (h : aNilCheck x K) {ux : Value} (hx : RV g w x ux) : K x ∧ ∃ ad, ux = .pointer (some ad) := by
  unfold aNilCheck at h
  split at h
  · obtain ⟨b, o, ds, rfl, _⟩ := RV_rptr hx; exact ⟨h, _, rfl⟩
  · exact ⟨h, _, RV_at hx⟩
  · cases h

theorem boundV_spec {x : Option V} {d : Int} {K : Int → Prop} (h : boundV x d K) {ux : Option Value} (hx : ∀ v, x = some v → ∃ u, ux = some u ∧ RV g w v u) (hn : x = none → ux = none) :
    ∃ n, K n ∧ ((x = none ∧ ux = none ∧ n = d) ∨ ∃ k, ux = some (.int k n)) := by
  unfold boundV at h
  split at h
  · exact ⟨_, h, .inl ⟨rfl, hn rfl, rfl⟩⟩
  · rename_i k n
    obtain ⟨u, rfl, hr⟩ := hx _ rfl
    exact ⟨_, h, .inr ⟨k, by rw [RV_at hr]⟩⟩
  · cases h

theorem run_sliceBound {k : IntKind} {n : Int} {y : Nat} {c : BoundsCode} (h1 : 0 ≤ n) (h2 : n ≤ y) : (Instr.sliceBound (.int k n) y c).run P w = .ok n.toNat w := by
  simp [Instr.sliceBound, asIntOf, h1, h2]

theorem run_sliceBounds {isS : Bool} {len cap : Nat} {lo hi : Option Value} {l h : Int} (hl : (lo = none ∧ l = 0) ∨ ∃ k, lo = some (.int k l)) (hh : (hi = none ∧ h = len) ∨ ∃ k, hi = some (.int k h))
    (h0 : 0 ≤ l) (h1 : l ≤ h) (h2 : h ≤ cap) : (Instr.sliceBounds isS len cap lo hi none).run P w = .ok (l.toNat, h.toNat, cap) w := by
  unfold Instr.sliceBounds
  have e : ((h.toNat : Nat) : Int) = h := by omega
  rcases hh with ⟨rfl, rfl⟩ | ⟨k, rfl⟩ <;> rcases hl with ⟨rfl, rfl⟩ | ⟨k', rfl⟩
  · simp
  · simp only [Sem.run_bind, Sem.run_pure, Result.andThen_ok]
    rw [run_sliceBound h0 h1]; simp
  · simp only [Sem.run_bind, Sem.run_pure, Result.andThen_ok]
    rw [run_sliceBound (by omega) h2]; simp
  · simp only [Sem.run_bind, Sem.run_pure, Result.andThen_ok]
    rw [run_sliceBound (by omega) h2]
    simp only [Result.andThen_ok]
    rw [run_sliceBound h0 (by omega)]; simp

end
end Go.Al
