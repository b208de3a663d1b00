/-
  AL, part 5: the operations that only compute are sound. General: no program in sight.
-/
import Derived.Test.YtdedkemkmccliaaAl4
set_option linter.unusedVariables false
set_option linter.unusedSimpArgs false
namespace Go.Al
open Go.RowKit

section inv
variable {g : Gh} {w : World}

theorem RV_at {v u : Value} (h : RV g w (.at v) u) : u = v := by
  obtain ⟨us, h1, h2⟩ := h
  simp only [RC] at h1
  rw [h2, h1.1]; rfl
theorem RV_at_one {v u : Value} (h : RV g w (.at v) u) : one v = true := by
  obtain ⟨us, h1, h2⟩ := h
  simp only [RC] at h1
  exact h1.2
theorem RV_at_mk {v : Value} (h : one v = true) : RV g w (.at v) v := ⟨[v], by simp [RC, h], rfl⟩
theorem RV_agg {fs : List V} {u : Value} (h : RV g w (.agg fs) u) : ∃ us, RCs g w fs us ∧ u = .agg us.toArray := by
  obtain ⟨us, h1, h2⟩ := h
  exact ⟨us, by simpa only [RC] using h1, h2⟩
theorem RV_agg_mk {fs : List V} {us : List Value} (h : RCs g w fs us) : RV g w (.agg fs) (.agg us.toArray) := ⟨us, by simpa only [RC] using h, rfl⟩
theorem RV_lst {tg : Tag} {es : List V} {u : Value} (h : RV g w (.lst tg es) u) : RC g w (.lst tg es) [u] := by
  obtain ⟨us, h1, h2⟩ := h
  have h1' := h1
  simp only [RC] at h1
  rcases h1 with ⟨_, e, _⟩ | ⟨b, o, cap, ds, e, _⟩ <;> (subst e; rw [h2]; exact h1')
theorem RV_lst_mk {tg : Tag} {es : List V} {u : Value} (h : RC g w (.lst tg es) [u]) : RV g w (.lst tg es) u := ⟨[u], h, rfl⟩
theorem RV_rptr {x : V} {u : Value} (h : RV g w (.rptr x) u) : ∃ b o ds, u = .pointer (some ⟨b, o, none⟩) ∧ RC g.bare w x ds ∧ At g w b o ds := by
  obtain ⟨us, h1, h2⟩ := h
  simp only [RC] at h1
  obtain ⟨b, o, ds, rfl, h3, h4⟩ := h1
  exact ⟨b, o, ds, h2, h3, h4⟩
theorem RV_rptr_mk {x : V} {b o : Nat} {ds : List Value} (h : RC g.bare w x ds) (ha : At g w b o ds) : RV g w (.rptr x) (.pointer (some ⟨b, o, none⟩)) :=
  ⟨[.pointer (some ⟨b, o, none⟩)], by simp only [RC]; exact ⟨b, o, ds, rfl, h, ha⟩, rfl⟩
theorem RV_clo {fn : Fn} {caps : List V} {u : Value} (h : RV g w (.clo fn caps) u) : ∃ ds, RCs g.bare w caps ds ∧ u = .func fn #[] ds.toArray := by
  obtain ⟨us, h1, h2⟩ := h
  simp only [RC] at h1
  obtain ⟨ds, h3, rfl⟩ := h1
  exact ⟨ds, h3, h2⟩

theorem RV_of_RC {x : V} {us : List Value} (h : RC g w x us) : RV g w x (pack x us) := RV.of_RV1 ⟨us, h, rfl⟩

theorem size_one {x : V} (h : x.isOne = true) : x.size = 1 := by cases x <;> simp [V.isOne] at h <;> simp [V.size]
theorem sizes_one : ∀ {fs : List V}, allOne fs → sizes fs = fs.length
  | [], _ => rfl
  | x :: xs, h => by
    simp only [allOne, List.all_cons, Bool.and_eq_true] at h
    simp [sizes, size_one h.1, sizes_one (fs := xs) h.2]; omega

theorem RC_single {x : V} {us : List Value} (h : RC g w x us) (h1 : x.isOne = true) : ∃ u, us = [u] := by
  have := RC_length g w x us h
  rw [size_one h1] at this
  match us, this with
  | [u], _ => exact ⟨u, rfl⟩

theorem RCs_take_drop : ∀ {fs : List V} {us : List Value} (_ : allOne fs) (_ : RCs g w fs us) (n : Nat), RCs g w (fs.take n) (us.take n) ∧ RCs g w (fs.drop n) (us.drop n)
  | [], us, _, h, n => by simp only [RCs] at h; subst h; simp [RCs]
  | x :: xs, us, ha, h, n => by
    simp only [allOne, List.all_cons, Bool.and_eq_true] at ha
    simp only [RCs] at h
    obtain ⟨u1, u2, rfl, h1, h2⟩ := h
    obtain ⟨u, rfl⟩ := RC_single h1 ha.1
    cases n with
    | zero => simp only [List.take_zero, List.drop_zero]; exact ⟨by simp [RCs], by simp only [RCs]; exact ⟨[u], u2, rfl, h1, h2⟩⟩
    | succ n =>
      obtain ⟨k1, k2⟩ := RCs_take_drop (fs := xs) (us := u2) ha.2 h2 n
      simp only [List.take_succ_cons, List.drop_succ_cons, List.cons_append, List.nil_append]
      exact ⟨by simp only [RCs]; exact ⟨[u], u2.take n, rfl, h1, k1⟩, k2⟩

theorem RCs_append : ∀ {fs gs : List V} {us vs : List Value}, RCs g w fs us → RCs g w gs vs → RCs g w (fs ++ gs) (us ++ vs)
  | [], gs, us, vs, h, h' => by simp only [RCs] at h; subst h; exact h'
  | x :: xs, gs, us, vs, h, h' => by
    simp only [RCs] at h
    obtain ⟨u1, u2, rfl, h1, h2⟩ := h
    simp only [List.cons_append, RCs]
    exact ⟨u1, u2 ++ vs, by simp, h1, RCs_append h2 h'⟩

theorem RCs_split : ∀ {fs gs : List V} {us : List Value}, RCs g w (fs ++ gs) us → ∃ u1 u2, us = u1 ++ u2 ∧ RCs g w fs u1 ∧ RCs g w gs u2
  | [], gs, us, h => ⟨[], us, rfl, by simp [RCs], h⟩
  | x :: xs, gs, us, h => by
    simp only [List.cons_append, RCs] at h
    obtain ⟨u1, u2, rfl, h1, h2⟩ := h
    obtain ⟨v1, v2, rfl, h3, h4⟩ := RCs_split h2
    exact ⟨u1 ++ v1, v2, by simp, by simp only [RCs]; exact ⟨u1, v1, rfl, h1, h3⟩, h4⟩

theorem RCs_get {fs : List V} {us : List Value} (ha : allOne fs) (h : RCs g w fs us) (i : Nat) (hi : i < fs.length) : ∃ u, us[i]? = some u ∧ RC g w (fs.getD i .any) [u] := by
  have h1 := (RCs_take_drop ha h i).2
  rw [List.drop_eq_getElem_cons hi] at h1
  simp only [RCs] at h1
  obtain ⟨u1, u2, e, h2, _⟩ := h1
  have hone : (fs[i]).isOne = true := by
    have := List.all_eq_true.1 ha (fs[i]) (List.getElem_mem hi)
    exact this
  obtain ⟨u, rfl⟩ := RC_single h2 hone
  refine ⟨u, ?_, ?_⟩
  · have := congrArg (fun l => l[0]?) e
    simpa using this
  · simpa [hi] using h2

/-- The cells of element n of a list of elements of one size. -/
theorem RCs_elem {sz : Nat} : ∀ {es : List V} {ds : List Value}, (∀ x ∈ es, x.size = sz) → RCs g w es ds → ∀ (n : Nat), n < es.length → RC g w (es.getD n .any) ((ds.drop (n * sz)).take sz)
  | [], ds, _, _, n, hn => by simp at hn
  | x :: xs, ds, hs, h, n, hn => by
    simp only [RCs] at h
    obtain ⟨u1, u2, rfl, h1, h2⟩ := h
    have hl := RC_length g w x u1 h1
    rw [hs x (by simp)] at hl
    cases n with
    | zero =>
      have : (List.drop (0 * sz) (u1 ++ u2)).take sz = u1 := by rw [Nat.zero_mul, List.drop_zero, ← hl]; exact List.take_left
      rw [this]; simpa using h1
    | succ n =>
      have := RCs_elem (es := xs) (ds := u2) (fun y hy => hs y (by simp [hy])) h2 n (by simpa using hn)
      have e : List.drop ((n + 1) * sz) (u1 ++ u2) = u2.drop (n * sz) := by
        rw [Nat.add_mul, Nat.one_mul, Nat.add_comm, ← hl, ← List.drop_drop, List.drop_left]
      rw [e]; simpa using this

theorem At.sub {b o : Nat} {us : List Value} (h : At g w b o us) (n m : Nat) : At g w b (o + n) ((us.drop n).take m) := by
  intro k u hk
  rw [List.getElem?_take] at hk
  split at hk
  · rw [List.getElem?_drop] at hk
    have := h (n + k) u hk
    rw [Nat.add_assoc]; exact this
  · cases hk

theorem At.idx {b o : Nat} {us : List Value} (h : At g w b o us) (n : Nat) {u : Value} (hu : us[n]? = some u) : At g w b (o + n) [u] := by
  intro k v hk
  match k, hk with
  | 0, hk => simp at hk; subst hk; exact h n u hu
  | k + 1, hk => simp at hk

theorem RC_untag1 {x : V} {us : List Value} (h : RC g w x us) : RC g w (untag1 x) us := by
  unfold untag1
  split
  · rename_i t nb s es
    simp only [RC] at h ⊢
    rcases h with ⟨rfl, hu, hn⟩ | ⟨b, o, cap, ds, hu, hc, ht, hr, hf, ha⟩
    · refine .inl ⟨rfl, hu, ?_⟩
      obtain ⟨_, rfl⟩ := hn
      simp [tagOf, NilOk]
    · refine .inr ⟨b, o, cap, ds, hu, hc, ?_, hr, ?_, ha⟩
      · cases nb with
        | false => simp [TagOk]
        | true =>
          have hne := ht.2.2 rfl
          have : es.isEmpty = false := by cases es <;> simp at hne ⊢
          simp [tagOf, this, TagOk]
      · obtain ⟨sz, h1, h2⟩ := hf
        refine ⟨sz, h1, fun t' nb' s' e => ?_⟩
        cases nb <;> simp [tagOf] at e
        split at e <;> cases e
  · exact h

theorem RCs_untag1 : ∀ {xs : List V} {us : List Value}, RCs g w xs us → RCs g w (xs.map untag1) us
  | [], us, h => h
  | x :: xs, us, h => by
    simp only [RCs, List.map_cons] at h ⊢
    obtain ⟨u1, u2, rfl, h1, h2⟩ := h
    exact ⟨u1, u2, rfl, RC_untag1 h1, RCs_untag1 h2⟩

theorem RC_untag {x : V} {us : List Value} (h : RC g w x us) : RC g w x.untag us := by
  unfold V.untag
  split
  · simp only [RC] at h ⊢; exact RCs_untag1 h
  · exact RC_untag1 h

/-- Untagged it needs no names. -/
theorem RC_untag1_bare {x : V} {us : List Value} (h : RC g w x us) (h1 : x.isOne = true) : RC g.bare w (untag1 x) us := by
  have h2 := RC_untag1 h
  cases x with
  | any => simp [V.isOne] at h1
  | agg fs => simp [V.isOne] at h1
  | tup vs => simp [V.isOne] at h1
  | rptr x => simp only [untag1, RC] at h2 ⊢; exact h2
  | iface t x => simp only [untag1, RC] at h2 ⊢; exact h2
  | clo fn caps => simp only [untag1, RC] at h2 ⊢; exact h2
  | lst tg es =>
    have key : ∀ tg', (∀ t nb s, tg' ≠ .own t nb s) → RC g w (.lst tg' es) us → RC g.bare w (.lst tg' es) us := by
      intro tg' hno h
      simp only [RC] at h ⊢
      rcases h with ⟨he, hu, hn⟩ | ⟨b, o, cap, ds, hu, hc, ht, hr, hf, ha⟩
      · refine .inl ⟨he, hu, ?_⟩
        cases tg' with
        | nil => exact hn
        | no => exact hn
        | own t nb s => exact absurd rfl (hno t nb s)
      · refine .inr ⟨b, o, cap, ds, hu, hc, ?_, hr, hf, ha⟩
        cases tg' with
        | nil => exact ht
        | no => exact ht
        | own t nb s => exact absurd rfl (hno t nb s)
    cases tg with
    | nil => exact key _ (fun _ _ _ e => by cases e) h2
    | no => exact key _ (fun _ _ _ e => by cases e) h2
    | own t nb s =>
      simp only [untag1] at h2 ⊢
      refine key _ (fun t' nb' s' e => ?_) h2
      cases nb <;> simp [tagOf] at e
      split at e <;> cases e
  | _ => simpa [RC, untag1] using h2

theorem RCs_untag1_bare : ∀ {xs : List V} {us : List Value}, RCs g w xs us → allOne xs → RCs g.bare w (xs.map untag1) us
  | [], us, h, _ => h
  | x :: xs, us, h, h1 => by
    simp only [allOne, List.all_cons, Bool.and_eq_true] at h1
    simp only [RCs, List.map_cons] at h ⊢
    obtain ⟨u1, u2, rfl, h2, h3⟩ := h
    exact ⟨u1, u2, rfl, RC_untag1_bare h2 h1.1, RCs_untag1_bare h3 h1.2⟩

theorem RC_untag_bare {x : V} {us : List Value} (h : RC g w x us) (h1 : allOne x.flat) : RC g.bare w x.untag us := by
  cases x with
  | agg fs => simp only [RC, V.untag] at h ⊢; exact RCs_untag1_bare h h1
  | any => simp [RC] at h
  | tup vs => simp [RC] at h
  | _ => exact RC_untag1_bare h rfl

theorem pack_untag (x : V) (us : List Value) : pack x.untag us = pack x us := by
  cases x <;> simp only [V.untag, untag1, pack]
  rename_i tg es
  cases tg <;> simp [untag1, pack]

theorem RV1.untag {x : V} {u : Value} (h : RV1 g w x u) : RV1 g w x.untag u := by
  obtain ⟨us, h1, h2⟩ := h
  exact ⟨us, RC_untag h1, by rw [pack_untag]; exact h2⟩

theorem RV_cases {x : V} {u : Value} (h : RV g w x u) (h1 : x ≠ .any) (h2 : ∀ vs, x ≠ .tup vs) : RV1 g w x u := by
  cases x with
  | any => exact absurd rfl h1
  | tup vs => exact absurd rfl (h2 vs)
  | _ => exact h

end inv

section runs
variable {P : Program}
theorem hasT_info {t : TypeId} (h : hasT P t = true) : ∃ i, P.info? t = some i ∧ i.size = P.cellsOf t ∧ i.bytes = P.bytesOf t ∧ i.zero = zeroOf P t := by
  simp only [hasT, Bool.and_eq_true, Option.isSome_iff_exists] at h
  obtain ⟨⟨i, hi⟩, _⟩ := h
  exact ⟨i, hi, by simp [Program.cellsOf, hi], by simp [Program.bytesOf, hi], by simp [zeroOf, hi]⟩
theorem run_sizeOf' {t : TypeId} (h : hasT P t = true) (w : World) : (sizeOf t).run P w = .ok (P.cellsOf t) w := by
  obtain ⟨i, hi, hs, _⟩ := hasT_info h
  simp [sizeOf, typeInfo, hi, hs]
theorem run_isAgg' {t : TypeId} (h : hasT P t = true) (w : World) : (isAgg t).run P w = .ok (isAggT P t) w := by
  simp only [hasT, Bool.and_eq_true, Option.isSome_iff_exists] at h
  obtain ⟨_, ⟨d, hd⟩⟩ := h
  simp only [isAgg, Sem.run_bind, run_underlying hd, Result.andThen_ok, isAggT, hd]
  cases d <;> rfl
theorem elT_spec {t el : TypeId} (h : elT P t = some el) : P.underlying t = some (.slice el) := by
  unfold elT at h
  split at h
  · rename_i e; rw [e]; injection h with h; rw [h]
  · cases h
theorem addr_add (b o n : Nat) : (⟨b, o, none⟩ : Addr).add n = ⟨b, o + n, none⟩ := by unfold Addr.add; split <;> simp_all

theorem run_loadVar' {g : Gh} {w : World} {t : TypeId} {x : V} {b o : Nat} {ds : List Value} (hf : fits P t x) (hr : RC g w x ds) (ha : ∀ (k : Nat) u, ds[k]? = some u → w.cell? ⟨b, o + k, none⟩ = some u) :
    (loadVar t ⟨b, o, none⟩).run P w = .ok (pack x ds) w := by
  obtain ⟨h1, h2, h3⟩ := hf
  have hl := RC_length g w x ds hr
  simp only [loadVar, Sem.run_bind, run_isAgg' h1, Result.andThen_ok]
  cases hx : x.isAgg with
  | true =>
    rw [hx] at h3
    rw [← h3]
    cases x <;> simp [V.isAgg] at hx
    rename_i fs
    have hll : (loadCells ⟨b, o, none⟩ ds.length).run P w = .ok ds.toArray w :=
      run_loadCells_list (P := P) w ⟨b, o, none⟩ ds (fun j v hv => by rw [addr_add]; exact ha j v hv)
    rw [← hl] at h2
    simp only [if_true, Sem.run_bind, run_sizeOf' h1, Result.andThen_ok, ← h2, hll]
    rfl
  | false =>
    rw [hx] at h3
    rw [← h3]
    simp only [Bool.false_eq_true, if_false]
    have h1x : x.size = 1 := by
      cases x <;> simp [V.isAgg] at hx <;> simp [V.size]
    rw [h1x] at hl
    match ds, hl with
    | [u], _ =>
      have hc := ha 0 u (by simp)
      have hp : pack x [u] = u := by cases x <;> simp [V.isAgg] at hx <;> rfl
      rw [hp]
      simp only [Nat.add_zero] at hc
      simp [load, Sem.run, hc]

/-- A part of a row of cells. -/
theorem part_RC {g : Gh} {w : World} {t : TypeId} {fs : List V} {off : Nat} {us : List Value} (ha : allOne fs) (hp : partOk P t fs off) (h : RCs g w fs us) :
    RC g w (partV P t fs off) ((us.drop off).take (P.cellsOf t)) ∧ (partV P t fs off).isAgg = isAggT P t ∧ (partV P t fs off).size = P.cellsOf t := by
  obtain ⟨h1, h2, h3⟩ := hp
  have hl := RCs_length g w fs us h
  rw [sizes_one ha] at hl
  unfold partV
  cases hb : isAggT P t with
  | true =>
    simp only [if_true]
    have ha' : allOne (fs.drop off) := by
      unfold allOne at ha ⊢
      rw [List.all_eq_true] at ha ⊢
      exact fun x hx => ha x (List.mem_of_mem_drop hx)
    have h4 := (RCs_take_drop ha' (RCs_take_drop ha h off).2 (P.cellsOf t)).1
    have ha'' : allOne ((fs.drop off).take (P.cellsOf t)) := by
      unfold allOne at ha' ⊢
      rw [List.all_eq_true] at ha' ⊢
      exact fun x hx => ha' x (List.mem_of_mem_take hx)
    refine ⟨by simp only [RC]; exact h4, rfl, ?_⟩
    simp only [V.size]
    rw [sizes_one ha'']
    simp; omega
  | false =>
    simp only [Bool.false_eq_true, if_false]
    have h5 := h3 hb
    obtain ⟨u, hu, hr⟩ := RCs_get ha h off (by omega)
    have hone : (fs.getD off .any).isOne = true := by
      have hlt : off < fs.length := by omega
      have := List.all_eq_true.1 ha (fs[off]) (List.getElem_mem hlt)
      simpa [hlt] using this
    refine ⟨?_, ?_, ?_⟩
    · rw [h5]
      have : (us.drop off).take 1 = [u] := by
        have hlt : off < us.length := by omega
        rw [List.drop_eq_getElem_cons hlt]
        simp only [List.take_succ_cons, List.take_zero]
        rw [List.getElem?_eq_getElem hlt] at hu
        injection hu with hu
        rw [hu]
      rw [this]; exact hr
    · cases hq : fs.getD off .any <;> rw [hq] at hone <;> simp [V.isOne] at hone <;> rfl
    · rw [size_one hone, h5]
end runs

end Go.Al
