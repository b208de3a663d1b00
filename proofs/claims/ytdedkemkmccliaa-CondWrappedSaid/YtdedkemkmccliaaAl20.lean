/-
  AL, part 20: append in a walk; a nil slice that is to grow. General: no program in sight.
-/
import Derived.Test.YtdedkemkmccliaaAl19
set_option linter.unusedVariables false
set_option linter.unusedSimpArgs false
namespace Go.Al
open Go.RowKit

/-- What an append of ys wants of the element type. -/
def appOk (P : Program) (el : TypeId) (n : Nat) (ys : List V) : Prop :=
  hasT P el = true ∧ ((zeroC P el).map List.length = some (P.cellsOf el)) ∧ 0 < P.cellsOf el ∧ elsOk (P.cellsOf el) ys ∧ (n + ys.length) * P.bytesOf el ≤ 140737488355328 ∧ n + ys.length ≤ maxLen

def sApp (P : Program) (L : Pol) (dst : Option Nat) (st : S) (t t2 : TypeId) (s : V) (ys : List V) (q : Option TypeId) (K : V → S → Prop) : Prop :=
  match q with
  | none => False
  | some el => t2 = t ∧ hasT P el = true ∧ ((zeroC P el).map List.length = some (P.cellsOf el)) ∧ 0 < P.cellsOf el ∧ elsOk (P.cellsOf el) ys ∧
    (match s with
     | .lst .nil [] => ys.length * P.bytesOf el ≤ 140737488355328 ∧ ys.length ≤ maxLen ∧
        (if (dst.map L.wr).getD false = true then
          ys ≠ [] ∧ allOne (flats ys) ∧ ∀ b cap, look st.box b = none → ys.length ≤ cap → K (.at (.slice (some ⟨b, 0, none⟩) ys.length cap)) ⟨lay st.box b (flats ys, cap * P.cellsOf el), st.tg, st.nx⟩
        else K (.lst (.own st.nx true (P.cellsOf el)) ys) ⟨st.box, st.nx :: st.tg, st.nx + 1⟩)
     | .lst (.own g nb sz) es => g ∈ st.tg ∧ sz = P.cellsOf el ∧ (es.length + ys.length) * P.bytesOf el ≤ 140737488355328 ∧ es.length + ys.length ≤ maxLen ∧
        K (.lst (.own st.nx nb sz) (es ++ ys)) ⟨st.box, st.nx :: st.tg.erase g, st.nx + 1⟩
     | .at (.slice (some ⟨b, 0, none⟩) len cap) =>
        (match look st.box b with
         | some (cs, k) => (dst.map L.wr).getD false = true ∧ k = cap * P.cellsOf el ∧ len ≤ cap ∧ len * P.cellsOf el ≤ cs.length ∧ (len + ys.length) * P.bytesOf el ≤ 140737488355328 ∧ len + ys.length ≤ maxLen ∧ allOne (flats ys) ∧
            ∀ b' cap', look (wipe st.box b) b' = none → len + ys.length ≤ cap' →
              K (.at (.slice (some ⟨b', 0, none⟩) (len + ys.length) cap')) ⟨lay (wipe st.box b) b' (cs.take (len * P.cellsOf el) ++ flats ys, cap' * P.cellsOf el), st.tg, st.nx⟩
         | none => False)
     | _ => False)

theorem aAppend_eq (P : Program) (L : Pol) (dst : Option Nat) (st : S) (t t2 : TypeId) (s : V) (tg : Tag) (ys : List V) (K : V → S → Prop) : aAppend P L dst st t t2 s (.lst tg ys) K = sApp P L dst st t t2 s ys (elT P t) K := by
  unfold aAppend sApp
  cases elT P t <;> rfl
theorem sApp_congr (P : Program) (L : Pol) (dst : Option Nat) (st : S) (t t2 : TypeId) {s s' : V} (h1 : s = s') {ys ys' : List V} (h2 : ys = ys') {q q' : Option TypeId} (h : q = q') (K : V → S → Prop) : sApp P L dst st t t2 s ys q K = sApp P L dst st t t2 s' ys' q' K := by
  rw [h1, h2, h]

def sAppN (P : Program) (st : S) (ys : List V) (el : TypeId) (w : Bool) (K : V → S → Prop) : Prop :=
  appOk P el 0 ys ∧ (if w = true then
          ys ≠ [] ∧ allOne (flats ys) ∧ ∀ b cap, look st.box b = none → ys.length ≤ cap → K (.at (.slice (some ⟨b, 0, none⟩) ys.length cap)) ⟨lay st.box b (flats ys, cap * P.cellsOf el), st.tg, st.nx⟩
        else K (.lst (.own st.nx true (P.cellsOf el)) ys) ⟨st.box, st.nx :: st.tg, st.nx + 1⟩)
theorem sApp_nil (P : Program) (L : Pol) (d : Nat) (st : S) (t : TypeId) (ys : List V) (el : TypeId) (K : V → S → Prop) : sApp P L (some d) st t t (.lst .nil []) ys (some el) K = sAppN P st ys el (L.wr d) K := by
  unfold sApp sAppN appOk
  simp [and_assoc]
theorem sAppN_congr (P : Program) (st : S) (ys : List V) (el : TypeId) {w w' : Bool} (h1 : w = w') (K : V → S → Prop) : sAppN P st ys el w K = sAppN P st ys el w' K := by rw [h1]
theorem sAppN_f (P : Program) (st : S) (ys : List V) (el : TypeId) (K : V → S → Prop) : sAppN P st ys el false K = (appOk P el 0 ys ∧ K (.lst (.own st.nx true (P.cellsOf el)) ys) ⟨st.box, st.nx :: st.tg, st.nx + 1⟩) := rfl
theorem sAppN_t (P : Program) (st : S) (ys : List V) (el : TypeId) (K : V → S → Prop) : sAppN P st ys el true K =
  (appOk P el 0 ys ∧ ys ≠ [] ∧ allOne (flats ys) ∧ ∀ b cap, look st.box b = none → ys.length ≤ cap → K (.at (.slice (some ⟨b, 0, none⟩) ys.length cap)) ⟨lay st.box b (flats ys, cap * P.cellsOf el), st.tg, st.nx⟩) := rfl
theorem sApp_own (P : Program) (L : Pol) (d : Nat) (st : S) (t : TypeId) (g : Nat) (nb : Bool) (sz : Nat) (es ys : List V) (el : TypeId) (K : V → S → Prop) : sApp P L (some d) st t t (.lst (.own g nb sz) es) ys (some el) K =
    (appOk P el es.length ys ∧ g ∈ st.tg ∧ sz = P.cellsOf el ∧ K (.lst (.own st.nx nb sz) (es ++ ys)) ⟨st.box, st.nx :: st.tg.erase g, st.nx + 1⟩) := by
  unfold sApp appOk
  simp only [true_and, and_assoc]
  refine propext ⟨fun ⟨a, b, c, d, e, f, g, h, i⟩ => ⟨a, b, c, d, g, h, e, f, i⟩, fun ⟨a, b, c, d, g, h, e, f, i⟩ => ⟨a, b, c, d, e, f, g, h, i⟩⟩

theorem untag_tagOf (es : List V) : V.untag (.lst (tagOf es) es) = .lst (tagOf es) es := by
  cases es <;> rfl
theorem untag_at (v : Value) : V.untag (.at v) = .at v := rfl
theorem untag_rptr (x : V) : V.untag (.rptr x) = .rptr x := rfl
theorem untag_own (t sz : Nat) (es : List V) : V.untag (.lst (.own t true sz) es) = .lst (tagOf es) es := rfl
theorem untag_ownf (t sz : Nat) (es : List V) : V.untag (.lst (.own t false sz) es) = .lst .no es := rfl
theorem untag_no (es : List V) : V.untag (.lst .no es) = .lst .no es := rfl
theorem untag_nil (es : List V) : V.untag (.lst .nil es) = .lst .nil es := rfl
theorem untag_agg (fs : List V) : V.untag (.agg fs) = .agg (fs.map untag1) := rfl
theorem untag1_tagOf (es : List V) : untag1 (.lst (tagOf es) es) = .lst (tagOf es) es := by
  cases es <;> rfl
theorem untag1_at (v : Value) : untag1 (.at v) = .at v := rfl
theorem untag1_own (t sz : Nat) (es : List V) : untag1 (.lst (.own t true sz) es) = .lst (tagOf es) es := rfl
theorem untag1_no (es : List V) : untag1 (.lst .no es) = .lst .no es := rfl
theorem untag1_nil (es : List V) : untag1 (.lst .nil es) = .lst .nil es := rfl
theorem flat_one_at (v : Value) : (V.flat (.at v)).all V.isOne = true := rfl
theorem flat_one_lst (tg : Tag) (es : List V) : (V.flat (.lst tg es)).all V.isOne = true := rfl
theorem flat_one_rptr (x : V) : (V.flat (.rptr x)).all V.isOne = true := rfl
theorem flat_one_agg (fs : List V) : (V.flat (.agg fs)).all V.isOne = fs.all V.isOne := rfl

section
variable {P : Program} {L : Pol} {ds : List (Option Nat)} {KP : List PanicEntry → S → Prop} {os : List Oper} {K : Env → S → Prop} {e : Env} {st : S}
variable {d : Option Nat} {ty : TypeId} {pos : String} {af : Array Edge}
/-- A call by a contract without memory. -/
theorem AL_callp {f : FuncId} {xs : List Operand} {ts : Array TypeId} {as : List V} {r : V} (hp : PureF P f as r) (hL : L.pf f = true) (hc : isCode P f = true) (hu : (xs.map e.ev).map V.untag = as) (ha : ((xs.map e.ev).all fun x => x.flat.all V.isOne) = true)
    (h : AL P L ds KP os K (e.putO d r) st) : AL P L ds KP (⟨d, .call ⟨.value (.func f), xs.toArray, ts⟩, ty, pos, af, none⟩ :: os) K e st := by
  subst hu
  exact AL_call r hL hc ha hp h
end

theorem look_append (l r : List (Nat × List V × Nat)) (b : Nat) : look (l ++ r) b = (look l b).or (look r b) := by
  induction l with
  | nil => rfl
  | cons p q ih =>
    obtain ⟨k, c⟩ := p
    simp only [List.cons_append, look]
    split
    · rfl
    · exact ih
/-- Boxes of no more use are let go. -/
theorem S.sub_front (l r : List (Nat × List V × Nat)) (tg : List Nat) (n : Nat) : S.sub ⟨l ++ r, tg, n⟩ ⟨l, tg, n⟩ := by
  refine ⟨fun b c h => ?_, fun _ h => h, fun h => h, fun b h => ?_, Nat.le_refl _⟩
  · show look (l ++ r) b = some c
    rw [look_append]
    replace h : look l b = some c := h
    rw [h]; rfl
  · replace h : look (l ++ r) b = none := h
    rw [look_append] at h
    show look l b = none
    cases hq : look l b with
    | none => rfl
    | some c => rw [hq] at h; cases h
theorem S.sub_one (x : Nat × List V × Nat) (r : List (Nat × List V × Nat)) (tg : List Nat) (n : Nat) : S.sub ⟨x :: r, tg, n⟩ ⟨[x], tg, n⟩ := S.sub_front [x] r tg n
theorem S.sub_none (r : List (Nat × List V × Nat)) (tg : List Nat) (n : Nat) : S.sub ⟨r, tg, n⟩ ⟨[], tg, n⟩ := S.sub_front [] r tg n
theorem elsOk_map {α : Type} (sz : Nat) (f : α → V) (h : ∀ x, (f x).size = sz) (l : List α) : elsOk sz (l.map f) := fun x hx => by
  obtain ⟨y, _, rfl⟩ := List.mem_map.1 hx
  exact h y

/-- The slots hold these. -/
def Env.has (e : Env) : List (Nat × V) → Prop
  | [] => True
  | (k, x) :: r => e.get k = x ∧ Env.has e r
theorem Env.sub_has (e : Env) (l : List (Nat × V)) (h : e.has l) : e.sub l := by
  refine Env.sub_of e l ?_
  induction l with
  | nil => intro p hp; cases hp
  | cons q r ih =>
    obtain ⟨k, x⟩ := q
    intro p hp
    rcases List.mem_cons.1 hp with rfl | hp
    · exact h.1
    · exact ih h.2 p hp
/-- Two slices of numbers. -/
theorem int_succ (i : Nat) (h : i < 9223372036854775807) : V.at (.int .i64 (IntKind.i64.wrap ((i : Int) + 1))) = V.at (.int .i64 ((i + 1 : Nat) : Int)) := by
  rw [wrap_small _ (by omega) (by omega)]; rfl

section
variable {P : Program} {X : Cx} {Q : Exit → Env → S → Prop} {e : Env} {st : S}

/-- A ghost step: a nil slice gets a name to grow under. -/
theorem awp_mkown {c : Code} (k sz : Nat) (h0 : e.get k = .lst .nil []) (hk : decide (k < X.N) = true) (h : awp P X c Q (e.put k (.lst (.own st.nx true sz) [])) ⟨st.box, st.nx :: st.tg, st.nx + 1⟩) : awp P X c Q e st := by
  intro g a w hr
  obtain ⟨i2, l2⟩ := hr.inv.addTag rfl none (fun _ _ _ _ e => by cases e)
  have h1 := hr.env k
  rw [h0] at h1
  have h2 := RV_nil h1
  have hs : Step X.B g w ⟨g.wm, fun j => if j = st.nx then some none else g.tb j⟩ w := ⟨l2, .refl _ _, fun _ => rfl, fun _ _ => rfl⟩
  have hrel : Rel X ⟨g.wm, fun j => if j = st.nx then some none else g.tb j⟩ (e.put k (.lst (.own st.nx true sz) [])) ⟨st.box, st.nx :: st.tg, st.nx + 1⟩ a w := by
    refine ⟨i2, fun j => ?_, hr.size, hr.df⟩
    rw [Env.get_put]
    split
    · rename_i e1
      subst e1
      rw [h2]
      refine RV_lst_mk ?_
      simp only [RC]
      exact .inl ⟨trivial, trivial, if_pos rfl, rfl⟩
    · exact (hr.env j).later l2
  refine wp_mono (h _ a w hrel) ?_
  rintro ex a' w' ⟨g', e', st', k1, k2, k3⟩
  exact ⟨g', e', st', hs.trans k1, k2, k3⟩

end
end Go.Al
