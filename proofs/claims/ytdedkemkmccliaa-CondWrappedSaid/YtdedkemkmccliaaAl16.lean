/-
  AL, part 16: a region whose order is drawn, by one walk of the order of the text. General: no program in sight.
-/
import Derived.Test.YtdedkemkmccliaaAl15
set_option linter.unusedVariables false
set_option linter.unusedSimpArgs false
namespace Go.Al
open Go.RowKit

/-- What comes of it is one value, whatever goes on with it. -/
def Pt (h : (V → Prop) → Prop) : Prop := ∀ K, h K → ∃ v, K v ∧ ∀ K', K' v → h K'

section
variable {P : Program} {L : Pol} {X : Cx} {e : Env} {st : S} {KP : List PanicEntry → S → Prop}

theorem pt_aPick (c x y : V) : Pt (aPick c x y) := fun K h => by
  unfold aPick at *
  split at h
  · exact ⟨_, h, fun _ k => k⟩
  · cases h
theorem pt_aInt (op : BinOp) (k : IntKind) (x y : Int) : Pt (aInt op k x y) := fun K h => by
  cases op <;> simp only [aInt] at h ⊢
  case quo => exact ⟨_, h.2, fun _ q => ⟨h.1, q⟩⟩
  case rem => exact ⟨_, h.2, fun _ q => ⟨h.1, q⟩⟩
  all_goals exact ⟨_, h, fun _ q => q⟩
theorem pt_aStr (op : BinOp) (x y : ByteArray) : Pt (aStr op x y) := fun K h => by
  cases op <;> simp only [aStr] at h ⊢
  case add => exact ⟨_, h.2, fun _ q => ⟨h.1, q⟩⟩
  all_goals exact ⟨_, h, fun _ q => q⟩
theorem pt_aBool (op : BinOp) (x y : Bool) : Pt (aBool op x y) := fun K h => by
  cases op <;> simp only [aBool] at h ⊢
  all_goals exact ⟨_, h, fun _ q => q⟩
theorem pt_aBin (op : BinOp) (t : TypeId) (x y : V) : Pt (aBin P op t x y) := fun K h => by
  unfold aBin at *
  split at h
  · obtain ⟨v, h1, h2⟩ := pt_aInt _ _ _ _ K h.2; exact ⟨v, h1, fun K' k => ⟨h.1, h2 K' k⟩⟩
  · obtain ⟨v, h1, h2⟩ := pt_aBool _ _ _ K h.2; exact ⟨v, h1, fun K' k => ⟨h.1, h2 K' k⟩⟩
  · obtain ⟨v, h1, h2⟩ := pt_aStr _ _ _ K h; exact ⟨v, h1, fun K' k => h2 K' k⟩
  · obtain ⟨v, h1, h2⟩ := pt_aBool _ _ _ K h.2; exact ⟨v, h1, fun K' k => ⟨h.1, h2 K' k⟩⟩
  · cases h
theorem pt_aUn (op : UnOp) (x : V) : Pt (aUn op x) := fun K h => by
  unfold aUn at *
  split at h
  · split at h
    · exact ⟨_, h, fun _ k => k⟩
    · cases h
  · split at h
    · exact ⟨_, h, fun _ k => k⟩
    · cases h
  · cases h
theorem pt_aExtract (x : V) (i : Nat) : Pt (aExtract x i) := fun K h => by
  unfold aExtract at *
  split at h
  · exact ⟨_, h.2, fun _ k => ⟨h.1, k⟩⟩
  · cases h
theorem pt_aField (t : TypeId) (x : V) (f : Nat) : Pt (aField P t x f) := fun K h => by
  unfold aField at *
  split at h
  · exact ⟨_, h.2.2, fun _ k => ⟨h.1, h.2.1, k⟩⟩
  · cases h
theorem pt_aFieldAddr (t : TypeId) (x : V) (f : Nat) : Pt (aFieldAddr P t x f) := fun K h => by
  unfold aFieldAddr at *
  split at h
  · exact ⟨_, h.2.2.2, fun _ k => ⟨h.1, h.2.1, h.2.2.1, k⟩⟩
  · exact ⟨_, h.2.2, fun _ k => ⟨h.1, h.2.1, k⟩⟩
  · cases h
theorem pt_aIndexAddr (t : TypeId) (x i : V) : Pt (aIndexAddr P t x i) := fun K h => by
  unfold aIndexAddr at *
  split at h
  · exact ⟨_, h.2.2.2, fun _ k => ⟨h.1, h.2.1, h.2.2.1, k⟩⟩
  · exact ⟨_, h.2.2, fun _ k => ⟨h.1, h.2.1, k⟩⟩
  · cases h
theorem pt_aIndex (t : TypeId) (x i : V) : Pt (aIndex P t x i) := fun K h => by
  unfold aIndex at *
  split at h
  · exact ⟨_, h.2.2, fun _ k => ⟨h.1, h.2.1, k⟩⟩
  · cases h
theorem pt_aNilCheck (x : V) : Pt (aNilCheck x) := fun K h => by
  unfold aNilCheck at *
  split at h
  · exact ⟨_, h, fun _ k => k⟩
  · exact ⟨_, h, fun _ k => k⟩
  · cases h
theorem pt_aBuild (t : TypeId) (ps : List (Nat × V)) : Pt (aBuild P t ps) := fun K h => by
  unfold aBuild at *
  obtain ⟨h1, h⟩ := h
  split at h
  · split at h
    · exact ⟨_, h, fun _ k => ⟨h1, k⟩⟩
    · cases h
  · cases h
theorem pt_aLen (t : TypeId) (x : V) : Pt (aLen P t x) := fun K h => by
  unfold aLen at *
  split at h
  · exact ⟨_, h.2, fun _ k => ⟨h.1, k⟩⟩
  · exact ⟨_, h.2, fun _ k => ⟨h.1, k⟩⟩
  · exact ⟨_, h.2, fun _ k => ⟨h.1, k⟩⟩
  · cases h
theorem pt_aMax (x y : V) : Pt (aMax x y) := fun K h => by
  unfold aMax at *
  split at h
  · exact ⟨_, h, fun _ k => k⟩
  · cases h
theorem boundV_pt {x : Option V} {d : Int} {K : Int → Prop} (h : boundV x d K) : ∃ n, K n ∧ ∀ K', K' n → boundV x d K' := by
  unfold boundV at *
  split at h
  · exact ⟨_, h, fun _ k => k⟩
  · exact ⟨_, h, fun _ k => k⟩
  · cases h
theorem pt_aSlice (t : TypeId) (x : V) (lo hi : Option V) : Pt (aSlice P t x lo hi) := fun K h => by
  unfold aSlice at *
  split at h
  · split at h
    · cases h
    · obtain ⟨h1, h2, h⟩ := h
      obtain ⟨l, h, hl⟩ := boundV_pt h
      obtain ⟨m, h, hm⟩ := boundV_pt h
      exact ⟨_, h.2, fun _ k => ⟨h1, h2, hl _ (hm _ ⟨h.1, k⟩)⟩⟩
  · split at h
    · cases h
    · obtain ⟨h1, h⟩ := h
      obtain ⟨l, h, hl⟩ := boundV_pt h
      obtain ⟨m, h, hm⟩ := boundV_pt h
      exact ⟨_, h.2, fun _ k => ⟨h1, hl _ (hm _ ⟨h.1, k⟩)⟩⟩
  · obtain ⟨h1, h⟩ := h
    obtain ⟨l, h, hl⟩ := boundV_pt h
    obtain ⟨m, h, hm⟩ := boundV_pt h
    exact ⟨_, h.2, fun _ k => ⟨h1, hl _ (hm _ ⟨h.1, k⟩)⟩⟩
  · cases h
theorem pt_aLoad (st : S) (t : TypeId) (x : V) : Pt (aLoad P st t x) := fun K h => by
  unfold aLoad at *
  split at h
  · exact ⟨_, h.2, fun _ k => ⟨h.1, k⟩⟩
  · split at h
    · exact ⟨_, h.2, fun _ k => ⟨h.1, k⟩⟩
    · cases h
  · cases h
theorem aLoad_box {st st' : S} (h : st'.box = st.box) (t : TypeId) (x : V) (K : V → Prop) : aLoad P st' t x K = aLoad P st t x K := by
  unfold aLoad
  rw [h]

/-- How much of the store an operation looks at, or turns: 0 a move; 1 nothing; 2 a call without memory; 3 it reads boxes; 4 it turns names; 5 whatever. -/
def cls (L : Pol) (o : Oper) : Nat :=
  match o.op with
  | .move _ | .assign _ => if o.guard.isNone = true then 0 else 1
  | .pick .. | .binOp .. | .unOp .. | .extract .. | .field .. | .fieldAddr .. | .indexAddr .. | .index .. | .build .. | .nilCheck _ | .slice .. => 1
  | .load .. => 3
  | .buildSlice .. => if (o.dst.map L.wr).getD false = true then 5 else if (o.dst.map L.own).getD false = true then 4 else 1
  | .call c => (match c.callee with
    | .builtin .len | .builtin .max => 1
    | .builtin .append => if (o.dst.map L.wr).getD false = true then 5 else 4
    | .value (.func n) => if L.pf n = true then 2 else 5
    | _ => 5)
  | _ => 5

def compat (ci cj : Nat) : Bool :=
  decide (ci ≤ 2) || cj == 0 || (ci == 3 && decide (cj ≤ 4)) || (ci == 4 && decide (cj ≤ 3))

/-- A value that hangs on nothing but the frame. -/
theorem low_spec {o : Oper} (hc : cls L o ≤ 2) {K : V → S → Prop} (h : aop P L e st o K KP) : ∃ v, K v st ∧ ∀ st' K' KP', K' v st' → aop P L e st' o K' KP' := by
  obtain ⟨dst, op, ty, pos, af, gd⟩ := o
  have low : ∀ (hh : (V → Prop) → Prop), Pt hh → (hh fun v => K v st) → ∃ v, K v st ∧ ∀ (st' : S) (K' : V → S → Prop) (_ : List PanicEntry → S → Prop), K' v st' → hh fun v => K' v st' := by
    intro hh hp h
    obtain ⟨v, h1, h2⟩ := hp _ h
    exact ⟨v, h1, fun st' K' _ k => h2 (fun v => K' v st') k⟩
  cases op <;> simp only [cls] at hc <;> simp only [aop] at h ⊢ <;>
    first
      | (refine ⟨_, h, fun _ _ _ k => k⟩)
      | exact low _ (pt_aPick _ _ _) h
      | exact low _ (pt_aBin _ _ _ _) h
      | exact low _ (pt_aUn _ _) h
      | exact low _ (pt_aExtract _ _) h
      | exact low _ (pt_aField _ _ _) h
      | exact low _ (pt_aFieldAddr _ _ _) h
      | exact low _ (pt_aIndexAddr _ _ _) h
      | exact low _ (pt_aIndex _ _ _) h
      | exact low _ (pt_aBuild _ _) h
      | exact low _ (pt_aNilCheck _) h
      | (omega)
      | skip
  case slice t x lo hi mx =>
    obtain ⟨v, h1, h2⟩ := pt_aSlice _ _ _ _ _ h.2
    exact ⟨v, h1, fun st' K' _ k => ⟨h.1, h2 _ k⟩⟩
  case buildSlice t n ps =>
    split at hc
    · omega
    · split at hc
      · omega
      · rename_i h1 h2
        unfold aBuildSlice at h ⊢
        split at h
        · cases h
        · obtain ⟨q1, q2, q3, q4, q5, q6, q7, q8, q9, q10⟩ := h
          rw [if_neg h1, if_neg h2] at q10
          exact ⟨_, q10, fun st' K' _ k => ⟨q1, q2, q3, q4, q5, q6, q7, q8, q9, by rw [if_neg h1, if_neg h2]; exact k⟩⟩
  case call c =>
    obtain ⟨callee, args, ts⟩ := c
    cases callee with
    | invoke r m => simp at hc
    | value f =>
      simp only at h hc ⊢
      cases f with
      | func n =>
        simp only at hc
        split at hc
        · rename_i hp
          simp only [Env.ev] at h ⊢
          unfold aCall at h ⊢
          simp only [if_pos hp] at h ⊢
          obtain ⟨q1, q2, q3, q4, r, q5, q6⟩ := h
          exact ⟨r, q6, fun st' K' _ k => ⟨q1, q2, q3, q4, r, q5, k⟩⟩
        · omega
      | tmp t => simp at hc
      | const v => simp at hc
      | global g => simp at hc
    | builtin b =>
      simp only at h hc ⊢
      unfold aBuiltin at h ⊢
      split at h
      · exact low _ (pt_aLen _ _) h
      · exact low _ (pt_aMax _ _) h
      · simp only at hc
        split at hc <;> omega
      · cases h

/-- It is there still. -/
def More (st st' : S) : Prop := ∀ b c, Go.Al.look st.box b = some c → Go.Al.look st'.box b = some c
theorem More.of_eq {st st' : S} (h : st'.box = st.box) : More st st' := fun b c hl => by rw [h]; exact hl
theorem aLoad_more {st st' : S} (h : More st st') (t : TypeId) (x : V) (K : V → Prop) (hh : aLoad P st t x K) : aLoad P st' t x K := by
  unfold aLoad at *
  split at hh
  · exact hh
  · split at hh
    · rename_i cs k hl
      simp only [h _ _ hl]
      exact hh
    · cases hh
  · cases hh

/-- It makes a box. -/
def newB (L : Pol) (o : Oper) : Bool :=
  match o.op with
  | .alloc _ | .box .. => true
  | .buildSlice .. => (o.dst.map L.wr).getD false
  | _ => false
/-- It writes, or makes a box; no call. -/
def wrB (L : Pol) (o : Oper) : Bool :=
  match o.op with
  | .alloc _ | .box .. | .store .. => true
  | .buildSlice .. => (o.dst.map L.wr).getD false
  | .call ⟨.builtin .append, _, _⟩ => (o.dst.map L.wr).getD false
  | _ => false
/-- It works out an address. -/
def adr (o : Oper) : Bool :=
  match o.op with
  | .nilCheck _ | .fieldAddr .. => true
  | _ => false
def compatO (L : Pol) (oi oj : Oper) : Bool :=
  compat (cls L oi) (cls L oj) || (cls L oi == 3 && newB L oj) || (wrB L oi && adr oj)

theorem load_spec {o : Oper} (hc : cls L o = 3) {K : V → S → Prop} (h : aop P L e st o K KP) : ∃ v, K v st ∧ ∀ st' K' KP', More st st' → K' v st' → aop P L e st' o K' KP' := by
  obtain ⟨dst, op, ty, pos, af, gd⟩ := o
  cases op <;> simp only [cls] at hc <;> try (first | omega | (split at hc <;> first | omega | (split at hc <;> omega)))
  case load t x =>
    simp only [aop] at h ⊢
    obtain ⟨v, h1, h2⟩ := pt_aLoad _ _ _ _ h
    exact ⟨v, h1, fun st' K' _ hb k => aLoad_more hb _ _ _ (h2 (fun v => K' v st') k)⟩

end
end Go.Al
