/-
  AL, part 15: the equations by which a walk goes. General: no program in sight.
-/
import Derived.Test.YtdedkemkmccliaaAl14
set_option linter.unusedVariables false
set_option linter.unusedSimpArgs false
namespace Go.Al

section
variable {P : Program} {L : Pol} {ds : List (Option Nat)} {KP : List PanicEntry → S → Prop} {os : List Oper} {K : Env → S → Prop} {e : Env} {st : S}
variable {d : Option Nat} {ty : TypeId} {pos : String} {af : Array Edge}

theorem AL_nil : AL P L ds KP [] K e st = K e st := rfl
theorem AL_move (x : Operand) : AL P L ds KP (⟨d, .move x, ty, pos, af, none⟩ :: os) K e st = AL P L ds KP os K (e.putO d (e.ev x)) st := rfl
theorem AL_assign (x : Operand) : AL P L ds KP (⟨d, .assign x, ty, pos, af, none⟩ :: os) K e st = AL P L ds KP os K (e.putO d (e.ev x)) st := rfl
theorem AL_pick (c x y : Operand) : AL P L ds KP (⟨d, .pick c x y, ty, pos, af, none⟩ :: os) K e st = aPick (e.ev c) (e.ev x) (e.ev y) fun v => AL P L ds KP os K (e.putO d v) st := rfl
theorem AL_bin (op : BinOp) (t : TypeId) (x y : Operand) (t2 : TypeId) : AL P L ds KP (⟨d, .binOp op t x y t2, ty, pos, af, none⟩ :: os) K e st = aBin P op t (e.ev x) (e.ev y) fun v => AL P L ds KP os K (e.putO d v) st := rfl
theorem AL_un (op : UnOp) (t : TypeId) (x : Operand) : AL P L ds KP (⟨d, .unOp op t x, ty, pos, af, none⟩ :: os) K e st = aUn op (e.ev x) fun v => AL P L ds KP os K (e.putO d v) st := rfl
theorem AL_extract (x : Operand) (i : Nat) : AL P L ds KP (⟨d, .extract x i, ty, pos, af, none⟩ :: os) K e st = aExtract (e.ev x) i fun v => AL P L ds KP os K (e.putO d v) st := rfl
theorem AL_field (t : TypeId) (x : Operand) (f : Nat) : AL P L ds KP (⟨d, .field t x f, ty, pos, af, none⟩ :: os) K e st = aField P t (e.ev x) f fun v => AL P L ds KP os K (e.putO d v) st := rfl
theorem AL_fieldAddr (t : TypeId) (x : Operand) (f : Nat) : AL P L ds KP (⟨d, .fieldAddr t x f, ty, pos, af, none⟩ :: os) K e st = aFieldAddr P t (e.ev x) f fun v => AL P L ds KP os K (e.putO d v) st := rfl
theorem AL_indexAddr (t : TypeId) (x i : Operand) : AL P L ds KP (⟨d, .indexAddr t x i, ty, pos, af, none⟩ :: os) K e st = aIndexAddr P t (e.ev x) (e.ev i) fun v => AL P L ds KP os K (e.putO d v) st := rfl
theorem AL_index (t : TypeId) (x i : Operand) : AL P L ds KP (⟨d, .index t x i, ty, pos, af, none⟩ :: os) K e st = aIndex P t (e.ev x) (e.ev i) fun v => AL P L ds KP os K (e.putO d v) st := rfl
theorem AL_load (t : TypeId) (x : Operand) : AL P L ds KP (⟨d, .load t x, ty, pos, af, none⟩ :: os) K e st = aLoad P st t (e.ev x) fun v => AL P L ds KP os K (e.putO d v) st := rfl
theorem AL_store (t : TypeId) (x y : Operand) : AL P L ds KP (⟨d, .store t x y, ty, pos, af, none⟩ :: os) K e st = aStore P st t (e.ev x) (e.ev y) fun st' => AL P L ds KP os K (e.putO d .any) st' := rfl
theorem AL_alloc (t : TypeId) : AL P L ds KP (⟨d, .alloc t, ty, pos, af, none⟩ :: os) K e st = aAlloc P st t fun v st' => AL P L ds KP os K (e.putO d v) st' := rfl
theorem AL_box (t : TypeId) (x : Operand) : AL P L ds KP (⟨d, .box t x, ty, pos, af, none⟩ :: os) K e st = aNew st (e.ev x).flat fun v st' => AL P L ds KP os K (e.putO d v) st' := rfl
theorem AL_build (t : TypeId) (ps : List (Nat × Operand)) : AL P L ds KP (⟨d, .build t ps.toArray, ty, pos, af, none⟩ :: os) K e st = aBuild P t (ps.map fun p => (p.1, e.ev p.2)) fun v => AL P L ds KP os K (e.putO d v) st := rfl
theorem AL_buildSlice (t : TypeId) (n : Nat) (ps : List (Nat × Operand)) : AL P L ds KP (⟨d, .buildSlice t n ps.toArray, ty, pos, af, none⟩ :: os) K e st = aBuildSlice P L d st t n (ps.map fun p => (p.1, e.ev p.2)) fun v st' => AL P L ds KP os K (e.putO d v) st' := rfl
theorem AL_nilCheck (x : Operand) : AL P L ds KP (⟨d, .nilCheck x, ty, pos, af, none⟩ :: os) K e st = aNilCheck (e.ev x) fun v => AL P L ds KP os K (e.putO d v) st := rfl
theorem AL_slice (t : TypeId) (x : Operand) (lo hi : Option Operand) : AL P L ds KP (⟨d, .slice t x lo hi none, ty, pos, af, none⟩ :: os) K e st = (true = true ∧ aSlice P t (e.ev x) (lo.map e.ev) (hi.map e.ev) fun v => AL P L ds KP os K (e.putO d v) st) := rfl
theorem AL_len (t : TypeId) (x : Operand) : AL P L ds KP (⟨d, .call ⟨.builtin .len, #[x], #[t]⟩, ty, pos, af, none⟩ :: os) K e st = aLen P t (e.ev x) fun v => AL P L ds KP os K (e.putO d v) st := rfl
theorem AL_max (t t2 : TypeId) (x y : Operand) : AL P L ds KP (⟨d, .call ⟨.builtin .max, #[x, y], #[t, t2]⟩, ty, pos, af, none⟩ :: os) K e st = aMax (e.ev x) (e.ev y) fun v => AL P L ds KP os K (e.putO d v) st := rfl
theorem AL_append (t t2 : TypeId) (x y : Operand) : AL P L ds KP (⟨d, .call ⟨.builtin .append, #[x, y], #[t, t2]⟩, ty, pos, af, none⟩ :: os) K e st = aAppend P L d st t t2 (e.ev x) (e.ev y) fun v st' => AL P L ds KP os K (e.putO d v) st' := rfl

/-- A guarded operation. -/
def aGuard : V → Bool → Prop → Prop → Prop
  | .at (.bool t), b, A, B => if t = b then A else B
  | .tup [], _, _, B => B
  | _, _, _, _ => False

theorem AL_guard (op : Op) (j : Nat) (b : Bool) (t : Nat) (hj : ds.getD j none = some t) : AL P L ds KP (⟨d, op, ty, pos, af, some (j, b)⟩ :: os) K e st =
    aGuard (e.get t) b (AL P L ds KP (⟨d, op, ty, pos, af, none⟩ :: os) K e st) (AL P L ds KP os K (e.putO d (.tup [])) st) := by
  show astep P L ds KP ⟨d, op, ty, pos, af, some (j, b)⟩ (AL P L ds KP os K) e st = aGuard (e.get t) b (astep P L ds KP ⟨d, op, ty, pos, af, none⟩ (AL P L ds KP os K) e st) _
  unfold astep aGuard awant
  simp only [hj]
  cases hv : e.get t with
  | tup vs => cases vs <;> rfl
  | any => rfl
  | agg fs => rfl
  | lst tg es => rfl
  | rptr x => rfl
  | iface t x => rfl
  | clo fn caps => rfl
  | _ =>
    rename_i v
    cases v with
    | bool c => cases c <;> cases b <;> rfl
    | _ => rfl

theorem aGuard_same (b : Bool) (A B : Prop) : aGuard (.at (.bool b)) b A B = A := by simp [aGuard]
theorem aGuard_tf (A B : Prop) : aGuard (.at (.bool true)) false A B = B := rfl
theorem aGuard_ft (A B : Prop) : aGuard (.at (.bool false)) true A B = B := rfl

/-- A call by a contract without memory. -/
theorem AL_call {f : FuncId} {xs : List Operand} {ts : Array TypeId} (r : V) (hL : L.pf f = true) (hc : isCode P f = true) (ha : ((xs.map e.ev).all fun x => x.flat.all V.isOne) = true) (hp : PureF P f ((xs.map e.ev).map V.untag) r)
    (h : AL P L ds KP os K (e.putO d r) st) : AL P L ds KP (⟨d, .call ⟨.value (.func f), xs.toArray, ts⟩, ty, pos, af, none⟩ :: os) K e st := by
  show isCode P f = true ∧ _ ∧ _ ∧ _
  refine ⟨hc, ha, rfl, ?_⟩
  rw [if_pos hL]
  exact ⟨rfl, r, hp, h⟩

/-- A call by a contract over a store. -/
theorem AL_callC {f : FuncId} {xs : List Operand} {ts : Array TypeId} {Q : Outc → S → Prop} (as : List V) (hL : L.pf f = false) (hc : isCode P f = true) (ha : ((xs.map e.ev).all fun x => x.flat.all V.isOne) = true) (hsub : Sub (xs.map e.ev) as) (hp : FnC P f as st Q)
    (h : ∀ r s, Q (.ret r) s → AL P L ds KP os K (e.putO d r) s) (hpn : ∀ c s, Q (.pan c) s → KP c s) : AL P L ds KP (⟨d, .call ⟨.value (.func f), xs.toArray, ts⟩, ty, pos, af, none⟩ :: os) K e st := by
  show isCode P f = true ∧ _ ∧ _ ∧ _
  refine ⟨hc, ha, rfl, ?_⟩
  rw [if_neg (by simp [hL])]
  refine ⟨as, hsub, ?_⟩
  intro B g w vs hi hv
  rw [List.append_nil] at hv
  refine (hp B g w vs hi hv).mono ?_
  rintro en w' ⟨g', st', h1, h2, h3⟩
  refine ⟨g', st', h1, h2, ?_⟩
  cases en with
  | returned v => obtain ⟨r, h4, h5⟩ := h3; exact ⟨r, h4, h r st' h5⟩
  | panicked c => exact hpn c st' h3
  | outgrown => exact h3.elim

/- Within an operation only what it looks at is worked out, not what comes behind it. -/
theorem AL_congr {P : Program} {L : Pol} {ds : List (Option Nat)} {KP : List PanicEntry → S → Prop} {l : List Oper} {K : Env → S → Prop} {e : Env} {st : S} : AL P L ds KP l K e st = AL P L ds KP l K e st := rfl
theorem aGuard_congr {x x' : V} (h : x = x') (b : Bool) (A B : Prop) : aGuard x b A B = aGuard x' b A B := by rw [h]
theorem aPick_congr {c c' x x' y y' : V} (h : c = c') (h2 : x = x') (h3 : y = y') (K : V → Prop) : aPick c x y K = aPick c' x' y' K := by rw [h, h2, h3]
theorem aBin_congr (P : Program) (op : BinOp) (t : TypeId) {x x' y y' : V} (h2 : x = x') (h3 : y = y') (K : V → Prop) : aBin P op t x y K = aBin P op t x' y' K := by rw [h2, h3]
theorem aUn_congr (op : UnOp) {x x' : V} (h : x = x') (K : V → Prop) : aUn op x K = aUn op x' K := by rw [h]
theorem aExtract_congr {x x' : V} (h : x = x') (i : Nat) (K : V → Prop) : aExtract x i K = aExtract x' i K := by rw [h]
theorem aField_congr (P : Program) (t : TypeId) {x x' : V} (h : x = x') (f : Nat) (K : V → Prop) : aField P t x f K = aField P t x' f K := by rw [h]
theorem aFieldAddr_congr (P : Program) (t : TypeId) {x x' : V} (h : x = x') (f : Nat) (K : V → Prop) : aFieldAddr P t x f K = aFieldAddr P t x' f K := by rw [h]
theorem aIndexAddr_congr (P : Program) (t : TypeId) {x x' i i' : V} (h : x = x') (h2 : i = i') (K : V → Prop) : aIndexAddr P t x i K = aIndexAddr P t x' i' K := by rw [h, h2]
theorem aIndex_congr (P : Program) (t : TypeId) {x x' i i' : V} (h : x = x') (h2 : i = i') (K : V → Prop) : aIndex P t x i K = aIndex P t x' i' K := by rw [h, h2]
theorem aLoad_congr (P : Program) {st st' : S} (hs : st = st') (t : TypeId) {x x' : V} (h : x = x') (K : V → Prop) : aLoad P st t x K = aLoad P st' t x' K := by rw [h, hs]
theorem aStore_congr (P : Program) {st st' : S} (hs : st = st') (t : TypeId) {x x' y y' : V} (h : x = x') (h2 : y = y') (K : S → Prop) : aStore P st t x y K = aStore P st' t x' y' K := by rw [h, hs, h2]
theorem aNew_congr {st st' : S} (hs : st = st') {c c' : List V} (h : c = c') (K : V → S → Prop) : aNew st c K = aNew st' c' K := by rw [h, hs]
theorem aAlloc_congr (P : Program) {st st' : S} (hs : st = st') (t : TypeId) (K : V → S → Prop) : aAlloc P st t K = aAlloc P st' t K := by rw [hs]
theorem aBuild_congr (P : Program) (t : TypeId) {ps ps' : List (Nat × V)} (h : ps = ps') (K : V → Prop) : aBuild P t ps K = aBuild P t ps' K := by rw [h]
theorem aBuildSlice_congr (P : Program) (L : Pol) (d : Option Nat) {st st' : S} (hs : st = st') (t : TypeId) (n : Nat) {ps ps' : List (Nat × V)} (h : ps = ps') (K : V → S → Prop) : aBuildSlice P L d st t n ps K = aBuildSlice P L d st' t n ps' K := by rw [h, hs]
theorem aNilCheck_congr {x x' : V} (h : x = x') (K : V → Prop) : aNilCheck x K = aNilCheck x' K := by rw [h]
theorem aSlice_congr (P : Program) (t : TypeId) {x x' : V} {lo lo' hi hi' : Option V} (h : x = x') (h2 : lo = lo') (h3 : hi = hi') (K : V → Prop) : aSlice P t x lo hi K = aSlice P t x' lo' hi' K := by rw [h, h2, h3]
theorem aLen_congr (P : Program) (t : TypeId) {x x' : V} (h : x = x') (K : V → Prop) : aLen P t x K = aLen P t x' K := by rw [h]
theorem aMax_congr {x x' y y' : V} (h : x = x') (h2 : y = y') (K : V → Prop) : aMax x y K = aMax x' y' K := by rw [h, h2]
theorem aAppend_congr (P : Program) (L : Pol) (d : Option Nat) {st st' : S} (hs : st = st') (t t2 : TypeId) {x x' y y' : V} (h : x = x') (h2 : y = y') (K : V → S → Prop) : aAppend P L d st t t2 x y K = aAppend P L d st' t t2 x' y' K := by rw [h, hs, h2]
theorem aInt_congr (op : BinOp) (k : IntKind) {x x' y y' : Int} (h : x = x') (h2 : y = y') (K : V → Prop) : aInt op k x y K = aInt op k x' y' K := by rw [h, h2]
theorem boundV_congr {x x' : Option V} (h : x = x') {d d' : Int} (h2 : d = d') (K : Int → Prop) : boundV x d K = boundV x' d' K := by rw [h, h2]

end
end Go.Al
