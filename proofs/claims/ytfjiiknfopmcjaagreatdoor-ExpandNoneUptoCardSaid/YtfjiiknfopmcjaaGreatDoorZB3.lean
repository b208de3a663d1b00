/-
  Part 3 of what the last text needs: library, runs, contracts, plain laws. No condition of its own.
-/
import Derived.Test.YtfjiiknfopmcjaaGreatDoorZB2
import Derived.IntWalk
set_option linter.unusedVariables false
set_option linter.unusedSimpArgs false
set_option linter.unusedSectionVars false
section
namespace Go.Al
open Go.RowKit
section
variable {P:Program} {L:Pol} {X:Cx} {e:Env} {st:S} {KP:List PanicEntry->S->Prop}
theorem zMQ {o:Oper} (hc:cls L o=4) {K:V->S->Prop} (h:aop P L e st o K KP):∃ v st',st'.box=st.box/\K v st'/\∀ K' KP',K' v st'->aop P L e st o K' KP':=by
 obtain ⟨dst,op,ty,pos,af,gd⟩:=o;cases op <;> simp only [cls] at hc <;> try (first | omega | (split at hc <;> omega))
 case buildSlice t n ps=>
  split at hc
  . omega
  . rename_i h1;split at hc
    . rename_i h2;simp only [aop] at h ⊢;unfold yJ at h ⊢;split at h
      . cases h
      . obtain ⟨q1,q2,q3,q4,q5,q6,q7,q8,q9,q10⟩:=h;rw [if_neg h1,if_pos h2] at q10;exact ⟨_,⟨st.box,st.nx::st.tg,st.nx+1,st.ob⟩,rfl,q10,fun K' _ k=>⟨q1,q2,q3,q4,q5,q6,q7,q8,q9,by rw [if_neg h1,if_pos h2]; exact k⟩⟩
    . omega
 case call c=>
  obtain ⟨callee,args,ts⟩:=c;cases callee with
  | invoke r m=>simp at hc
  | value f=>cases f <;> simp only at hc <;> first | omega | (split at hc <;> omega)
  | builtin b=>
   simp only [aop] at h hc ⊢;unfold jd at h ⊢;split at h
   . simp only at hc; omega
   . simp only at hc ⊢;split at hc
     . omega
     . rename_i h1;unfold xE at h ⊢;split at h
       . obtain ⟨q1,q2,q3,q4,q5,q6⟩:=h;split at q6
         . obtain ⟨r1,r2,r3⟩:=q6;rw [if_neg h1] at r3;exact ⟨_,⟨st.box,st.nx::st.tg,st.nx+1,st.ob⟩,rfl,r3,fun K' _ k=>⟨q1,q2,q3,q4,q5,r1,r2,by rw [if_neg h1]; exact k⟩⟩
         . obtain ⟨r1,r2,r3,r4,r5⟩:=q6;exact ⟨_,⟨st.box,st.nx::st.tg.erase _,st.nx+1,st.ob⟩,rfl,r5,fun K' _ k=>⟨q1,q2,q3,q4,q5,r1,r2,r3,r4,k⟩⟩
         . split at q6
           . exact absurd q6.1 h1
           . cases q6
         . cases q6
       . exact absurd h.2.2.2.2.1 h1
       . cases h
   . simp at hc
   . cases h
theorem zG0 {f:FuncId} {args:List V} {Q Q':Outc->S->Prop} (h:FnC P f args st Q) (hq:∀ o s,Q o s->Q' o s):FnC P f args st Q':=by
 intro B g w vs hi hgl hv;refine (h B g w vs hi hgl hv).mono ?_;rintro en w' ⟨g',st',h1,h2,h3⟩;refine ⟨g',st',h1,h2,?_⟩;cases en with
 | returned v=>obtain ⟨r,h4,h5⟩:=h3; exact ⟨r,h4,hq _ _ h5⟩
 | panicked c=>exact hq _ _ h3
 | outgrown=>exact h3
theorem zJu {cs:List V} {K K':V->S->Prop} (h:aNew st cs K) (hk:∀ v s,K v s->K' v s):aNew st cs K':=⟨h.1,fun b hb=>hk _ _ (h.2 b hb)⟩
theorem zLc {dst:Option Nat} {t t2:TypeId} {s x:V} {K K':V->S->Prop} (h:xE P L dst st t t2 s x K) (hk:∀ v s,K v s->K' v s):xE P L dst st t t2 s x K':=by
 unfold xE at *;split at h
 . obtain ⟨q1,q2,q3,q4,q5,q6⟩:=h;refine ⟨q1,q2,q3,q4,q5,?_⟩;split at q6
   . obtain ⟨r1,r2,r3⟩:=q6;refine ⟨r1,r2,?_⟩;split at r3
     . rename_i hw;rw [if_pos hw];exact ⟨r3.1,r3.2.1,fun b cap hb hc=>hk _ _ (r3.2.2 b cap hb hc)⟩
     . rename_i hw;rw [if_neg hw];exact hk _ _ r3
   . obtain ⟨r1,r2,r3,r4,r5⟩:=q6;exact ⟨r1,r2,r3,r4,hk _ _ r5⟩
   . split at q6
     . obtain ⟨r0,r1,r2,r3,r4,r5,r6,r7⟩:=q6;exact ⟨r0,r1,r2,r3,r4,r5,r6,fun b cap hb hc=>hk _ _ (r7 b cap hb hc)⟩
     . cases q6
   . cases q6
 . obtain ⟨q1,q2,q3,q4,q5,q6⟩:=h;refine ⟨q1,q2,q3,q4,q5,?_⟩;split at q6
   . cases q6
   . obtain ⟨q6,q7⟩:=q6;refine ⟨q6,?_⟩;split at q7
     . obtain ⟨r1,r2,r3,r4⟩:=q7;exact ⟨r1,r2,r3,fun b cap hb hc=>hk _ _ (r4 b cap hb hc)⟩
     . split at q7
       . obtain ⟨r1,r2,r3,r4,r5,r7⟩:=q7;exact ⟨r1,r2,r3,r4,r5,fun b cap hb hc=>hk _ _ (r7 b cap hb hc)⟩
       . cases q7
     . cases q7
 . cases h
theorem zG5 {dst:Option Nat} {t:TypeId} {n:Nat} {ps:List (Nat×V)} {K K':V->S->Prop} (h:yJ P L dst st t n ps K) (hk:∀ v s,K v s->K' v s):yJ P L dst st t n ps K':=by
 unfold yJ at *;split at h
 . cases h
 . obtain ⟨q1,q2,q3,q4,q5,q6,q7,q8,q9,q10⟩:=h;refine ⟨q1,q2,q3,q4,q5,q6,q7,q8,q9,?_⟩;split at q10
   . rename_i h1;rw [if_pos h1];exact ⟨q10.1,fun b hb=>hk _ _ (q10.2 b hb)⟩
   . rename_i h1;rw [if_neg h1];split at q10
     . rename_i h2; rw [if_pos h2]; exact hk _ _ q10
     . rename_i h2; rw [if_neg h2]; exact hk _ _ q10
theorem qY {o:Oper} {K K':V->S->Prop} (h:aop P L e st o K KP) (hk:∀ v s,K v s->K' v s):aop P L e st o K' KP:=by
 by_cases hc:cls L o<=2
 . obtain ⟨v,h1,h2⟩:=zEZ hc h;exact h2 st K' KP (hk _ _ h1)
 . obtain ⟨dst,op,ty,pos,af,gd⟩:=o;cases op <;> simp only [cls] at hc <;> try (first | omega | (split at hc <;> omega))
   case load t x=>obtain ⟨v,h1,h2⟩:=zDM (o:=⟨dst,.load t x,ty,pos,af,gd⟩) rfl h; exact h2 st K' KP (More.of_eq rfl) (hk _ _ h1)
   case store t x y=>
    simp only [aop] at h ⊢;obtain ⟨h0,h⟩:=h;refine ⟨h0,?_⟩;unfold qF at *;split at h
    . split at h
      . obtain ⟨q1,q2,q3,q4,q5⟩:=h; exact ⟨q1,q2,q3,q4,hk _ _ q5⟩
      . cases h
    . cases h
   case alloc t=>
    simp only [aop] at h ⊢;unfold jZ at *;split at h
    . exact zJu h hk
    . cases h
   case box t x=>exact zJu h hk
   case buildSlice t n ps=>exact zG5 h hk
   case call c=>
    simp only [aop] at h ⊢;split at h
    . unfold zCL at *;split at h
      . obtain ⟨q1,q2,q3,q4⟩:=h;refine ⟨q1,q2,q3,?_⟩;split at q4
        . rename_i hp; rw [if_pos hp]; obtain ⟨r1,r,r2,r3⟩:=q4; exact ⟨r1,r,r2,hk _ _ r3⟩
        . rename_i hp; rw [if_neg hp];split at q4
          . rename_i hp2; rw [if_pos hp2]; obtain ⟨as,r,r1,r2,r3⟩:=q4; exact ⟨as,r,r1,r2,hk _ _ r3⟩
          . rename_i hp2; rw [if_neg hp2];exact q4.imp fun as q4=>⟨q4.1,zG0 q4.2 fun oc s hq=>by cases oc <;> first | exact ⟨hq.1,hk _ _ hq.2⟩ | exact hq⟩
      . cases h
    . unfold jd at *;split at h
      . obtain ⟨v,h1,h2⟩:=zNl _ _ _ h; exact h2 _ (hk _ _ h1)
      . exact zLc h hk
      . unfold zEC at *;split at h
        . split at h
          . exact ⟨h.1,h.2.1,hk _ _ h.2.2⟩
          . cases h
        . cases h
      . cases h
    . exact h.elim
   case makeInterface t x=>
    simp only [aop] at h ⊢;unfold zEe at *;obtain ⟨h1,h2⟩:=h;refine ⟨h1,?_⟩;revert h2;split
    . exact fun h2=>hk _ _ h2
    . split <;> exact fun h2=>hk _ _ h2
    . exact fun h2=>hk _ _ h2
   case makeFunc fn first caps=>
    simp only [aop] at h ⊢;unfold zHt at *;revert h;split
    . exact fun h=>⟨h.1,hk _ _ h.2⟩
    . exact fun h=>h
   case makeMap t r=>exact ⟨h.1,fun b hb=>hk _ _ (h.2 b hb)⟩
   case lookup t x i c=>
    simp only [aop] at h ⊢;unfold qt at *;split at h
    . split at h
      . obtain ⟨h1,h2⟩:=h;refine ⟨h1,?_⟩;split at h2
        . exact hk _ _ h2
        . split at h2
          . split at h2
            . exact hk _ _ h2
            . exact hk _ _ h2
          . cases h2
        . cases h2
      . cases h
    . cases h
   case mapUpdate t m k y=>
    simp only [aop] at h ⊢;unfold xl at *;split at h
    . split at h
      . exact ⟨h.1,hk _ _ h.2⟩
      . cases h
    . cases h
   case panic x=>exact h
   all_goals first | exact h.elim | (simp only [aop] at h)
theorem zAg (l:List (Nat×List V×Nat)):∃ b,Go.Al.look l b=none:=by
 have h:∀ l:List (Nat×List V×Nat),∃ n,∀ b,n<=b->Go.Al.look l b=none:=by
  intro l
  induction l with
  | nil=>exact ⟨0,fun _ _=>rfl⟩
  | cons p r ih=>
   obtain ⟨n,hn⟩:=ih;obtain ⟨k,c⟩:=p;refine ⟨max n (k+1),fun b hb=>?_⟩;show (if k=b then some c else Go.Al.look r b)=none;rw [if_neg (by omega),hn b (by omega)]
 obtain ⟨n,hn⟩:=h l;exact ⟨n,hn n (Nat.le_refl _)⟩
theorem zSE {o:Oper} (hc:wrB L o=true) {C:Prop} (h:aop P L e st o (fun _ _=>C) KP):C:=by
 obtain ⟨dst,op,ty,pos,af,gd⟩:=o;have hnew:∀ {cs:List V},aNew st cs (fun _ _=>C)->C:=fun h=>by
  obtain ⟨b,hb⟩:=zAg st.box;exact h.2 b hb
 cases op <;> simp only [wrB] at hc <;> try (simp at hc; done)
 case alloc t=>
  simp only [aop] at h;unfold jZ at h;split at h
  . exact hnew h
  . cases h
 case box t x=>exact hnew h
 case store t x y=>
  simp only [aop] at h;replace h:=h.2;unfold qF at h;split at h
  . split at h
    . exact h.2.2.2.2
    . cases h
  . cases h
 case buildSlice t n ps=>
  simp only [aop] at h;unfold yJ at h;split at h
  . cases h
  . obtain ⟨q1,q2,q3,q4,q5,q6,q7,q8,q9,q10⟩:=h;rw [if_pos hc] at q10;obtain ⟨b,hb⟩:=zAg st.box;exact q10.2 b hb
 case call c=>
  obtain ⟨callee,args,ts⟩:=c;cases callee with
  | invoke r m=>simp at hc
  | value f=>simp at hc
  | builtin b=>
   cases b <;> simp only at hc <;> try (simp at hc; done)
   simp only [aop] at h;unfold jd at h;split at h
   . contradiction
   . unfold xE at h;split at h
     . obtain ⟨q1,q2,q3,q4,q5,q6⟩:=h;split at q6
       . obtain ⟨r1,r2,r3⟩:=q6;rw [if_pos hc] at r3;obtain ⟨b,hb⟩:=zAg st.box;exact r3.2.2 b _ hb (Nat.le_refl _)
       . exact q6.2.2.2.2
       . split at q6
         . obtain ⟨r0,r1,r2,r3,r4,r5,r6,r7⟩:=q6;obtain ⟨b,hb⟩:=zAg (wipe st.box _);exact r7 b _ hb (Nat.le_refl _)
         . cases q6
       . cases q6
     . obtain ⟨q1,q2,q3,q4,q5,q6⟩:=h;split at q6
       . cases q6
       . obtain ⟨q6,q7⟩:=q6;split at q7
         . obtain ⟨r1,r2,r3,r4⟩:=q7;obtain ⟨b,hb⟩:=zAg st.box;exact r4 b _ hb (Nat.le_refl _)
         . split at q7
           . obtain ⟨r1,r2,r3,r4,r5,r7⟩:=q7;obtain ⟨b,hb⟩:=zAg (wipe st.box _);exact r7 b _ hb (Nat.le_refl _)
           . cases q7
         . cases q7
     . cases h
   . contradiction
   . cases h
theorem zSF {o:Oper} (hc:adr o=true) {K:V->S->Prop} (h:aop P L e st o K KP):∃ v,∀ st' K' KP',aop P L e st' o K' KP'↔K' v st':=by
 obtain ⟨dst,op,ty,pos,af,gd⟩:=o;cases op <;> simp only [adr] at hc <;> try (simp at hc; done)
 case nilCheck x=>
  simp only [aop] at h ⊢;unfold xF at *;split at h
  . rename_i hx; simp only [hx]; exact ⟨_,fun _ _ _=>Iff.rfl⟩
  . rename_i hx; simp only [hx]; exact ⟨_,fun _ _ _=>Iff.rfl⟩
  . cases h
 case fieldAddr t x f=>
  simp only [aop] at h ⊢;unfold yP at *;split at h
  . exact ⟨_,fun _ _ _=>⟨fun q=>q.2.2.2,fun q=>⟨h.1,h.2.1,h.2.2.1,q⟩⟩⟩
  . exact ⟨_,fun _ _ _=>⟨fun q=>q.2.2,fun q=>⟨h.1,h.2.1,q⟩⟩⟩
  . cases h
theorem zT1 {o:Oper} (hc:lkB o=true) {K:V->S->Prop} (h:aop P L e st o K KP):∃ v,K v st/\∀ (s:S) (K':V->S->Prop) KP',s.ob=st.ob->K' v s->aop P L e s o K' KP':=by
 obtain ⟨dst,op,ty,pos,af,gd⟩:=o;cases op <;> simp only [lkB] at hc <;> try (simp at hc; done)
 rename_i t x i c;simp only [aop] at h ⊢;unfold qt at h;split at h
 . rename_i h1 h2;split at h
   . rename_i h3;have hz:=h.1;replace h:=h.2;split at h
     . rename_i h4;exact ⟨_,h,fun s K' _ hs k=>by unfold qt; simp only [h1,h2,h3,h4]; exact ⟨hz,k⟩⟩
     . rename_i b h4;split at h
       . rename_i oo fp h5;split at h
         . rename_i v h6;exact ⟨_,h,fun s K' _ hs k=>by unfold qt; simp only [h1,h2,h3,h4,hs,h5,h6]; exact ⟨hz,k⟩⟩
         . rename_i h6;exact ⟨_,h,fun s K' _ hs k=>by unfold qt; simp only [h1,h2,h3,h4,hs,h5,h6]; exact ⟨hz,k⟩⟩
       . cases h
     . cases h
   . cases h
 . cases h
theorem zSs {o:Oper} (hc:obB o=true) {K:V->S->Prop} (h:aop P L e st o K KP):aop P L e st o (fun v s=>s.ob=st.ob/\K v s) KP:=by
 obtain ⟨dst,op,ty,pos,af,gd⟩:=o;cases op <;> simp only [obB] at hc <;> try (simp at hc; done)
 case alloc t=>
  simp only [aop] at h ⊢;unfold jZ at *;split at h
  . exact ⟨h.1,fun b hb=>⟨rfl,h.2 b hb⟩⟩
  . cases h
 case box t x=>exact ⟨h.1,fun b hb=>⟨rfl,h.2 b hb⟩⟩
theorem zRg {o:Oper} (hc:newB L o=true) {K:V->S->Prop} (h:aop P L e st o K KP):aop P L e st o (fun v s=>More st s/\K v s) KP:=by
 have hlay:∀ (b:Nat) (c:List V×Nat) (tg:List Nat) (n:Nat) (ob:List (Nat×OV×List Nat)),Go.Al.look st.box b=none->More st ⟨lay st.box b c,tg,n,ob⟩:=fun b c tg n ob hb b' c' hl=>by
  show Go.Al.look (lay st.box b c) b' = some c';rw [zO];by_cases e1:b=b'
  . subst e1; rw [hb] at hl; cases hl
  . rw [if_neg e1]; exact hl
 obtain ⟨dst,op,ty,pos,af,gd⟩:=o;cases op <;> simp only [newB] at hc <;> try (simp at hc; done)
 case alloc t=>
  simp only [aop] at h ⊢;unfold jZ at *;split at h
  . exact ⟨h.1,fun b hb=>⟨hlay _ _ _ _ _ hb,h.2 b hb⟩⟩
  . cases h
 case box t x=>exact ⟨h.1,fun b hb=>⟨hlay _ _ _ _ _ hb,h.2 b hb⟩⟩
 case lookup t x i c=>
  simp only [aop] at h ⊢;unfold qt at *;split at h
  . split at h
    . refine ⟨h.1,?_⟩;replace h:=h.2;split at h
      . exact ⟨More.of_eq rfl,h⟩
      . split at h
        . split at h
          . exact ⟨More.of_eq rfl,h⟩
          . exact ⟨More.of_eq rfl,h⟩
        . cases h
      . cases h
    . cases h
  . cases h
 case buildSlice t n ps=>
  simp only [aop] at h ⊢;unfold yJ at *;split at h
  . cases h
  . obtain ⟨q1,q2,q3,q4,q5,q6,q7,q8,q9,q10⟩:=h;rw [if_pos hc] at q10;exact ⟨q1,q2,q3,q4,q5,q6,q7,q8,q9,by rw [if_pos hc]; exact ⟨q10.1,fun b hb=>⟨hlay _ _ _ _ _ hb,q10.2 b hb⟩⟩⟩
theorem zFO {o:Oper} {e':Env} (h:∀ x ∈ o.op.operands,e.ev x=e'.ev x) (K:V->S->Prop):aop P L e st o K KP=aop P L e' st o K KP:=by
 obtain ⟨dst,op,ty,pos,af,gd⟩:=o;have pairs:∀ ps:Array (Nat×Operand),(∀ x ∈ (ps.toList.map (·.2)).toArray,e.ev x=e'.ev x)->(ps.toList.map fun p=>(p.1,e.ev p.2))=ps.toList.map fun p=>(p.1,e'.ev p.2):=fun ps hp=>
  List.map_congr_left fun p hm=>by rw [hp p.2 (by simp only [List.mem_toArray,List.mem_map]; exact ⟨p,hm,rfl⟩)]
 cases op <;> simp only [Op.operands] at h <;> simp only [aop]
 case build t ps=>rw [pairs ps h]
 case buildSlice t n ps=>rw [pairs ps h]
 case slice t x lo hi mx=>
  have h1:=h x (by simp);have h2:lo.map e.ev=lo.map e'.ev:=by cases lo <;> simp_all
  have h3:hi.map e.ev=hi.map e'.ev:=by cases hi <;> simp_all
  rw [h1,h2,h3]
 case makeFunc fn first caps=>
  have h1:first.toList.map e.ev=first.toList.map e'.ev:=List.map_congr_left fun x hx=>h x (by simp only [Array.mem_append]; exact .inl (by simpa using hx));have h2:caps.toList.map e.ev=caps.toList.map e'.ev:=List.map_congr_left fun x hx=>h x (by simp only [Array.mem_append]; exact .inr (by simpa using hx));rw [h1,h2]
 case call c=>
  have hargs:c.args.toList.map e.ev=c.args.toList.map e'.ev:=List.map_congr_left fun x hx=>h x (by simp only [Call.operands,Array.mem_append]; exact .inr (by simpa using hx));cases hc:c.callee with
  | value f=>
   have hf:e.ev f=e'.ev f:=h f (by simp [Call.operands,hc]);simp only [hargs,hf]
  | invoke r m=>
   have hf:e.ev r=e'.ev r:=h r (by simp [Call.operands,hc]);simp only [hargs,hf]
  | builtin b=>simp only [hargs]
 all_goals (first | rfl | (simp_all; done))
end
open Go.RowKit
section
variable {P:Program} {L:Pol} {X:Cx} {ops:Array Oper} {ds:List (Option Nat)} {e:Env} {st:S} {KP:List PanicEntry->S->Prop}
def Env.eqv (e e':Env):Prop:=∀ k,e.get k=e'.get k
def Resp (K:Env->S->Prop):Prop:=∀ e e' s,e.eqv e'->K e s->K e' s
theorem ev_eqv {e e':Env} (h:e.eqv e') (x:Operand):e.ev x=e'.ev x:=by
 cases x with
 | tmp t=>exact h t
 | _=>rfl
theorem zL0 {e e':Env} (h:e.eqv e') (d:Option Nat) (v:V):(e.putO d v).eqv (e'.putO d v):=by
 intro k;cases d with
 | none=>exact h k
 | some d=>simp only [Env.putO,Env.get_put]; rw [h k]
theorem zQp {e e':Env} (h:e.eqv e') (gd:Option (Nat×Bool)):qq ds e gd=qq ds e' gd:=by
 unfold qq;cases gd with
 | none=>rfl
 | some p=>obtain ⟨j,b⟩:=p; simp only; cases ds.getD j none with
  | none=>rfl
  | some d=>simp only [h d]
theorem xn {o:Oper} {K K':Env->S->Prop} (h:zi P L ds KP o K e st) (hk:∀ e s,K e s->K' e s):zi P L ds KP o K' e st:=by
 unfold zi at *;split at h
 . exact h
 . split at h
   . rename_i hc; rw [if_pos hc]; exact qY h fun _ _ q=>hk _ _ q
   . rename_i hc; rw [if_neg hc]; exact hk _ _ h
theorem zOh {o:Oper} {K:Env->S->Prop} (hK:Resp K):Resp (zi P L ds KP o K):=by
 intro e e' s h hh;unfold zi at *;rw [<- zQp h];split at hh
 . exact hh
 . split at hh
   . rename_i hc; rw [if_pos hc];rw [zFO (e':=e) (fun x _=>(ev_eqv h x).symm)];exact qY hh fun v s q=>hK _ _ _ (zL0 h _ _) q
   . rename_i hc; rw [if_neg hc]; exact hK _ _ _ (zL0 h _ _) hh
theorem zKw {d:Option Nat} {v:V} {o:Oper} (h:∀ t,d=some t->t ∉ o.looksAt ops):∀ x ∈ o.op.operands,(e.putO d v).ev x=e.ev x:=by
 intro x hx;cases d with
 | none=>rfl
 | some t=>
  cases x with
  | tmp u=>
   have hne:t≠u:=fun e1=>h t rfl (by subst e1; exact List.mem_append_left _ (List.mem_filterMap.2 ⟨.tmp t,by simpa using hx,rfl⟩));simp only [Env.putO,Env.ev,Env.get_put,if_neg hne]
  | _=>rfl
theorem zJ8 (hds:ds=ops.toList.map (·.dst)) {d:Option Nat} {v:V} {o:Oper} (h:∀ t,d=some t->t ∉ o.looksAt ops):qq ds (e.putO d v) o.guard=qq ds e o.guard:=by
 cases d with
 | none=>rfl
 | some t=>
  unfold qq;cases hg:o.guard with
  | none=>rfl
  | some p=>
   obtain ⟨j,b⟩:=p;simp only;cases hd:ds.getD j none with
   | none=>rfl
   | some u=>
    have hj:(ops[j]?).bind (·.dst)=some u:=by
     subst hds;simp only [List.getD_eq_getElem?_getD,List.getElem?_map,Array.getElem?_toList] at hd;cases hq:ops[j]? with
     | none=>simp [hq] at hd
     | some oj=>simpa [hq] using hd
    have hne:t≠u:=fun e1=>h t rfl (by subst e1; refine List.mem_append_right _ ?_; simp [hg,hj]);simp only [Env.putO,Env.get_put,if_neg hne]
theorem zG2 {di dj:Option Nat} {vi vj:V} (h:∀ t,di=some t->dj≠some t):((e.putO di vi).putO dj vj).eqv ((e.putO dj vj).putO di vi):=by
 intro k;cases di with
 | none=>cases dj <;> rfl
 | some t=>
  cases dj with
  | none=>rfl
  | some u=>
   have hne:t≠u:=fun e1=>h t rfl (by rw [e1]);simp only [Env.putO,Env.get_put];by_cases h1:u=k
   . by_cases h2:t=k
     . exact absurd (h2.trans h1.symm) hne
     . simp [h1,h2]
   . simp [h1]
theorem ja (hds:ds=ops.toList.map (·.dst)) {o:Oper} {d:Option Nat} {v:V} (h1:∀ t,d=some t->t ∉ o.looksAt ops) (h2:∀ t,d=some t->o.dst≠some t) {K:Env->S->Prop} (hK:Resp K)
 (h:zi P L ds KP o K (e.putO d v) st):zi P L ds KP o (fun e' s=>K (e'.putO d v) s) e st:=by
 unfold zi at *;rw [zJ8 hds h1] at h;split at h
 . exact h
 . split at h
   . rename_i hc;rw [if_pos hc];rw [zFO (zKw h1)] at h;exact qY h fun u s q=>hK _ _ _ (zG2 h2) q
   . rename_i hc;rw [if_neg hc];exact hK _ _ _ (zG2 h2) h
theorem kW {o:Oper} {K:Env->S->Prop} (h:zi P L ds KP o K e st):zi P L ds KP o (fun e' s=>(∃ v,e' = e.putO o.dst v)/\(cls L o<=4\/newB L o=true->More st s)/\K e' s) e st:=by
 unfold zi at *;split at h
 . exact h
 . split at h
   . rename_i hc;rw [if_pos hc];by_cases h2:cls L o<=2
     . obtain ⟨v,k1,k2⟩:=zEZ h2 h;exact k2 _ _ _ ⟨⟨v,rfl⟩,fun _=>More.of_eq rfl,k1⟩
     . by_cases h3:cls L o=3
       . obtain ⟨v,k1,k2⟩:=zDM h3 h;exact k2 _ _ _ (More.of_eq rfl) ⟨⟨v,rfl⟩,fun _=>More.of_eq rfl,k1⟩
       . by_cases h4:cls L o=4
         . obtain ⟨v,st',k0,k1,k2⟩:=zMQ h4 h;exact k2 _ _ ⟨⟨v,rfl⟩,fun _=>More.of_eq k0,k1⟩
         . by_cases h6:newB L o=true
           . exact qY (zRg h6 h) fun v s q=>⟨⟨v,rfl⟩,fun _=>q.1,q.2⟩
           . exact qY h fun v s q=>⟨⟨v,rfl⟩,fun h5=>h5.elim (fun h5=>by omega) (fun h5=>absurd h5 h6),q⟩
   . rename_i hc;rw [if_neg hc];exact ⟨⟨_,rfl⟩,fun _=>More.of_eq rfl,h⟩
theorem zKH {oi o:Oper} (hc:kpB L oi o=true) {K:Env->S->Prop} (h:zi P L ds KP o K e st):zi P L ds KP o (fun e' s=>(∃ v,e' = e.putO o.dst v)/\(∀ b ∈ klb L (kkey o),Go.Al.look s.box b=Go.Al.look st.box b)/\K e' s) e st:=by
 unfold zi at *;split at h
 . exact h
 . split at h
   . rename_i hw;rw [if_pos hw];exact qY (zOR hc h) fun v s q=>⟨⟨v,rfl⟩,q.1,q.2⟩
   . rename_i hw;rw [if_neg hw];exact ⟨⟨_,rfl⟩,fun _ _=>rfl,h⟩
theorem zKK {o:Oper} (hc:obB o=true) {K:Env->S->Prop} (h:zi P L ds KP o K e st):zi P L ds KP o (fun e' s=>(∃ v,e' = e.putO o.dst v)/\s.ob=st.ob/\K e' s) e st:=by
 unfold zi at *;split at h
 . exact h
 . split at h
   . rename_i hw;rw [if_pos hw];exact qY (zSs hc h) fun v s q=>⟨⟨v,rfl⟩,q.1,q.2⟩
   . rename_i hw;rw [if_neg hw];exact ⟨⟨_,rfl⟩,rfl,h⟩
theorem zGe {o:Oper} (hc:cls L o<=3) {st1:S} (hb:st1.box=st.box) {K:Env->S->Prop} (h:zi P L ds KP o K e st1):zi P L ds KP o (fun e' s=>s=st/\K e' st1) e st:=by
 unfold zi at *;split at h
 . exact h
 . split at h
   . rename_i hw;rw [if_pos hw];by_cases h2:cls L o<=2
     . obtain ⟨v,k1,k2⟩:=zEZ h2 h;exact k2 _ _ _ ⟨rfl,k1⟩
     . obtain ⟨v,k1,k2⟩:=zDM (by omega) h;exact k2 _ _ _ (More.of_eq hb.symm) ⟨rfl,k1⟩
   . rename_i hw;rw [if_neg hw];exact ⟨rfl,h⟩
theorem zOv (hds:ds=ops.toList.map (·.dst)) {oi oj:Oper} (hap:oi.apart ops oj=true) (hc:zCb L oi oj=true) {K:Env->S->Prop} (hK:Resp K)
 (H:zi P L ds KP oi (zi P L ds KP oj K) e st):zi P L ds KP oj (zi P L ds KP oi K) e st:=by
 obtain ⟨a1,a2,a3⟩:=Oper.apart_spec hap;have hw:∀ v,qq ds (e.putO oj.dst v) oi.guard=qq ds e oi.guard:=fun v=>zJ8 hds a3;have hcg:∀ v s (K':V->S->Prop),aop P L (e.putO oj.dst v) s oi K' KP=aop P L e s oi K' KP:=fun v s K'=>zFO (zKw a3) K';cases hi:qq ds e oi.guard with
 | none=>unfold zi at H; rw [hi] at H; exact H.elim
 | some c=>
  cases c with
  | false=>
   unfold zi at H;rw [hi] at H;simp only [Bool.false_eq_true,if_false] at H;have H1:=kW (ja hds a1 a2 hK H);refine xn H1 ?_;rintro e' s ⟨⟨v,rfl⟩,_,hk⟩;unfold zi;rw [hw v,hi];simpa using hk
  | true=>
   have H0:aop P L e st oi (fun v st'=>zi P L ds KP oj K (e.putO oi.dst v) st') KP:=by
    unfold zi at H;rw [hi] at H;simp only [if_true] at H;exact H
   have fin:∀ v s,aop P L e s oi (fun u s'=>K ((e.putO oj.dst v).putO oi.dst u) s') KP->zi P L ds KP oi K (e.putO oj.dst v) s:=by
    intro v s h;unfold zi;rw [hw v,hi];simp only [if_true];rw [hcg];exact h
   by_cases c2:cls L oi<=2
   . obtain ⟨vi,k1,k2⟩:=zEZ c2 H0;refine xn (kW (ja hds a1 a2 hK k1)) ?_;rintro e' s ⟨⟨v,rfl⟩,_,hk⟩;exact fin v s (k2 s _ _ hk)
   . by_cases c0:cls L oj=0
     . have hj0:∃ x,(∀ (e:Env) (s:S) (K':V->S->Prop),aop P L e s oj K' KP=K' (e.ev x) s)/\x ∈ oj.op.operands/\oj.guard=none:=by
        obtain ⟨dst,op,ty,pos,af,gd⟩:=oj;cases op <;> simp only [cls] at c0 <;> try (first | omega | (split at c0 <;> omega))
        case move x=>cases gd <;> simp at c0; exact ⟨x,fun _ _ _=>rfl,by simp [Op.operands],rfl⟩
        case assign x=>cases gd <;> simp at c0; exact ⟨x,fun _ _ _=>rfl,by simp [Op.operands],rfl⟩
        case buildSlice t n ps=>split at c0 <;> first | omega | (split at c0 <;> omega)
        case call c=>
         obtain ⟨callee,args,ts⟩:=c;cases callee with
         | invoke r m=>simp at c0
         | value f=>cases f <;> simp only at c0 <;> first | omega | (split at c0 <;> omega)
         | builtin b=>cases b <;> simp only at c0 <;> first | omega | (split at c0 <;> omega)
       obtain ⟨x,hx,hxm,hgn⟩:=hj0;have hs:∀ (K':Env->S->Prop) (e:Env) (s:S),zi P L ds KP oj K' e s=K' (e.putO oj.dst (e.ev x)) s:=by
        intro K' e s;unfold zi;rw [hgn];simp only [qq,if_true];rw [hx]
       rw [hs];refine fin _ _ (qY H0 fun v s q=>?_);rw [hs] at q;rw [zKw a1 x hxm] at q;exact hK _ _ _ (zG2 a2) q
     . simp only [zCb,zRL,Bool.or_eq_true,Bool.and_eq_true,decide_eq_true_eq,beq_iff_eq] at hc;have hload:cls L oi=3->cls L oj<=4\/newB L oj=true->zi P L ds KP oj (zi P L ds KP oi K) e st:=by
        intro hc1 hc2;obtain ⟨vi,k1,k2⟩:=zDM hc1 H0;refine xn (kW (ja hds a1 a2 hK k1)) ?_;rintro e' s ⟨⟨v,rfl⟩,hb,hk⟩;exact fin v s (k2 s _ _ (hb hc2) hk)
       rcases hc with ((((hc | (((hc | hc) | hc) | hc)) | hc) | hc) | hc) | hc
       . obtain ⟨vi,k1,k2⟩:=zT1 hc.1 H0;refine xn (zKK hc.2 (ja hds a1 a2 hK k1)) ?_;rintro e' s ⟨⟨v,rfl⟩,hb,hk⟩;exact fin v s (k2 s _ _ hb hk)
       . exact absurd hc c2
       . exact absurd hc c0
       . exact hload hc.1 (.inl hc.2)
       . obtain ⟨vi,st1,k0,k1,k2⟩:=zMQ hc.1 H0;have q:=zGe (st:=st) hc.2 k0 (ja hds a1 a2 hK k1);refine xn (kW q) ?_;rintro e' s ⟨⟨v,rfl⟩,_,rfl,hk⟩;exact fin v s (k2 _ _ hk)
       . exact hload hc.1 (.inr hc.2)
       . have H2:aop P L e st oi (fun v st'=>zi P L ds KP oj (fun e' s=>K (e'.putO oi.dst v) s) e st') KP:=qY H0 fun v s q=>ja hds a1 a2 hK q;have hone:∀ s (K':Env->S->Prop),zi P L ds KP oj K' e s->∃ v,∀ s' K'',zi P L ds KP oj K'' e s'↔K'' (e.putO oj.dst v) s':=by
          intro s K' h;unfold zi at h;cases hj:qq ds e oj.guard with
          | none=>rw [hj] at h; exact h.elim
          | some c=>
           rw [hj] at h;cases c with
           | false=>
            refine ⟨.tup [],fun s' K''=>?_⟩;unfold zi;rw [hj];simp
           | true=>
            simp only [if_true] at h;obtain ⟨v,hv⟩:=zSF hc.2 h;refine ⟨v,fun s' K''=>?_⟩;unfold zi;rw [hj];simp only [if_true];exact hv _ _ _
         have hex:∃ v,∀ s' K'',zi P L ds KP oj K'' e s'↔K'' (e.putO oj.dst v) s':=
          zSE hc.1 (qY H2 fun v s q=>hone s _ q)
         obtain ⟨v,hv⟩:=hex;refine (hv _ _).2 (fin v st (qY H2 fun u s q=>(hv _ _).1 q))
       . obtain ⟨vi,k1,k2⟩:=zTg hc.1 H0;have q:=zGe (st:=st) hc.2 rfl (ja hds a1 a2 hK k1);refine xn (kW q) ?_;rintro e' s ⟨⟨v,rfl⟩,_,rfl,hk⟩;exact fin v s (k2 _ hk)
       . obtain ⟨vi,k1,k2⟩:=zSM hc H0;refine xn (zKH hc (ja hds a1 a2 hK k1)) ?_;rintro e' s ⟨⟨v,rfl⟩,hb,hk⟩;exact fin v s (k2 s _ hb hk)
def AnyA (P:Program) (L:Pol) (ds:List (Option Nat)) (KP:List PanicEntry->S->Prop) (ops:Array Oper) (K:Env->S->Prop):Nat->Array Bool->Env->S->Prop
 | 0,listed,e,st=>Region.ready .any ops listed=[]/\K e st
 | n+1,listed,e,st=>(Region.ready .any ops listed=[]->K e st)/\∀ i ∈ Region.ready .any ops listed,∀ o,ops[i]? = some o->zi P L ds KP o (AnyA P L ds KP ops K n (listed.setIfInBounds i true)) e st
theorem zJr {K:Env->S->Prop} (hK:Resp K):∀ n listed,Resp (AnyA P L ds KP ops K n listed)
 | 0,listed=>fun e e' s h hh=>⟨hh.1,hK _ _ _ h hh.2⟩
 | n+1,listed=>fun e e' s h hh=>⟨fun h0=>hK _ _ _ h (hh.1 h0),fun i hi o ho=>zOh (zJr hK n _) _ _ _ h (hh.2 i hi o ho)⟩
def left (ops:Array Oper) (listed:Array Bool):List Nat:=(List.range ops.size).filter fun k=>!listed.getD k true
theorem zG3 {ops:Array Oper} {listed:Array Bool} {j:Nat} (h:j ∈ left ops listed):(left ops (listed.setIfInBounds j true)).length < (left ops listed).length:=by
 unfold left at *;rw [List.mem_filter] at h;have e:((List.range ops.size).filter fun k=>!(listed.setIfInBounds j true).getD k true)=((List.range ops.size).filter fun k=>!listed.getD k true).filter fun k=>k != j:=by
  rw [List.filter_filter];refine List.filter_congr fun k _=>?_;by_cases hk:j=k
  . subst hk;have hlt:j < listed.size:=by
     rcases Nat.lt_or_ge j listed.size with h' | h'
     . exact h'
     . simp [Array.getElem?_eq_none h'] at h
    simp [hlt]
  . rw [getD_set_ne true hk]; simp [Ne.symm hk]
 rw [e];exact List.length_filter_lt_length_iff_exists.2 ⟨j,List.mem_filter.2 h,by simp⟩
theorem zCE {ops:Array Oper} {listed:Array Bool} {j:Nat} (h:j ∈ Region.ready .any ops listed):j ∈ left ops listed:=by
 obtain ⟨h1,o,h2,_⟩:=mem_ready.1 h;unfold left;rw [List.mem_filter];exact ⟨List.mem_range.2 (Array.getElem?_eq_some_iff.1 h2).1,by rw [h1]; rfl⟩
def bef (ops:Array Oper):Nat->Nat->Nat->Bool
 | 0,_,_=>false
 | n+1,i,j=>match ops[j]? with
  | some o=>o.after.any fun ed=>Region.binds .any ed && (ed.on == i || bef ops n i ed.on)
  | none=>false
def PC (ops:Array Oper) (listed:Array Bool):Prop:=∀ k ok,ops[k]? = some ok->listed.getD k false=true->∀ ed ∈ ok.after,Region.binds .any ed=true->listed.getD ed.on false=true
theorem zKE {listed:Array Bool} {j:Nat} (h:j < listed.size) (d:Bool):(listed.setIfInBounds j true).getD j d=true:=by simp [h]
theorem zL5 {listed:Array Bool} {j:Nat} (h:listed.getD j true=false):j < listed.size:=by
 rcases Nat.lt_or_ge j listed.size with h' | h'
 . exact h'
 . simp [Array.getElem?_eq_none h'] at h
theorem zJt {listed:Array Bool} {j k:Nat} (h:listed.getD k false=true):(listed.setIfInBounds j true).getD k false=true:=by
 by_cases e1:j=k
 . subst e1;refine zKE ?_ _;rcases Nat.lt_or_ge j listed.size with h' | h'
   . exact h'
   . simp [Array.getElem?_eq_none h'] at h
 . rw [getD_set_ne false e1]; exact h
theorem zJ6 {listed:Array Bool} {j:Nat} {oj:Oper} (hj:j ∈ Region.ready .any ops listed) (ho:ops[j]? = some oj):∀ ed ∈ oj.after,Region.binds .any ed=true->listed.getD ed.on false=true:=by
 obtain ⟨_,oj',hoj',hall⟩:=mem_ready.1 hj;rw [ho] at hoj';injection hoj' with h
 subst h;exact hall
theorem zQL {listed:Array Bool} {j:Nat} (hj:j ∈ Region.ready .any ops listed) (h:PC ops listed):PC ops (listed.setIfInBounds j true):=by
 intro k ok hk hl ed he hb;by_cases e1:j=k
 . subst e1;exact zJt (zJ6 hj hk ed he hb)
 . rw [getD_set_ne false e1] at hl;exact zJt (h k ok hk hl ed he hb)
theorem zIW {listed:Array Bool} (h:PC ops listed) {i:Nat} (hi:listed.getD i true=false):∀ (n j:Nat),listed.getD j false=true->bef ops n i j=false
 | 0,_,_=>rfl
 | n+1,j,hj=>by
  unfold bef;cases ho:ops[j]? with
  | none=>rfl
  | some oj=>
   simp only;rw [Bool.eq_false_iff];intro hc;obtain ⟨ed,he,hc⟩:=Array.any_eq_true'.1 hc;simp only [Bool.and_eq_true,Bool.or_eq_true,beq_iff_eq] at hc;have hl:=h j oj ho hj ed he hc.1;rcases hc.2 with h1 | h1
   . rw [h1] at hl;have:=zL5 hi;simp [this] at hi hl;rw [hi] at hl; cases hl
   . rw [zIW h hi n ed.on hl] at h1; cases h1
theorem zQc {listed:Array Bool} (h:PC ops listed) {i j:Nat} (hi:listed.getD i true=false) (hj:j ∈ Region.ready .any ops listed) (n:Nat):bef ops n i j=false:=by
 cases n with
 | zero=>rfl
 | succ n=>
  unfold bef;cases ho:ops[j]? with
  | none=>rfl
  | some oj=>
   simp only;rw [Bool.eq_false_iff];intro hc;obtain ⟨ed,he,hc⟩:=Array.any_eq_true'.1 hc;simp only [Bool.and_eq_true,Bool.or_eq_true,beq_iff_eq] at hc;have hl:=zJ6 hj ho ed he hc.1;rcases hc.2 with h1 | h1
   . rw [h1] at hl;have:=zL5 hi;simp [this] at hi hl;rw [hi] at hl; cases hl
   . rw [zIW h hi n ed.on hl] at h1; cases h1
theorem zOU (hds:ds=ops.toList.map (·.dst)) {K:Env->S->Prop} (hK:Resp K) {i:Nat} {oi:Oper} (hi:ops[i]? = some oi) :
 ∀ (fuel:Nat) (listed:Array Bool) (e:Env) (st:S),(left ops listed).length<=fuel+1 ->
  (∀ j oj,ops[j]? = some oj->j≠i->listed.getD j true=false->(∀ ed ∈ oj.after,Region.binds .any ed=true->ed.on≠i)->bef ops ops.size i j=false->oi.apart ops oj=true/\zCb L oi oj=true)->PC ops listed ->
  i ∈ Region.ready .any ops listed ->
  zi P L ds KP oi (AnyA P L ds KP ops K fuel (listed.setIfInBounds i true)) e st->AnyA P L ds KP ops K (fuel+1) listed e st:=by
 intro fuel
 induction fuel with
 | zero=>
  intro listed e st hcount _ _ hr H;refine ⟨fun h=>(by rw [h] at hr; cases hr),fun j hj o ho=>?_⟩;by_cases hji:j=i
  . subst hji; rw [hi] at ho; injection ho with ho; subst ho; exact H
  . exfalso;have h1:=zG3 (zCE hr);have h2:=zCE (ready_mono hj hji);have h3:(left ops (listed.setIfInBounds i true)).length=0:=by omega
    rw [List.eq_nil_of_length_eq_zero h3] at h2;cases h2
 | succ fuel ih=>
  intro listed e st hcount hfree hpc hr H;refine ⟨fun h=>(by rw [h] at hr; cases hr),fun j hj oj hoj=>?_⟩;by_cases hji:j=i
  . subst hji; rw [hi] at hoj; injection hoj with hoj; subst hoj; exact H
  . obtain ⟨hjun,oj',hoj',hall⟩:=mem_ready.1 hj;have e1:oj' = oj:=by rw [hoj] at hoj'; injection hoj' with h; exact h.symm
    subst e1;have hnot:∀ ed ∈ oj'.after,Region.binds .any ed=true->ed.on≠i:=fun ed he hb heq=>by
     have h1:=hall ed he hb;have h0:=(mem_ready.1 hr).1;rw [heq] at h1;rcases Nat.lt_or_ge i listed.size with h' | h'
     . simp [h'] at h0 h1; rw [h0] at h1; cases h1
     . simp [Array.getElem?_eq_none h'] at h1
    have hfr:=hfree j oj' hoj hji hjun hnot (zQc hpc (mem_ready.1 hr).1 hj _);have h1:zi P L ds KP oi (zi P L ds KP oj' (AnyA P L ds KP ops K fuel ((listed.setIfInBounds i true).setIfInBounds j true))) e st:=
     xn H fun e' s q=>q.2 j (ready_mono hj hji) oj' hoj
    have h2:=zOv hds hfr.1 hfr.2 (zJr hK fuel _) h1;have hfree':∀ k ok,ops[k]? = some ok->k≠i->(listed.setIfInBounds j true).getD k true=false ->
     (∀ ed ∈ ok.after,Region.binds .any ed=true->ed.on≠i)->bef ops ops.size i k=false->oi.apart ops ok=true/\zCb L oi ok=true:=fun k ok hk hki hun hno hbf=>by
     refine hfree k ok hk hki ?_ hno hbf;by_cases hjk:j=k
     . subst hjk; exact hjun
     . rw [getD_set_ne true hjk] at hun; exact hun
    refine xn h2 fun e' s h3=>ih (listed.setIfInBounds j true) e' s (by have:=zG3 (zCE hj); omega) hfree' (zQL hj hpc) (ready_mono hr (Ne.symm hji)) ?_;rw [Array.setIfInBounds_comm _ _ hji];exact h3
def zFd (L:Pol) (l:List Oper):Bool:=
 (List.range l.length).all fun i=>(List.range l.length).all fun j=>
  match l[i]?,l[j]? with
  | some oi,some oj=>!decide (i < j) || zCb L oi oj || bef l.toArray l.length i j
  | _,_=>true
theorem zM7 {l:List Oper} (h:zFd L l=true) {i j:Nat} {oi oj:Oper} (hi:l[i]? = some oi) (hj:l[j]? = some oj) (hlt:i < j) (hno:bef l.toArray l.length i j=false) :
 zCb L oi oj=true:=by
 have h1:=List.all_eq_true.1 h i (List.mem_range.2 (List.getElem?_eq_some_iff.1 hi).1);have h2:=List.all_eq_true.1 h1 j (List.mem_range.2 (List.getElem?_eq_some_iff.1 hj).1);simpa [hi,hj,hlt,hno] using h2
theorem zMN (hds:ds=ops.toList.map (·.dst)) (hd:zFd L ops.toList=true) {K:Env->S->Prop} (hK:Resp K):∀ (l:List Oper) (k:Nat) (listed:Array Bool) (e:Env) (st:S),(∀ j,l[j]? = ops[k+j]?) ->
 (∀ j,j < k->listed.getD j true=true)->(left ops listed).length<=l.length->PC ops listed ->
 Region.lexFrom .any ops l.length k listed=true->AL P L ds KP l K e st->AnyA P L ds KP ops K l.length listed e st
 | [],_,_,_,_,_,_,_,_,hB,h=>⟨by simpa [Region.lexFrom] using hB,h⟩
 | o::l,k,listed,e,st,hl,hbel,hcount,hpc,hB,h=>by
  have h0:ops[k]? = some o:=by simpa using (hl 0).symm
  simp only [List.length_cons,Region.lexFrom,Bool.and_eq_true] at hB;obtain ⟨⟨hr,hf⟩,hB'⟩:=hB;have hr':k ∈ Region.ready .any ops listed:=by simpa using hr
  refine zOU hds hK h0 l.length listed e st hcount ?_ hpc hr' ?_
  . intro j oj hj hne hun hno hbf;refine ⟨Region.free_spec h0 hf j oj hj hne hun hno,zM7 hd (by simpa using h0) (by simpa using hj) ?_ (by simpa using hbf)⟩;rcases Nat.lt_or_ge k j with h1 | h1
    . exact h1
    . have:=hbel j (by omega);rw [this] at hun; cases hun
  . refine xn (h:zi P L ds KP o (AL P L ds KP l K) e st) fun e' s q=>?_;refine zMN hds hd hK l (k+1) _ e' s (fun j=>by have:=hl (j+1); simpa [Nat.add_assoc,Nat.add_comm 1 j] using this) (fun j hj=>?_) (by have:=zG3 (zCE hr'); simp only [List.length_cons] at hcount; omega) (zQL hr' hpc) hB' q;by_cases e1:j=k
    . subst e1;rcases Nat.lt_or_ge j listed.size with h' | h'
      . simp [h']
      . simp [Array.getElem?_eq_none h']
    . rw [getD_set_ne true (Ne.symm e1)]; exact hbel j (by omega)
theorem zHl (hds:ds=ops.toList.map (·.dst)) (hdst:∀ o ∈ ops.toList,∀ t,o.dst=some t->X.N.ok t=true) {Q:Exit->Env->S->Prop} (hQ:∀ c s,KP c s->Q (.panic c) [] s) {K:Env->S->Prop} {g0:Gh} {w0:World}
 (hKQ:∀ g e s a w,K e s->Step X.B g0 w0 g w->Rel X g e s a w->Goes X g0 w0 Q .normal a w) :
 ∀ (n:Nat) (listed:Array Bool) (e:Env) (st:S) (g:Gh) (a:Act) (w:World),AnyA P L ds KP ops K n listed e st->Step X.B g0 w0 g w->Rel X g e st a w->wpAny P .any ops (Goes X g0 w0 Q) n listed a w
 | 0,_,e,st,g,a,w,h,hs,hr=>⟨h.1,hKQ g e st a w h.2 hs hr⟩
 | n+1,listed,e,st,g,a,w,h,hs,hr=>⟨fun h0=>hKQ g e st a w (h.1 h0) hs hr,fun i hi=>by
  obtain ⟨_,o,ho,_⟩:=mem_ready.1 hi;have hm:o ∈ ops.toList:=by simpa using Array.mem_of_getElem? ho
  refine wpOp_mono ?_ (zGl hds hQ ho (hdst o hm) (h.2 i hi o ho) hs hr);rintro a' w' ⟨g',e',st',k1,k2,k3⟩;exact zHl hds hdst hQ hKQ n _ e' st' g' a' w' k3 k1 k2⟩
end
section
variable {P:Program} {L:Pol} {X:Cx} {e:Env} {st:S}
def jP (ks:List Nat) (e:Env):Env:=ks.map fun k=>(k,e.get k)
theorem zJb (ks:List Nat) (e:Env):e.sub (jP ks e):=Env.sub_of e _ fun p hp=>by
 obtain ⟨k,_,rfl⟩:=List.mem_map.1 hp;rfl
theorem ze {Q:Exit->Env->S->Prop} {id:Nat} {l:List Oper} (L:Pol) (kf:Nat->List Nat) (ds:List (Option Nat)) (hds:l.map (·.dst)=ds) (hd:zDZ X.N l=true)
 (h:AL P L ds (fun c s=>Q (.panic c) [] s) l (fun e' s'=>Q .normal (jP (kf id) e') s') e st):awp P X (.region id l.toArray false) Q e st:=by
 intro g a w hr;generalize kf id=ks at h;have h1:=zPV (X:=X) (P:=P) (L:=L) (Q:=fun ex e' s'=>match ex with | .normal=>Q .normal (jP ks e') s' | .panic c=>Q (.panic c) [] s' | _=>False) (id:=id) (l:=l) ds hds hd h g a w hr;refine wpIn_mono h1 ?_;rintro ex a' w' ⟨g',e',st',k1,k2,k3⟩;cases ex with
 | normal=>exact ⟨g',_,st',k1,k2.weaken (zJb ks e') (S.sub_refl _),k3⟩
 | panic c=>exact ⟨g',[],st',k1,⟨k2.inv,fun _=>trivial,k2.size,k2.df,k2.gl⟩,k3⟩
 | exit id=>exact k3.elim
 | goto l=>exact k3.elim
 | ret=>exact k3.elim
 | outgrown=>exact k3.elim
theorem jk {Q:Exit->Env->S->Prop} {id:Nat} {l:List Oper} (L:Pol) (hm:P.follows .mixedOrders=true) (kf:Nat->List Nat) (ds:List (Option Nat)) (hds:l.map (·.dst)=ds) (hd:zDZ X.N l=true) (hB:Region.lexB .any l.toArray=true) (hO:zFd L l=true)
 (h:AL P L ds (fun c s=>Q (.panic c) [] s) l (fun e' s'=>Q .normal (jP (kf id) e') s') e st):awp P X (.region id l.toArray true) Q e st:=by
 intro g a w hr;generalize kf id=ks at h;simp only [Region.lexB,Bool.and_eq_true] at hB;have hnd:∀ o ∈ l.toArray.toList,∀ c,o.op≠.defer c:=fun o ho=>zFN hd (by simpa using ho);refine wpIn_mono (Q:=Goes X g w (inQ Q)) (wpIn_region_draw fun t=>zCt hnd (zJg fun _ _ k=>k) _ a _ ?_) zLn;simp only [Region.schedule,hm,Bool.true_or,if_true];refine wpAny_sound _ t _ a _ ?_;have hdr:=zBQ hr.inv (w.drawn+1);have hrel:Rel X g e st a { w with drawn:=w.drawn+1 }:=⟨hdr.inv,fun k=>(hr.env k).later hdr.step.later,hr.size,hr.df,hr.gl.below hdr.step.below hdr.step.later.wm⟩;have hresp:Resp (fun e' s'=>Q .normal (jP ks e') s'):=fun e1 e2 s h1 h2=>by
  have:jP ks e1=jP ks e2:=by unfold jP; exact List.map_congr_left fun k _=>by rw [h1 k]
  show Q .normal (jP ks e2) s;rw [<- this]; exact h2
 have hA:=zMN (P:=P) (L:=L) (ops:=l.toArray) (ds:=ds) (KP:=fun c s=>Q (.panic c) [] s) (by simpa using hds.symm) (by simpa using hO) hresp l 0 (Array.replicate l.toArray.size false) e st (by simp) (fun j hj=>by omega)
  (by unfold left; exact Nat.le_trans (List.length_filter_le _ _) (by simp)) (fun k ok hk hl=>by
   exfalso;rw [Array.getD_eq_getD_getElem?,Array.getElem?_replicate] at hl;split at hl <;> simp at hl) (by simpa using hB.2) h
 have:=zHl (X:=X) (Q:=inQ Q) (ops:=l.toArray) (ds:=ds) (by simpa using hds.symm) (fun o ho=>zQl hd (by simpa using ho)) (fun _ _ k=>k) (g0:=g) (w0:=w)
  (fun g' e' s' a' w' k1 k2 k3=>⟨g',_,s',k2,k3.weaken (zJb ks e') (S.sub_refl _),k1⟩) l.length _ e st g a { w with drawn:=w.drawn+1 } hA hdr.step hrel
 exact this
end
theorem zB (next:Env->S->Prop) (Q:Exit->Env->S->Prop) (e:Env) (s:S):zDP next Q .normal e s=next e s:=rfl
theorem yO (next:Env->S->Prop) (Q:Exit->Env->S->Prop) (e:Env) (s:S) (id:Nat):zDP next Q (.exit id) e s=Q (.exit id) e s:=rfl
theorem zT (next:Env->S->Prop) (Q:Exit->Env->S->Prop) (e:Env) (s:S):zDP next Q .ret e s=Q .ret e s:=rfl
theorem yA (next:Env->S->Prop) (Q:Exit->Env->S->Prop) (e:Env) (s:S) (c:List PanicEntry):zDP next Q (.panic c) e s=Q (.panic c) e s:=rfl
theorem zG (id:Nat) (Q:Exit->Env->S->Prop) (e:Env) (s:S):zCv id Q .normal e s=Q .normal e s:=rfl
theorem yH (id id':Nat) (Q:Exit->Env->S->Prop) (e:Env) (s:S):zCv id Q (.exit id') e s=if id' = id then Q .normal e s else Q (.exit id') e s:=rfl
theorem zR (id:Nat) (Q:Exit->Env->S->Prop) (e:Env) (s:S):zCv id Q .ret e s=Q .ret e s:=rfl
theorem qg (id:Nat) (Q:Exit->Env->S->Prop) (e:Env) (s:S) (c:List PanicEntry):zCv id Q (.panic c) e s=Q (.panic c) e s:=rfl
theorem zb (P:Program) (rs:List ResultVar) (Q:Outc->S->Prop) (e:Env) (s:S):retE P rs Q .ret e s=yb P rs e s fun xs=>Q (.ret (finV xs)) s:=rfl
theorem zC (e:Env) (d:Nat) (x:V) (j:Nat):(e.putO (some d) x).get j=if d=j then x else e.get j:=Env.get_put e d x j
theorem xo (e:Env) (x:V):e.putO none x=e:=rfl
theorem zD (k:Nat) (x:V) (r:Env) (j:Nat):Env.get ((k,x)::r) j=if k=j then x else Env.get r j:=rfl
theorem zF (j:Nat):Env.get [] j = .any:=rfl
theorem zL (e:Env) (t:Nat):e.ev (.tmp t)=e.get t:=rfl
theorem zP (e:Env) (v:Value):e.ev (.const v)=cV v:=rfl
theorem zw (k:IntKind) (n:Int):cV (.int k n) = .at (.int k n):=rfl
theorem xj (b:Bool):cV (.bool b) = .at (.bool b):=rfl
theorem yU (s:ByteArray):cV (.string s) = .at (.string s):=rfl
theorem cV_nil:cV (.slice none 0 0) = .lst .nil []:=rfl
theorem zY (k:Nat) (ks:List Nat) (e:Env):jP (k::ks) e=(k,e.get k)::jP ks e:=rfl
theorem za (e:Env):jP [] e=[]:=rfl
theorem zBY (P:Program) (op:BinOp) (t:TypeId) (k:IntKind) (a b:Int) (K:V->Prop):aBin P op t (.at (.int k a)) (.at (.int k b)) K=aInt op k a b K:=by simp [aBin]
theorem zC6 (P:Program) (op:BinOp) (t:TypeId) (a b:ByteArray) (K:V->Prop):aBin P op t (.at (.string a)) (.at (.string b)) K=aStr op a b K:=rfl
theorem zL1 (k:IntKind) (a b:Int) (K:V->Prop):aInt .add k a b K=K (.at (.int k (k.wrap (a+b)))):=rfl
theorem zG9 (k:IntKind) (a b:Int) (K:V->Prop):aInt .eql k a b K=K (.at (.bool (a == b))):=rfl
theorem zSp (k:IntKind) (a b:Int) (K:V->Prop):aInt .gtr k a b K=K (.at (.bool (decide (a > b)))):=rfl
theorem zRw (k:IntKind) (a b:Int) (K:V->Prop):aInt .geq k a b K=K (.at (.bool (decide (a >= b)))):=rfl
theorem zD8 (b:Bool) (K:V->Prop):aUn .not (.at (.bool b)) K=K (.at (.bool !b)):=rfl
theorem zG4 (P:Program) (t:TypeId) (tg:Tag) (es:List V) (K:V->Prop):aLen P t (.lst tg es) K=((elT P t).isSome=true/\K (.at (.int .i64 (es.length:Int)))):=rfl
theorem zOl (P:Program) (t:TypeId) (a:Option Addr) (n c:Nat) (K:V->Prop):aLen P t (.at (.slice a n c)) K=((elT P t).isSome=true/\K (.at (.int .i64 (n:Int)))):=rfl
theorem zTA (P:Program) (t:TypeId) (s:ByteArray) (K:V->Prop):aLen P t (.at (.string s)) K=(jr P t=true/\K (.at (.int .i64 (s.size:Int)))):=rfl
theorem xL (t:Bool) (a b:V) (K:V->Prop):zBk (.at (.bool t)) a b K=K (if t then a else b):=rfl
theorem zJI (y:V) (K:V->Prop):xF (.rptr y) K=K (.rptr y):=rfl
theorem yV (a:Addr) (K:V->Prop):xF (.at (.pointer (some a))) K=K (.at (.pointer (some a))):=rfl
theorem zCP (P:Program) (st:S) (t:TypeId) (y:V) (K:V->Prop):y6 P st t (.rptr y) K=(fits P t y/\K y):=rfl
theorem zOS (P:Program) (t:TypeId) (s:ByteArray) (k:IntKind) (n:Int) (K:V->Prop):kn P t (.at (.string s)) (.at (.int k n)) K=(jr P t=true/\(0<=n/\n < (s.size:Int))/\K (.at (.int .u8 ((s.data.getD n.toNat 0).toNat:Int)))):=rfl
def zIA (P:Program) (t o:Nat) (q:Option (List V×Nat)) (K:V->Prop):Prop:=
 match q with
 | some (cs,_)=>yD P t cs o/\K (yC P t cs o)
 | none=>False
theorem yQ (P:Program) (st:S) (t:TypeId) (b o:Nat) (K:V->Prop):y6 P st t (.at (.pointer (some ⟨b,o,none⟩))) K=zIA P t o (look st.box b) K:=by
 unfold y6 zIA; rfl
theorem yF (P:Program) (t o:Nat) (cs:List V) (k:Nat) (K:V->Prop):zIA P t o (some (cs,k)) K=(yD P t cs o/\K (yC P t cs o)):=rfl
theorem jJ (P:Program) (t o:Nat) {q q':Option (List V×Nat)} (h:q=q') (K:V->Prop):zIA P t o q K=zIA P t o q' K:=by rw [h]
def zFS (P:Program) (t b o:Nat) (y:V) (st:S) (q:Option (List V×Nat)) (K:S->Prop):Prop:=
 match q with
 | some (cs,k)=>hasT P t=true/\y.flat.length=P.cellsOf t/\zH y.flat/\o+y.flat.length<=cs.length/\K ⟨lay st.box b (spl cs o y.flat,k),st.tg,st.nx,st.ob⟩
 | none=>False
theorem xk (P:Program) (st:S) (t:TypeId) (y:V) (b o:Nat) (K:S->Prop):qF P st t (.at (.pointer (some ⟨b,o,none⟩))) y K=zFS P t b o y st (look st.box b) K:=by
 unfold qF zFS; rfl
theorem xH (P:Program) (t b o:Nat) (y:V) (st:S) (cs:List V) (k:Nat) (K:S->Prop):zFS P t b o y st (some (cs,k)) K =
 (hasT P t=true/\y.flat.length=P.cellsOf t/\zH y.flat/\o+y.flat.length<=cs.length/\K ⟨lay st.box b (spl cs o y.flat,k),st.tg,st.nx,st.ob⟩):=rfl
theorem qZ (P:Program) (t b o:Nat) (y:V) (st:S) {q q':Option (List V×Nat)} (h:q=q') (K:S->Prop):zFS P t b o y st q K=zFS P t b o y st q' K:=by rw [h]
def zEG (P:Program) (fs:List V) (q:Option (Nat×TypeId)) (K:V->Prop):Prop:=
 match q with
 | some (off,ft)=>zH fs/\yD P ft fs off/\0 < P.cellsOf ft/\K (.rptr (yC P ft fs off))
 | none=>False
theorem j0 (P:Program) (t:TypeId) (fs:List V) (f:Nat) (K:V->Prop):yP P t (.rptr (.agg fs)) f K=zEG P fs (fieldAt P t f) K:=by
 unfold yP zEG; cases fieldAt P t f <;> rfl
theorem zAx (P:Program) (fs:List V) (off:Nat) (ft:TypeId) (K:V->Prop):zEG P fs (some (off,ft)) K=(zH fs/\yD P ft fs off/\0 < P.cellsOf ft/\K (.rptr (yC P ft fs off))):=rfl
theorem qB (P:Program) (fs:List V) {q q':Option (Nat×TypeId)} (h:q=q') (K:V->Prop):zEG P fs q K=zEG P fs q' K:=by rw [h]
def zD2 (P:Program) (b o:Nat) (q:Option (Nat×TypeId)) (K:V->Prop):Prop:=
 match q with
 | some (off,ft)=>hasT P ft=true/\0 < P.cellsOf ft/\K (.at (.pointer (some ⟨b,o+off,none⟩)))
 | none=>False
theorem zk (P:Program) (t:TypeId) (b o:Nat) (f:Nat) (K:V->Prop):yP P t (.at (.pointer (some ⟨b,o,none⟩))) f K=zD2 P b o (fieldAt P t f) K:=by
 unfold yP zD2; cases fieldAt P t f <;> rfl
theorem zr (P:Program) (b o off:Nat) (ft:TypeId) (K:V->Prop):zD2 P b o (some (off,ft)) K=(hasT P ft=true/\0 < P.cellsOf ft/\K (.at (.pointer (some ⟨b,o+off,none⟩)))):=rfl
theorem qA (P:Program) (b o:Nat) {q q':Option (Nat×TypeId)} (h:q=q') (K:V->Prop):zD2 P b o q K=zD2 P b o q' K:=by rw [h]
def zQm (P:Program) (fs:List V) (q:Option (Nat×TypeId)) (K:V->Prop):Prop:=
 match q with
 | some (off,ft)=>zH fs/\yD P ft fs off/\K (yC P ft fs off)
 | none=>False
theorem ql (P:Program) (fs:List V) {q q':Option (Nat×TypeId)} (h:q=q') (K:V->Prop):zQm P fs q K=zQm P fs q' K:=by rw [h]
def zE5 (P:Program) (es:List V) (n:Int) (q:Option TypeId) (K:V->Prop):Prop:=
 match q with
 | some el=>hasT P el=true/\(0<=n/\n < (es.length:Int))/\(es.getD n.toNat .any).size=P.cellsOf el/\K (.rptr (es.getD n.toNat .any))
 | none=>False
theorem zAD (P:Program) (t:TypeId) (tg:Tag) (es:List V) (k:IntKind) (n:Int) (K:V->Prop):yZ P t (.lst tg es) (.at (.int k n)) K=zE5 P es n (elT P t) K:=by
 unfold yZ zE5; cases elT P t <;> rfl
theorem zBf (P:Program) (es:List V) (n:Int) (el:TypeId) (K:V->Prop):zE5 P es n (some el) K =
 (hasT P el=true/\(0<=n/\n < (es.length:Int))/\(es.getD n.toNat .any).size=P.cellsOf el/\K (.rptr (es.getD n.toNat .any))):=rfl
theorem qT (P:Program) {es es':List V} (h1:es=es') {n n':Int} (h2:n=n') {q q':Option TypeId} (h:q=q') (K:V->Prop):zE5 P es n q K=zE5 P es' n' q' K:=by rw [h1,h2,h]
def zD4 (P:Program) (b o len:Nat) (n:Int) (q:Option TypeId) (K:V->Prop):Prop:=
 match q with
 | some el=>hasT P el=true/\(0<=n/\n < (len:Int))/\K (.at (.pointer (some ⟨b,o+n.toNat * P.cellsOf el,none⟩)))
 | none=>False
theorem zHF (P:Program) (t:TypeId) (b o len cap:Nat) (k:IntKind) (n:Int) (K:V->Prop):yZ P t (.at (.slice (some ⟨b,o,none⟩) len cap)) (.at (.int k n)) K=zD4 P b o len n (elT P t) K:=by
 unfold yZ zD4; cases elT P t <;> rfl
theorem zMH (P:Program) (b o len:Nat) (n:Int) (el:TypeId) (K:V->Prop):zD4 P b o len n (some el) K=(hasT P el=true/\(0<=n/\n < (len:Int))/\K (.at (.pointer (some ⟨b,o+n.toNat * P.cellsOf el,none⟩)))):=rfl
theorem qC (P:Program) (b o len:Nat) {n n':Int} (h2:n=n') {q q':Option TypeId} (h:q=q') (K:V->Prop):zD4 P b o len n q K=zD4 P b o len n' q' K:=by rw [h2,h]
def zFp (st:S) (q:Option (List V)) (K:V->S->Prop):Prop:=
 match q with
 | some cs=>aNew st cs K
 | none=>False
theorem zJq (P:Program) (st:S) (t:TypeId) (K:V->S->Prop):jZ P st t K=zFp st (yN P t) K:=by unfold jZ zFp; rfl
theorem zGj (st:S) (cs:List V) (K:V->S->Prop):zFp st (some cs) K=aNew st cs K:=rfl
theorem qh (st:S) {q q':Option (List V)} (h:q=q') (K:V->S->Prop):zFp st q K=zFp st q' K:=by rw [h]
def zJC (q:Option (List V)) (K:V->Prop):Prop:=
 match q with
 | some cs=>K (.agg cs)
 | none=>False
def zP9 (P:Program) (t:TypeId) (ps:List (Nat×V)) (q:Option (List V)) (K:V->Prop):Prop:=
 match q with
 | some cs=>zJC (zA5 (zBa P t) cs ps) K
 | none=>False
theorem qn (P:Program) (t:TypeId) (ps:List (Nat×V)) {q q':Option (List V)} (h:q=q') (K:V->Prop):zP9 P t ps q K=zP9 P t ps q' K:=by rw [h]
theorem xx {q q':Option (List V)} (h:q=q') (K:V->Prop):zJC q K=zJC q' K:=by rw [h]
def sBS (P:Program) (L:Pol) (dst:Option Nat) (st:S) (n:Nat) (parts:List (Nat×V)) (q:Option TypeId) (K:V->S->Prop):Prop:=
 match q with
 | none=>False
 | some el=>
  hasT P el=true/\(yN P el).isSome=true/\((yN P el).map List.length=some (P.cellsOf el))/\n * P.cellsOf el<=2 ^ 24/\n<=maxLen/\parts.length=n/\jV 0 parts=true/\yo (P.cellsOf el) (parts.map fun p=>p.2.untag)/\(parts.all fun p=>p.2.flat.all V.isOne)=true /\
  (if (dst.map L.wr).getD false=true then
   zH (zX (parts.map fun p=>p.2))/\∀ b,look st.box b=none->K (.at (.slice (some ⟨b,0,none⟩) n n)) ⟨lay st.box b (zX (parts.map fun p=>p.2),n * P.cellsOf el),st.tg,st.nx,st.ob⟩
  else if (dst.map L.own).getD false=true then
   K (.lst (.own st.nx false (P.cellsOf el)) (parts.map fun p=>p.2.untag)) ⟨st.box,st.nx::st.tg,st.nx+1,st.ob⟩
  else K (.lst .no (parts.map fun p=>p.2.untag)) st)
theorem zDe (P:Program) (L:Pol) (dst:Option Nat) (st:S) (t:TypeId) (n:Nat) (parts:List (Nat×V)) (K:V->S->Prop):yJ P L dst st t n parts K=sBS P L dst st n parts (elT P t) K:=by
 unfold yJ sBS; cases elT P t <;> rfl
theorem kr (P:Program) (L:Pol) (dst:Option Nat) (st:S) (n:Nat) {parts parts':List (Nat×V)} (h1:parts=parts') {q q':Option TypeId} (h:q=q') (K:V->S->Prop):sBS P L dst st n parts q K=sBS P L dst st n parts' q' K:=by rw [h,h1]
def sBSk (P:Program) (st:S) (n:Nat) (parts:List (Nat×V)) (el:TypeId) (w o:Bool) (K:V->S->Prop):Prop:=
 hasT P el=true/\(yN P el).isSome=true/\((yN P el).map List.length=some (P.cellsOf el))/\n * P.cellsOf el<=2 ^ 24/\n<=maxLen/\parts.length=n/\jV 0 parts=true/\yo (P.cellsOf el) (parts.map fun p=>p.2.untag)/\(parts.all fun p=>p.2.flat.all V.isOne)=true /\
  (if w=true then
   zH (zX (parts.map fun p=>p.2))/\∀ b,look st.box b=none->K (.at (.slice (some ⟨b,0,none⟩) n n)) ⟨lay st.box b (zX (parts.map fun p=>p.2),n * P.cellsOf el),st.tg,st.nx,st.ob⟩
  else if o=true then
   K (.lst (.own st.nx false (P.cellsOf el)) (parts.map fun p=>p.2.untag)) ⟨st.box,st.nx::st.tg,st.nx+1,st.ob⟩
  else K (.lst .no (parts.map fun p=>p.2.untag)) st)
theorem zMd (P:Program) (L:Pol) (d:Nat) (st:S) (n:Nat) (parts:List (Nat×V)) (el:TypeId) (K:V->S->Prop):sBS P L (some d) st n parts (some el) K=sBSk P st n parts el (L.wr d) (L.own d) K:=rfl
theorem jf (P:Program) (st:S) (n:Nat) (parts:List (Nat×V)) (el:TypeId) {w w' o o':Bool} (h1:w=w') (h2:o=o') (K:V->S->Prop):sBSk P st n parts el w o K=sBSk P st n parts el w' o' K:=by rw [h1,h2]
theorem zNH (P:Program) (st:S) (n:Nat) (parts:List (Nat×V)) (el:TypeId) (K:V->S->Prop):sBSk P st n parts el false false K =
 (hasT P el=true/\(yN P el).isSome=true/\((yN P el).map List.length=some (P.cellsOf el))/\n * P.cellsOf el<=2 ^ 24/\n<=maxLen/\parts.length=n/\jV 0 parts=true/\yo (P.cellsOf el) (parts.map fun p=>p.2.untag)/\(parts.all fun p=>p.2.flat.all V.isOne)=true /\
  K (.lst .no (parts.map fun p=>p.2.untag)) st):=rfl
theorem all_nil {p:Nat×V->Prop}:(∀ q ∈ ([]:List (Nat×V)),p q)=True:=by simp
theorem zJl (sz:Nat):yo sz []=True:=by simp [yo]
theorem zHi (sz:Nat) (x:V) (r:List V):yo sz (x::r)=(x.size=sz/\yo sz r):=by simp [yo]
theorem pow24:(2:Nat) ^ 24=16777216:=by decide
theorem zEx:1<=maxLen:=by simp [maxLen]
open Go.RowKit
def zDG (P:Program) (el:TypeId) (n:Nat) (ys:List V):Prop:=
 hasT P el=true/\((yN P el).map List.length=some (P.cellsOf el))/\0 < P.cellsOf el/\yo (P.cellsOf el) ys/\(n+ys.length) * P.bytesOf el<=140737488355328/\n+ys.length<=maxLen
def sApp (P:Program) (L:Pol) (dst:Option Nat) (st:S) (t t2:TypeId) (s:V) (ys:List V) (q:Option TypeId) (K:V->S->Prop):Prop:=
 match q with
 | none=>False
 | some el=>t2=t/\hasT P el=true/\((yN P el).map List.length=some (P.cellsOf el))/\0 < P.cellsOf el/\yo (P.cellsOf el) ys /\
  (match s with
   | .lst .nil []=>ys.length * P.bytesOf el<=140737488355328/\ys.length<=maxLen /\
    (if (dst.map L.wr).getD false=true then
     ys≠[]/\zH (zX ys)/\∀ b cap,look st.box b=none->ys.length<=cap->K (.at (.slice (some ⟨b,0,none⟩) ys.length cap)) ⟨lay st.box b (zX ys,cap * P.cellsOf el),st.tg,st.nx,st.ob⟩
    else K (.lst (.own st.nx true (P.cellsOf el)) ys) ⟨st.box,st.nx::st.tg,st.nx+1,st.ob⟩)
   | .lst (.own g nb sz) es=>g ∈ st.tg/\sz=P.cellsOf el/\(es.length+ys.length) * P.bytesOf el<=140737488355328/\es.length+ys.length<=maxLen /\
    K (.lst (.own st.nx nb sz) (es++ys)) ⟨st.box,st.nx::st.tg.erase g,st.nx+1,st.ob⟩
   | .at (.slice (some ⟨b,0,none⟩) len cap)=>
    (match look st.box b with
     | some (cs,k)=>(dst.map L.wr).getD false=true/\k=cap * P.cellsOf el/\len<=cap/\len * P.cellsOf el<=cs.length/\(len+ys.length) * P.bytesOf el<=140737488355328/\len+ys.length<=maxLen/\zH (zX ys) /\
      ∀ b' cap',look (wipe st.box b) b' = none->len+ys.length<=cap' ->
       K (.at (.slice (some ⟨b',0,none⟩) (len+ys.length) cap')) ⟨lay (wipe st.box b) b' (cs.take (len * P.cellsOf el)++zX ys,cap' * P.cellsOf el),st.tg,st.nx,st.ob⟩
     | none=>False)
   | _=>False)
theorem zII (P:Program) (L:Pol) (dst:Option Nat) (st:S) (t t2:TypeId) (s:V) (tg:Tag) (ys:List V) (K:V->S->Prop):xE P L dst st t t2 s (.lst tg ys) K=sApp P L dst st t t2 s ys (elT P t) K:=by
 unfold xE sApp;cases elT P t <;> rfl
theorem jg (P:Program) (L:Pol) (dst:Option Nat) (st:S) (t t2:TypeId) {s s':V} (h1:s=s') {ys ys':List V} (h2:ys=ys') {q q':Option TypeId} (h:q=q') (K:V->S->Prop):sApp P L dst st t t2 s ys q K=sApp P L dst st t t2 s' ys' q' K:=by
 rw [h1,h2,h]
def zHj (P:Program) (st:S) (ys:List V) (el:TypeId) (w:Bool) (K:V->S->Prop):Prop:=
 zDG P el 0 ys/\(if w=true then
  ys≠[]/\zH (zX ys)/\∀ b cap,look st.box b=none->ys.length<=cap->K (.at (.slice (some ⟨b,0,none⟩) ys.length cap)) ⟨lay st.box b (zX ys,cap * P.cellsOf el),st.tg,st.nx,st.ob⟩
  else K (.lst (.own st.nx true (P.cellsOf el)) ys) ⟨st.box,st.nx::st.tg,st.nx+1,st.ob⟩)
theorem zRh (P:Program) (L:Pol) (d:Nat) (st:S) (t:TypeId) (ys:List V) (el:TypeId) (K:V->S->Prop):sApp P L (some d) st t t (.lst .nil []) ys (some el) K=zHj P st ys el (L.wr d) K:=by
 unfold sApp zHj zDG;simp [and_assoc]
theorem jI (P:Program) (st:S) (ys:List V) (el:TypeId) {w w':Bool} (h1:w=w') (K:V->S->Prop):zHj P st ys el w K=zHj P st ys el w' K:=by rw [h1]
theorem zTM (P:Program) (st:S) (ys:List V) (el:TypeId) (K:V->S->Prop):zHj P st ys el false K=(zDG P el 0 ys/\K (.lst (.own st.nx true (P.cellsOf el)) ys) ⟨st.box,st.nx::st.tg,st.nx+1,st.ob⟩):=rfl
theorem zRs (P:Program) (L:Pol) (d:Nat) (st:S) (t:TypeId) (g:Nat) (nb:Bool) (sz:Nat) (es ys:List V) (el:TypeId) (K:V->S->Prop):sApp P L (some d) st t t (.lst (.own g nb sz) es) ys (some el) K =
 (zDG P el es.length ys/\g ∈ st.tg/\sz=P.cellsOf el/\K (.lst (.own st.nx nb sz) (es++ys)) ⟨st.box,st.nx::st.tg.erase g,st.nx+1,st.ob⟩):=by
 unfold sApp zDG;simp only [true_and,and_assoc];refine propext ⟨fun ⟨a,b,c,d,e,f,g,h,i⟩=>⟨a,b,c,d,g,h,e,f,i⟩,fun ⟨a,b,c,d,g,h,e,f,i⟩=>⟨a,b,c,d,e,f,g,h,i⟩⟩
theorem zND (es:List V):V.untag (.lst (zz es) es) = .lst (zz es) es:=by
 cases es <;> rfl
theorem untag_at (v:Value):V.untag (.at v) = .at v:=rfl
theorem zBC (es:List V):zn (.lst (zz es) es) = .lst (zz es) es:=by
 cases es <;> rfl
theorem zp (v:Value):(V.flat (.at v)).all V.isOne=true:=rfl
theorem zFo (tg:Tag) (es:List V):(V.flat (.lst tg es)).all V.isOne=true:=rfl
theorem zAz (fs:List V):(V.flat (.agg fs)).all V.isOne=fs.all V.isOne:=rfl
section
variable {P:Program} {L:Pol} {ds:List (Option Nat)} {KP:List PanicEntry->S->Prop} {os:List Oper} {K:Env->S->Prop} {e:Env} {st:S}
variable {d:Option Nat} {ty:TypeId} {pos:String} {af:Array Edge}
theorem zRy {f:FuncId} {xs:List Operand} {ts:Array TypeId} {as:List V} {r:V} (hp:PureF P f as r) (hL:L.pf f=true) (hc:zZ P f=true) (hu:(xs.map e.ev).map V.untag=as) (ha:((xs.map e.ev).all fun x=>x.flat.all V.isOne)=true)
 (h:AL P L ds KP os K (e.putO d r) st):AL P L ds KP (⟨d,.call ⟨.value (.func f),xs.toArray,ts⟩,ty,pos,af,none⟩::os) K e st:=by
 subst hu;exact zUS r hL hc ha hp h
end
theorem zGf (l r:List (Nat×List V×Nat)) (b:Nat):look (l++r) b=(look l b).or (look r b):=by
 induction l with
 | nil=>rfl
 | cons p q ih=>
  obtain ⟨k,c⟩:=p;simp only [List.cons_append,look];split
  . rfl
  . exact ih
theorem kY {α:Type} (sz:Nat) (f:α->V) (h:∀ x,(f x).size=sz) (l:List α):yo sz (l.map f):=fun x hx=>by
 obtain ⟨y,_,rfl⟩:=List.mem_map.1 hx;exact h y
def Env.has (e:Env):List (Nat×V)->Prop
 | []=>True
 | (k,x)::r=>e.get k=x/\Env.has e r
section
variable {P:Program} {X:Cx} {Q:Exit->Env->S->Prop} {e:Env} {st:S}
end
open Go.RowKit
def sAppW (P:Program) (st:S) (b len cap:Nat) (ys:List V) (w:Bool) (el:TypeId) (q:Option (List V×Nat)) (K:V->S->Prop):Prop:=
 match q with
 | none=>False
 | some (cs,k)=>zDG P el len ys/\w=true/\k=cap * P.cellsOf el/\len<=cap/\len * P.cellsOf el<=cs.length/\zH (zX ys) /\
  ∀ b' cap',look (wipe st.box b) b' = none->len+ys.length<=cap' ->
   K (.at (.slice (some ⟨b',0,none⟩) (len+ys.length) cap')) ⟨lay (wipe st.box b) b' (cs.take (len * P.cellsOf el)++zX ys,cap' * P.cellsOf el),st.tg,st.nx,st.ob⟩
theorem jG (P:Program) (st:S) (b len cap:Nat) (ys:List V) {w w':Bool} (h1:w=w') (el:TypeId) {q q':Option (List V×Nat)} (h:q=q') (K:V->S->Prop):sAppW P st b len cap ys w el q K=sAppW P st b len cap ys w' el q' K:=by rw [h,h1]
def appOkB (P:Program) (el:TypeId) (n m:Nat):Prop:=
 hasT P el=true/\((yN P el).map List.length=some (P.cellsOf el))/\0 < P.cellsOf el/\(n+m) * P.bytesOf el<=140737488355328/\n+m<=maxLen
def sAppS (P:Program) (st:S) (s:V) (m:Nat) (w:Bool) (q:Option TypeId) (q2:Option (List V×Nat)) (K:V->S->Prop):Prop:=
 match q,q2 with
 | some el,some (css,_)=>hasT P el=true/\((yN P el).map List.length=some (P.cellsOf el))/\0 < P.cellsOf el/\w=true/\m * P.cellsOf el<=css.length /\
  (match s with
   | .lst .nil []=>m * P.bytesOf el<=140737488355328/\m<=maxLen/\m≠0 /\
    ∀ b cap,look st.box b=none->m<=cap->K (.at (.slice (some ⟨b,0,none⟩) m cap)) ⟨lay st.box b (css.take (m * P.cellsOf el),cap * P.cellsOf el),st.tg,st.nx,st.ob⟩
   | .at (.slice (some ⟨b,0,none⟩) len cap)=>
    (match look st.box b with
     | some (cs,k)=>k=cap * P.cellsOf el/\len<=cap/\len * P.cellsOf el<=cs.length/\(len+m) * P.bytesOf el<=140737488355328/\len+m<=maxLen /\
      ∀ b' cap',look (wipe st.box b) b' = none->len+m<=cap' ->
       K (.at (.slice (some ⟨b',0,none⟩) (len+m) cap')) ⟨lay (wipe st.box b) b' (cs.take (len * P.cellsOf el)++css.take (m * P.cellsOf el),cap' * P.cellsOf el),st.tg,st.nx,st.ob⟩
     | none=>False)
   | _=>False)
 | _,_=>False
theorem jD (P:Program) (st:S) {s s':V} (h0:s=s') (m:Nat) {w w':Bool} (h1:w=w') {q q':Option TypeId} (h2:q=q') {r r':Option (List V×Nat)} (h3:r=r') (K:V->S->Prop):sAppS P st s m w q r K=sAppS P st s' m w' q' r' K:=by
 rw [h0,h1,h2,h3]
def zQe (P:Program) (st:S) (b len cap m:Nat) (el:TypeId) (css:List V) (q:Option (List V×Nat)) (K:V->S->Prop):Prop:=
 match q with
 | some (cs,k)=>appOkB P el len m/\m * P.cellsOf el<=css.length/\k=cap * P.cellsOf el/\len<=cap/\len * P.cellsOf el<=cs.length /\
  ∀ b' cap',look (wipe st.box b) b' = none->len+m<=cap' ->
   K (.at (.slice (some ⟨b',0,none⟩) (len+m) cap')) ⟨lay (wipe st.box b) b' (cs.take (len * P.cellsOf el)++css.take (m * P.cellsOf el),cap' * P.cellsOf el),st.tg,st.nx,st.ob⟩
 | none=>False
theorem qV (P:Program) (st:S) (b len cap m:Nat) (el:TypeId) (css:List V) {q q':Option (List V×Nat)} (h:q=q') (K:V->S->Prop):zQe P st b len cap m el css q K=zQe P st b len cap m el css q' K:=by rw [h]
theorem zS (P:Program) (rs:List ResultVar) (Q:Outc->S->Prop) (e:Env) (s:S):retER P rs Q .ret e s=xY P rs e s fun xs=>∃ s0,s.sub s0/\Q (.ret (finV xs)) s0:=rfl
section
variable {P:Program} {L:Pol} {ds:List (Option Nat)} {KP:List PanicEntry->S->Prop} {os:List Oper} {K:Env->S->Prop} {e:Env} {st:S}
variable {d:Option Nat} {ty:TypeId} {pos:String} {af:Array Edge}
def zGF (q:Option Nat) (e:Env) (b:Bool) (A B:Prop):Prop:=
 match q with
 | some t=>kX (e.get t) b A B
 | none=>False
theorem xX (op:Op) (j:Nat) (b:Bool):AL P L ds KP (⟨d,op,ty,pos,af,some (j,b)⟩::os) K e st =
 zGF (ds.getD j none) e b (AL P L ds KP (⟨d,op,ty,pos,af,none⟩::os) K e st) (AL P L ds KP os K (e.putO d (.tup [])) st):=by
 cases hj:ds.getD j none with
 | some t=>exact zSA op j b t hj
 | none=>
  show zi P L ds KP ⟨d,op,ty,pos,af,some (j,b)⟩ (AL P L ds KP os K) e st=False;unfold zi qq;simp only [hj]
theorem qD {q q':Option Nat} (h:q=q') (e:Env) (b:Bool) (A B:Prop):zGF q e b A B=zGF q' e b A B:=by rw [h]
theorem yW (t:Nat) (e:Env) (b:Bool) (A B:Prop):zGF (some t) e b A B=kX (e.get t) b A B:=rfl
end
def zNy (P:Program) (b o cap:Nat) (h:Int) (q:Option TypeId) (K:V->Prop):Prop:=
 match q with
 | some el=>hasT P el=true/\(0<=h/\h<=(cap:Int))/\K (.at (.slice (some ⟨b,o,none⟩) h.toNat cap))
 | none=>False
theorem xz (P:Program) (b o cap:Nat) {h h':Int} (e:h=h') {q q':Option TypeId} (e2:q=q') (K:V->Prop):zNy P b o cap h q K=zNy P b o cap h' q' K:=by rw [e,e2]
section
variable {P:Program} {X:Cx} {Q:Exit->Env->S->Prop} {e:Env} {st:S} {g:Gh} {w:World}
theorem zIJ {v:Value} {x:V} (hx:RC g w x [v]):∀ {cs:List V} {us:List Value} {j:Nat},cs[j]? = some (.at v)->RCs g w cs us->RCs g w (cs.set j x) us
 | [],us,j,hj,_=>by simp at hj
 | c::r,us,0,hj,h=>by
  simp only [RCs] at h;obtain ⟨u1,u2,rfl,h1,h2⟩:=h;simp only [List.getElem?_cons_zero,Option.some.injEq] at hj;subst hj;simp only [RC] at h1;simp only [List.set_cons_zero,RCs];exact ⟨u1,u2,rfl,by rw [h1.1]; exact hx,h2⟩
 | c::r,us,j+1,hj,h=>by
  simp only [RCs] at h;obtain ⟨u1,u2,rfl,h1,h2⟩:=h;simp only [List.getElem?_cons_succ] at hj;simp only [List.set_cons_succ,RCs];exact ⟨u1,u2,rfl,h1,zIJ hx hj h2⟩
theorem zPQ {x:V} {us:List Value} (h1:zH x.flat) (h:RCs g w x.flat us):RC g w x us:=by
 cases x with
 | any=>simp [V.flat,zH,V.isOne] at h1
 | tup vs=>simp [V.flat,zH,V.isOne] at h1
 | agg fs=>simpa only [RC,V.flat] using h
 | _=>
  simp only [V.flat,RCs] at h;obtain ⟨u1,u2,rfl,h2,rfl⟩:=h;simpa using h2
theorem zMa:∀ {xs ys:List V} {us:List Value},RCs g w (xs++ys) us->∃ u1 u2,us=u1++u2/\RCs g w xs u1/\RCs g w ys u2
 | [],ys,us,h=>⟨[],us,rfl,by simp [RCs],h⟩
 | x::xs,ys,us,h=>by
  simp only [List.cons_append,RCs] at h;obtain ⟨u1,u2,rfl,h1,h2⟩:=h;obtain ⟨v1,v2,rfl,h3,h4⟩:=zMa h2;exact ⟨u1++v1,v2,by simp,by simp only [RCs]; exact ⟨u1,v1,rfl,h1,h3⟩,h4⟩
theorem zCq:∀ {es:List V} {us:List Value},(∀ x ∈ es,zH x.flat)->RCs g w (zX es) us->RCs g w es us
 | [],us,_,h=>h
 | x::xs,us,h1,h=>by
  obtain ⟨u1,u2,rfl,h2,h3⟩:=zMa (xs:=x.flat) (ys:=zX xs) h;simp only [RCs];exact ⟨u1,u2,rfl,zPQ (h1 x (by simp)) h2,zCq (fun y hy=>h1 y (by simp [hy])) h3⟩
theorem zOs {c:Code} (b9 bb j n cap sz:Nat) (es:List V) {cs css:List V} {k kk:Nat} (h9:look st.box b9=some (cs,k)) (hj:cs[j]? = some (.at (.slice (some ⟨bb,0,none⟩) n cap)))
 (hb:look st.box bb=some (css,kk)) (hne:¬ b9=bb) (hn:es.length=n) (hcap:n<=cap) (hes:css.take (n * sz)=zX es) (hlen:n * sz<=css.length) (hsz:yo sz es) (h1:∀ x ∈ es,zH x.flat) (hu:es.map V.untag=es)
 (h:awp P X c Q e ⟨lay (wipe st.box bb) b9 (cs.set j (.lst .no es),k),st.tg,st.nx,st.ob⟩):awp P X c Q e st:=by
 intro g a w hr;have hi:=hr.inv;obtain ⟨p1,p2,p3,p4,arr,el,us,p5,p6,p7,p8⟩:=hi.box bb css kk hb;obtain ⟨q1,q2,q3,q4,arr9,el9,us9,q5,q6,q7,q8⟩:=hi.box b9 cs k h9;have hlt:bb < w.heap.size:=(Array.getElem?_eq_some_iff.1 p5).1;have hone:zH css:=by unfold zH; rw [List.all_eq_true]; exact p4
 have hul:=zy g w css us p7;rw [yK hone] at hul;have hla:Later g w ⟨fun i=>if i=bb then n * sz else g.wm i,g.tb,g.fr⟩ w:=⟨fun i=>by
  show g.wm i<=if i=bb then n * sz else g.wm i
  split
  . rename_i e1; subst e1; rw [p2]; exact Nat.zero_le _
  . exact Nat.le_refl _,fun _ _ e1=>e1,fun _ _ _=>rfl⟩
 have hs:Step X.B g w ⟨fun i=>if i=bb then n * sz else g.wm i,g.tb,g.fr⟩ w:=⟨hla,.refl _ _,fun i hf=>⟨rfl,if_neg (fun e=>by subst e; rw [(hi.boxFr hb).1] at hf; cases hf)⟩,fun i hi'=>if_neg (by omega),rfl⟩;have hi1:Inv X.B ⟨fun i=>if i=bb then n * sz else g.wm i,g.tb,g.fr⟩ ⟨wipe st.box bb,st.tg,st.nx,st.ob⟩ w:=by
  refine ⟨hi.base,?_,hi.tag,?_,hi.dist,hi.nodup,fun i hi'=>?_,hi.names,hi.ex.step hla (Nat.le_refl _) rfl rfl (fun b' o fp h2 i2 hi2=>⟨rfl,if_neg (fun (e:i2=bb)=>by rw [e] at hi2; exact (hi.boxFr hb).2 b' o fp h2 hi2)⟩) (fun j e _=>by show look (wipe st.box bb) j=none; rw [yr]; split <;> first | rfl | exact e) (fun _ _ e=>e)⟩
  . intro b' cs' k' hl;simp only [yr] at hl;split at hl
    . cases hl
    . rename_i e1;obtain ⟨r1,r2,r3,r4,arr',el',us',r5,r6,r7,r8⟩:=hi.box b' cs' k' hl;exact ⟨r1,by show (if b' = bb then _ else g.wm b')=0; rw [if_neg (fun e2=>e1 e2.symm)]; exact r2,r3,r4,arr',el',us',r5,r6,zg hla _ _ r7,r8⟩
  . intro t ht b' cap' n' sz' hb';obtain ⟨r1,r2,r3,r4,r5,r6⟩:=hi.own t ht b' cap' n' sz' hb';have e1:b'≠bb:=fun e1=>by subst e1; rw [hb] at r5; cases r5
    exact ⟨r1,by show (if b' = bb then _ else g.wm b')=_; rw [if_neg e1]; exact r2,r3,r4,by rw [yr]; split <;> first | rfl | exact r5,r6⟩
  . show (if i=bb then _ else g.wm i)=0;rw [if_neg (by omega)];exact hi.fresh i hi'
 have hds:RCs g.bare w es (us.take (n * sz)):=by
  have h2:=(yL hone p7 (n * sz)).1;rw [hes] at h2;have h3:=zAE (zCq h1 h2) h1
  rwa [hu] at h3
 have hlst:RC ⟨fun i=>if i=bb then n * sz else g.wm i,g.tb,g.fr⟩ w (.lst .no es) [.slice (some ⟨bb,0,none⟩) n cap]:=by
  simp only [RC];refine .inr ⟨bb,0,cap,us.take (n * sz),by rw [hn],by omega,trivial,zg hla.bare _ _ hds,⟨sz,hsz,fun _ _ _ e1=>by cases e1⟩,?_⟩;intro i u hiu;rw [List.getElem?_take] at hiu;split at hiu
  . rename_i hlt2;refine ⟨?_,?_⟩
    . rw [Nat.zero_add,cell_of_row w bb i arr el (0,0) p5];rw [<- p8,List.getElem?_take] at hiu;split at hiu
      . simpa using hiu
      . cases hiu
    . show 0+i < if bb=bb then n * sz else g.wm bb
      rw [if_pos rfl]; omega
  . cases hiu
 have hfin:Inv X.B ⟨fun i=>if i=bb then n * sz else g.wm i,g.tb,g.fr⟩ ⟨lay (wipe st.box bb) b9 (cs.set j (.lst .no es),k),st.tg,st.nx,st.ob⟩ w:=by
  have:=hi1.addBox (b:=b9) (arr:=arr9) (el:=el9) (cs:=cs.set j (.lst .no es)) (us:=us9) q1 (by show (if b9=bb then _ else g.wm b9)=0; rw [if_neg hne]; exact q2) q5 (by simp; omega)
   (fun c hc=>by
    rcases List.mem_or_eq_of_mem_set hc with h2 | h2
    . exact q4 c h2
    . subst h2; rfl)
   (zIJ hlst hj (zg hla _ _ q7)) (by simpa using q8) (fun t ht d hd=>by
    obtain ⟨cap',n',sz'⟩:=d;obtain ⟨r1,r2,r3,r4,r5,r6⟩:=hi.own t ht b9 cap' n' sz' hd;rw [h9] at r5; cases r5) (hi.boxFr h9).1 (hi.boxFr h9).2
  rw [q6] at this;exact this
 refine wpIn_mono (h _ a w ⟨hfin,fun i=>(hr.env i).later hla,hr.size,hr.df,hr.gl.below (.refl _ _) hla.wm⟩) ?_;rintro ex a' w' ⟨g',e',st',k1,k2,k3⟩;exact ⟨g',e',st',hs.trans k1,k2,k3⟩
end
end Go.Al
end
namespace Go.Al
section
open Go.RowKit
theorem zFD (l r:List (Nat×OV×List Nat)) (b:Nat):zN (l++r) b=(zN l b).or (zN r b):=by
 induction l with
 | nil=>rfl
 | cons p l ih=>
  obtain ⟨k,c⟩:=p;show zN ((k,c)::(l++r)) b=(zN ((k,c)::l) b).or (zN r b);rw [zl,zl];split
  . rfl
  . exact ih
def rbox (st0 st:S):List (Nat×List V×Nat):=st.box.filter fun p=>(look st0.box p.1).isNone
def rob (st0 st:S):List (Nat×OV×List Nat):=st.ob.filter fun p=>(zN st0.ob p.1).isNone
theorem zDU (p:Nat->Bool):∀ (l:List (Nat×List V×Nat)) (b:Nat),look (l.filter fun x=>p x.1) b=if p b=true then look l b else none
 | [],b=>by simp [look]
 | (k,c)::r,b=>by
  rw [List.filter_cons];by_cases h:p k=true
  . rw [if_pos h];show (if k=b then some c else look (r.filter _) b)=_;rw [zDU p r b];show (if k=b then some c else if p b=true then look r b else none)=if p b=true then (if k=b then some c else look r b) else none
    by_cases e:k=b
    . subst e; simp [h]
    . simp [e]
  . rw [if_neg h,zDU p r b];show _=if p b=true then (if k=b then some c else look r b) else none
    by_cases e:k=b
    . subst e; simp [h]
    . simp [e]
theorem zBD (p:Nat->Bool):∀ (l:List (Nat×OV×List Nat)) (b:Nat),zN (l.filter fun x=>p x.1) b=if p b=true then zN l b else none
 | [],b=>by simp [zN]
 | (k,c)::r,b=>by
  rw [List.filter_cons];by_cases h:p k=true
  . rw [if_pos h];rw [zl,zl,zBD p r b];by_cases e:k=b
    . subst e; simp [h]
    . simp [e]
  . rw [if_neg h,zBD p r b,zl];by_cases e:k=b
    . subst e; simp [h]
    . simp [e]
theorem jb (st0 st:S) (b:Nat):look (rbox st0 st) b=if (look st0.box b).isNone=true then look st.box b else none:=zDU (fun k=>(look st0.box k).isNone) st.box b
theorem kK (st0 st:S) (b:Nat):zN (rob st0 st) b=if (zN st0.ob b).isNone=true then zN st.ob b else none:=zBD (fun k=>(zN st0.ob k).isNone) st.ob b
def rtg (st0 st:S):List Nat:=st.tg.filter fun t=>!st0.tg.contains t
theorem rtg_iff {st0 st:S} {t:Nat}:t ∈ rtg st0 st↔t ∈ st.tg/\t ∉ st0.tg:=by simp [rtg]
def jR (st0 st s0:S):S:=⟨s0.box++rbox st0 st,s0.tg++rtg st0 st,max s0.nx st.nx,s0.ob++rob st0 st⟩
def zCp (st0 st:S) (g:Gh) (b:Nat):Prop:=
 (∃ c,look (rbox st0 st) b=some c)\/(∃ t ∈ rtg st0 st,∃ d,g.tb t=some (some (b,d)))\/(∃ b' o fp,zN (rob st0 st) b' = some (o,fp)/\b ∈ fp)
structure PartS (st0 st:S):Prop where
 box:∀ b c,look st0.box b=some c->look st.box b=some c
 tg:∀ t ∈ st0.tg,t ∈ st.tg
 nodup:st0.tg.Nodup
 ob:∀ b c,zN st0.ob b=some c->zN st.ob b=some c
 nx:st0.nx=st.nx
theorem zE6 (g:Gh) (f:Fr) (w:World):Later g w ⟨g.wm,g.tb,f⟩ w:=⟨fun _=>Nat.le_refl _,fun _ _ e=>e,fun _ _ _=>rfl⟩
open Classical in
noncomputable def frR (st0 st:S) (g:Gh):Fr:=⟨fun b=>g.fr b || decide (zCp st0 st g b),fun t=>g.fr.t t || decide (t ∈ rtg st0 st)⟩
theorem zLi {st0 st:S} {g:Gh} {b:Nat} (h:zCp st0 st g b):frR st0 st g b=true:=by show (_ || _)=true; simp [h]
theorem zRR {st0 st:S} {g:Gh} {b:Nat} (h:g.fr b=true):frR st0 st g b=true:=by show (_ || _)=true; simp [h]
theorem zQU {st0 st:S} {g:Gh} {b:Nat} (h:frR st0 st g b=false):g.fr b=false/\¬ zCp st0 st g b:=by
 replace h:(g.fr b || _)=false:=h;simpa using h
theorem zMD {st0 st:S} {g:Gh} {b:Nat} (h:frR st0 st g b=true):g.fr b=true\/zCp st0 st g b:=by
 replace h:(g.fr b || _)=true:=h;simpa using h
theorem zRK {st0 st:S} {g:Gh} {t:Nat} (h:t ∈ rtg st0 st):(frR st0 st g).t t=true:=by show (_ || _)=true; simp [h]
theorem frT_fr {st0 st:S} {g:Gh} {t:Nat} (h:g.fr.t t=true):(frR st0 st g).t t=true:=by show (_ || _)=true; simp [h]
theorem zSa {st0 st:S} {g:Gh} {t:Nat} (h:(frR st0 st g).t t=true):g.fr.t t=true\/t ∈ rtg st0 st:=by
 replace h:(g.fr.t t || _)=true:=h;simpa using h
section
variable {P:Program} {B:Nat} {g:Gh} {w:World} {st0 st:S}
theorem zBp (hp:PartS st0 st) {b:Nat} (h:look st.box b=none):look st0.box b=none:=by
 cases e:look st0.box b with
 | none=>rfl
 | some c=>rw [hp.box b c e] at h; cases h
theorem zTN (hi:Inv B g st w) {b:Nat} (h:zCp st0 st g b):b < w.heap.size/\(PartS st0 st->look st0.box b=none):=by
 rcases h with ⟨c,h⟩ | ⟨t,ht,d,h⟩ | ⟨b',o,fp,h,hb⟩
 . rw [jb] at h;split at h
   . rename_i h0;obtain ⟨cs,k⟩:=c;obtain ⟨_,_,_,_,arr,el,us,p5,_⟩:=hi.box b cs k h;exact ⟨(Array.getElem?_eq_some_iff.1 p5).1,fun _=>by simpa using h0⟩
   . cases h
 . obtain ⟨x1,x2,x3⟩:=d;obtain ⟨_,_,_,_,p5,arr,el,p6,_⟩:=hi.own t (rtg_iff.1 ht).1 b x1 x2 x3 h;exact ⟨(Array.getElem?_eq_some_iff.1 p6).1,fun hp=>zBp hp p5⟩
 . rw [kK] at h;split at h
   . obtain ⟨_,k2,_,k4,_⟩:=(hi.ex.ob b' o fp h).2.2 b hb;exact ⟨k2,fun hp=>zBp hp k4⟩
   . cases h
theorem zSc (hi:Inv B g st w) (hp:PartS st0 st) {b:Nat} (h:zCp st0 st g b):∀ t ∈ st0.tg,∀ d,g.tb t=some (some (b,d))->False:=fun t ht d hd=>by
 obtain ⟨x1,x2,x3⟩:=d;rcases h with ⟨c,h⟩ | ⟨t',ht',d',h⟩ | ⟨b',o,fp,h,hb⟩
 . rw [jb] at h;split at h
   . obtain ⟨_,_,_,_,p5,_⟩:=hi.own t (hp.tg t ht) b x1 x2 x3 hd;rw [p5] at h; cases h
   . cases h
 . obtain ⟨h1,h2⟩:=rtg_iff.1 ht';have:=hi.dist t (hp.tg t ht) t' h1 b _ _ hd h;subst this;exact h2 ht
 . rw [kK] at h;split at h
   . exact ((hi.ex.ob b' o fp h).2.2 b hb).2.2.2.2.1 t (hp.tg t ht) _ hd
   . cases h
theorem zSn (hi:Inv B g st w) (hp:PartS st0 st):Inv B ⟨g.wm,g.tb,frR st0 st g⟩ st0 w:=by
 have hl:=zE6 g (frR st0 st g) w;refine ⟨hi.base,fun b cs k h=>?_,fun t h=>hi.tag t (hp.tg t h),fun t h b cap n sz hb=>?_,fun t h t' h'=>hi.dist t (hp.tg t h) t' (hp.tg t' h'),hp.nodup,hi.fresh,fun t h=>hi.names t (by rw [<- hp.nx]; exact h),⟨fun b hb=>?_,fun b o fp h=>?_,fun b o fp b' o' fp' j h1 h2=>hi.ex.obd b o fp b' o' fp' j (hp.ob _ _ h1) (hp.ob _ _ h2),fun t ht=>?_⟩⟩
 . obtain ⟨p1,p2,p3,p4,arr,el,us,p5,p6,p7,p8⟩:=hi.box b cs k (hp.box b _ h);exact ⟨p1,p2,p3,p4,arr,el,us,p5,p6,zg hl _ _ p7,p8⟩
 . obtain ⟨p1,p2,p3,p4,p5,p6⟩:=hi.own t (hp.tg t h) b cap n sz hb;exact ⟨p1,p2,p3,p4,zBp hp p5,p6⟩
 . rcases zMD hb with hb | hb
   . obtain ⟨h1,h2,h3⟩:=hi.ex.frz b hb;exact ⟨h1,zBp hp h2,fun t ht=>h3 t (hp.tg t ht)⟩
   . have:=zTN hi hb;exact ⟨this.1,this.2 hp,zSc hi hp hb⟩
 . have h':=hp.ob b _ h;obtain ⟨k1,k2,k3⟩:=hi.ex.ob b o fp h';refine ⟨k1.local hl (fun _ _=>rfl),k2,fun j hj=>?_⟩;obtain ⟨q1,q2,q3,q4,q5,q6⟩:=k3 j hj;refine ⟨q1,q2,q3,zBp hp q4,fun t ht=>q5 t (hp.tg t ht),?_⟩;cases e:frR st0 st g j with
   | false=>rfl
   | true=>
    rcases zMD e with e | e
    . rw [q6] at e; cases e
    . exfalso;rcases e with ⟨c,e⟩ | ⟨t,ht,d,e⟩ | ⟨b',o',fp',e,hb⟩
      . rw [jb,q4] at e; simp at e
      . exact q5 t (rtg_iff.1 ht).1 d e
      . rw [kK] at e;split at e
        . rename_i h0;have:=hi.ex.obd b o fp b' o' fp' j h' e hj hb;subst this;rw [h] at h0; cases h0
        . cases e
 . rcases zSa ht with ht | ht
   . obtain ⟨h1,h2⟩:=hi.ex.ft t ht;exact ⟨fun hm=>h1 (hp.tg t hm),h2⟩
   . obtain ⟨h1,h2⟩:=rtg_iff.1 ht;exact ⟨h2,hi.tag t h1⟩
theorem zTC {g':Gh} {w':World} {s0:S} (hi:Inv B g st w) (hp:PartS st0 st) (hs:Step B ⟨g.wm,g.tb,frR st0 st g⟩ w g' w') (h0:Inv B g' s0 w') :
 Step B g w ⟨g'.wm,g'.tb,g.fr⟩ w'/\Inv B ⟨g'.wm,g'.tb,g.fr⟩ (jR st0 st s0) w'/\Later g' w' ⟨g'.wm,g'.tb,g.fr⟩ w':=by
 have hl2:Later g' w' ⟨g'.wm,g'.tb,g.fr⟩ w':=zE6 g' g.fr w';have hl:Later g w ⟨g'.wm,g'.tb,g.fr⟩ w':=⟨hs.later.wm,hs.later.tb,hs.later.cell⟩;have hfr:g'.fr=frR st0 st g:=hs.fr;have rest:∀ {b},zCp st0 st g b->w'.heap[b]? = w.heap[b]?/\g'.wm b=g.wm b/\look s0.box b=none/\(∀ b' o fp,zN s0.ob b' = some (o,fp)->b ∉ fp)/\∀ t ∈ s0.tg,∀ d,g'.tb t=some (some (b,d))->False:=fun {b} h=>by
  have h1:=zLi (st0:=st0) (st:=st) h;have h2:=hs.fz b h1;have h3:=h0.ex.frz b (by rw [hfr]; exact h1);refine ⟨h2.1,h2.2,h3.2.1,fun b' o fp h4 h5=>?_,h3.2.2⟩;have:=((h0.ex.ob b' o fp h4).2.2 b h5).2.2.2.2.2;rw [hfr,h1] at this; cases this
 have rt:∀ {t},t ∈ rtg st0 st->t ∈ st.tg:=fun h=>(rtg_iff.1 h).1;have rn:∀ {t},t ∈ rtg st0 st->t ∉ s0.tg:=fun {t} h=>(h0.ex.ft t (by rw [hfr]; exact zRK h)).1;have tbEq:∀ t ∈ rtg st0 st,g'.tb t=g.tb t:=fun t ht=>by
  obtain ⟨d,hd⟩:=hi.tag t (rt ht);rw [hd]; exact hs.later.tb t d hd
 have nrb:∀ {b},look st.box b=none->look (rbox st0 st) b=none:=fun {b} h=>by rw [jb]; split <;> first | exact h | rfl
 have hlk:∀ b,look (jR st0 st s0).box b=(look s0.box b).or (look (rbox st0 st) b):=fun b=>zGf _ _ _;have hol:∀ b,zN (jR st0 st s0).ob b=(zN s0.ob b).or (zN (rob st0 st) b):=fun b=>zFD _ _ _;have htg:∀ {t},t ∈ (jR st0 st s0).tg->t ∈ s0.tg\/t ∈ rtg st0 st:=fun h=>List.mem_append.1 h;have none_of:∀ {b},look s0.box b=none->look (rbox st0 st) b=none->look (jR st0 st s0).box b=none:=fun {b} h1 h2=>by rw [hlk,h1,h2]; rfl
 have rbIn:∀ {b c},look (rbox st0 st) b=some c->look st.box b=some c:=fun {b c} h=>by
  rw [jb] at h; split at h <;> first | exact h | cases h
 have roIn:∀ {b c},zN (rob st0 st) b=some c->zN st.ob b=some c:=fun {b c} h=>by
  rw [kK] at h; split at h <;> first | exact h | cases h
 have no0:∀ {b},(∀ t ∈ s0.tg,∀ d,g'.tb t=some (some (b,d))->False)->(∀ t ∈ rtg st0 st,∀ d,g.tb t=some (some (b,d))->False)->∀ t ∈ (jR st0 st s0).tg,∀ d,g'.tb t=some (some (b,d))->False:=fun {b} k1 k2 t ht d hd=>by
  rcases htg ht with ht | ht
  . exact k1 t ht d hd
  . exact k2 t ht d ((tbEq t ht).symm.trans hd)
 refine ⟨⟨hl,hs.below,fun b hb=>hs.fz b (zRR hb),hs.wmB,rfl⟩,⟨h0.base,fun b cs k h=>?_,fun t ht=>?_,fun t ht b cap n sz hb=>?_,fun t ht t' ht' b x y h1 h2=>?_,?_,h0.fresh,fun t ht=>h0.names t (Nat.le_trans (Nat.le_max_left _ _) ht),fun b hb=>?_,fun b o fp h=>?_,fun b o fp b' o' fp' j h1 h2 h3 h4=>?_,fun t ht=>?_⟩,hl2⟩
 . rw [hlk] at h;cases e:look s0.box b with
   | some c=>
    rw [e] at h;injection h with h
    subst h;obtain ⟨p1,p2,p3,p4,arr,el,us,p5,p6,p7,p8⟩:=h0.box b cs k e;exact ⟨p1,p2,p3,p4,arr,el,us,p5,p6,zg hl2 _ _ p7,p8⟩
   | none=>
    rw [e] at h;replace h:look (rbox st0 st) b=some (cs,k):=h;obtain ⟨r1,r2,_⟩:=rest (.inl ⟨_,h⟩);obtain ⟨p1,p2,p3,p4,arr,el,us,p5,p6,p7,p8⟩:=hi.box b cs k (rbIn h);exact ⟨p1,r2.trans p2,p3,p4,arr,el,us,r1.trans p5,p6,zg hl _ _ p7,p8⟩
 . rcases htg ht with ht | ht
   . exact h0.tag t ht
   . obtain ⟨d,hd⟩:=hi.tag t (rt ht);exact ⟨d,(tbEq t ht).trans hd⟩
 . rcases htg ht with ht | ht
   . obtain ⟨p1,p2,p3,p4,p5,p6⟩:=h0.own t ht b cap n sz hb;refine ⟨p1,p2,p3,p4,none_of p5 ?_,p6⟩;cases e:look (rbox st0 st) b with
     | none=>rfl
     | some c=>exact ((rest (.inl ⟨c,e⟩)).2.2.2.2 t ht _ hb).elim
   . have hb':g.tb t=some (some (b,cap,n,sz)):=(tbEq t ht).symm.trans hb;obtain ⟨r1,r2,r3,_⟩:=rest (.inr (.inl ⟨t,ht,_,hb'⟩));obtain ⟨p1,p2,p3,p4,p5,arr,el,p6,p7⟩:=hi.own t (rt ht) b cap n sz hb';exact ⟨p1,r2.trans p2,p3,p4,none_of r3 (nrb p5),arr,el,r1.trans p6,p7⟩
 . rcases htg ht with ht | ht <;> rcases htg ht' with ht' | ht'
   . exact h0.dist t ht t' ht' b x y h1 h2
   . exact ((rest (.inr (.inl ⟨t',ht',_,(tbEq t' ht').symm.trans h2⟩))).2.2.2.2 t ht _ h1).elim
   . exact ((rest (.inr (.inl ⟨t,ht,_,(tbEq t ht).symm.trans h1⟩))).2.2.2.2 t' ht' _ h2).elim
   . exact hi.dist t (rt ht) t' (rt ht') b x y ((tbEq t ht).symm.trans h1) ((tbEq t' ht').symm.trans h2)
 . refine List.nodup_append.2 ⟨h0.nodup,hi.nodup.filter _,fun a ha b hb e=>?_⟩;subst e;exact rn hb ha
 . replace hb:g.fr b=true:=hb;obtain ⟨h1,h2,h3⟩:=hi.ex.frz b hb;obtain ⟨k1,k2,k3⟩:=h0.ex.frz b (by rw [hfr]; exact zRR hb);exact ⟨k1,none_of k2 (nrb h2),no0 k3 fun t ht=>h3 t (rt ht)⟩
 . rw [hol] at h;cases e:zN s0.ob b with
   | some c=>
    rw [e] at h;injection h with h
    subst h;obtain ⟨k1,k2,k3⟩:=h0.ex.ob b o fp e;refine ⟨k1.local hl2 (fun _ _=>rfl),k2,fun j hj=>?_⟩;obtain ⟨q1,q2,q3,q4,q5,q6⟩:=k3 j hj;rw [hfr] at q6;obtain ⟨q7,q8⟩:=zQU q6;refine ⟨q1,q2,q3,none_of q4 ?_,no0 q5 fun t ht d hd=>q8 (.inr (.inl ⟨t,ht,d,hd⟩)),q7⟩;cases e2:look (rbox st0 st) j with
    | none=>rfl
    | some c=>exact absurd (.inl ⟨c,e2⟩) q8
   | none=>
    rw [e] at h;replace h:zN (rob st0 st) b=some (o,fp):=h;obtain ⟨k1,k2,k3⟩:=hi.ex.ob b o fp (roIn h);refine ⟨k1.local hl (fun j hj=>(rest (.inr (.inr ⟨b,o,fp,h,hj⟩))).1),k2,fun j hj=>?_⟩;obtain ⟨q1,q2,q3,q4,q5,q6⟩:=k3 j hj;obtain ⟨r1,r2,r3,_,r5⟩:=rest (.inr (.inr ⟨b,o,fp,h,hj⟩));exact ⟨q1,Nat.lt_of_lt_of_le q2 hs.below.size,r2.trans q3,none_of r3 (nrb q4),no0 r5 fun t ht=>q5 t (rt ht),q6⟩
 . rw [hol] at h1 h2;cases e1:zN s0.ob b with
   | some c=>
    rw [e1] at h1;injection h1 with h1
    subst h1;cases e2:zN s0.ob b' with
    | some c=>
     rw [e2] at h2;injection h2 with h2
     subst h2;exact h0.ex.obd b o fp b' o' fp' j e1 e2 h3 h4
    | none=>
     rw [e2] at h2;exact absurd h3 ((rest (.inr (.inr ⟨b',o',fp',h2,h4⟩))).2.2.2.1 b o fp e1)
   | none=>
    rw [e1] at h1;cases e2:zN s0.ob b' with
    | some c=>
     rw [e2] at h2;injection h2 with h2
     subst h2;exact absurd h4 ((rest (.inr (.inr ⟨b,o,fp,h1,h3⟩))).2.2.2.1 b' o' fp' e2)
    | none=>
     rw [e2] at h2;exact hi.ex.obd b o fp b' o' fp' j (roIn h1) (roIn h2) h3 h4
 . replace ht:g.fr.t t=true:=ht;obtain ⟨h1,d,h2⟩:=hi.ex.ft t ht;have h3:=(h0.ex.ft t (by rw [hfr]; exact frT_fr ht)).1;exact ⟨fun hm=>(htg hm).elim h3 fun hm=>h1 (rt hm),d,hs.later.tb t d h2⟩
structure ApartS (st0 st s0:S):Prop where
 box:∀ b c,look (rbox st0 st) b=some c->look s0.box b=none
 ob:∀ b c,zN (rob st0 st) b=some c->zN s0.ob b=none
 tg:∀ t ∈ rtg st0 st,t ∉ s0.tg
theorem zST {g':Gh} {w':World} {s0:S} (hi:Inv B g st w) (hs:Step B ⟨g.wm,g.tb,frR st0 st g⟩ w g' w') (h0:Inv B g' s0 w'):ApartS st0 st s0:=by
 have hfr:g'.fr=frR st0 st g:=hs.fr;refine ⟨fun b c h=>?_,fun b c h=>?_,fun t ht=>?_⟩
 . exact (h0.ex.frz b (by rw [hfr]; exact zLi (.inl ⟨c,h⟩))).2.1
 . cases e:zN s0.ob b with
   | none=>rfl
   | some x=>
    obtain ⟨o,fp⟩:=x;obtain ⟨o',fp'⟩:=c;obtain ⟨_,k2,k3⟩:=h0.ex.ob b o fp e;have h1:=(k3 b k2).2.2.2.2.2;have h2:zN st.ob b=some (o',fp'):=by rw [kK] at h; split at h <;> first | exact h | cases h
    rw [hfr,zLi (.inr (.inr ⟨b,o',fp',h,(hi.ex.ob b o' fp' h2).2.1⟩))] at h1;cases h1
 . exact (h0.ex.ft t (by rw [hfr]; exact zRK ht)).1
theorem zDA {f:FuncId} {args:List V} {Q:Outc->S->Prop} (h:FnC P f args st0 Q) (hp:PartS st0 st):FnC P f args st fun oc s=>∃ s0,Q oc s0/\s=jR st0 st s0/\ApartS st0 st s0:=by
 intro B g w vs hi hgl hv;refine (h B ⟨g.wm,g.tb,frR st0 st g⟩ w vs (zSn hi hp) hgl (hv.later (zE6 g _ w))).mono ?_;rintro e w' ⟨g',s0,h1,h2,h3⟩;obtain ⟨k1,k2,k3⟩:=zTC hi hp h1 h2;have ha:=zST hi h1 h2;refine ⟨_,jR st0 st s0,k1,k2,?_⟩;cases e with
 | returned v=>
  obtain ⟨r,h4,h5⟩:=h3;exact ⟨r,h4.later k3,s0,h5,rfl,ha⟩
 | panicked c=>exact ⟨s0,h3,rfl,ha⟩
 | outgrown=>exact h3.elim
theorem zDJ (st0 st s0:S) (b:Nat):look (jR st0 st s0).box b=(look s0.box b).or (look (rbox st0 st) b):=zGf _ _ _
theorem zEI (st0 st s0:S) (b:Nat):zN (jR st0 st s0).ob b=(zN s0.ob b).or (zN (rob st0 st) b):=zFD _ _ _
end
section
variable {P:Program} {X:Cx} {Q:Exit->Env->S->Prop} {e:Env} {st:S}
theorem yg {P:Program} {b:Frame} {a:Act} {k:List Item} {cs:List Frame} {w:World} {c:Code}:step P (lone (b.atR a (.code (.scope c)::k)) cs w) = .next (lone (b.atR a (.code c :: .inScope c::k)) cs w):=
 step_lone_go (by simp [stepG,stepG.exec,Frame.atR])
theorem zB7 {P:Program} {b:Frame} {a:Act} {k:List Item} {cs:List Frame} {w:World} {c:Code}:step P (lone (b.atR a (.inScope c::k)) cs w) = .next (lone (b.atR a k) cs w):=
 step_lone_go (by simp [stepG,stepG.exec,Frame.atR])
theorem zEN {P:Program} {F:Fence} {n:Nat} {Q:Exit->Act->World->Prop} {a:Act} {w:World} {c:Code} (h:c.wpIn F n P (Exit.noGoto Q) a w):(Code.scope c).wpIn F n P Q a w:=by
 intro b k cs hro hb hr;have h0:(lone (b.atR a (.code (.scope c)::k)) cs w).fenced P F:=fenced_calm hb hr rfl;obtain ⟨e,a₁,w₁,hq,harr⟩:=h b (.inScope c::k) cs hro hb hr;cases e with
 | normal=>exact ⟨.normal,a₁,w₁,hq,.head h0 yg (StepsIn.trans harr (.one (fenced_calm hb hr rfl) zB7))⟩
 | exit id'=>
  have hx:exitTo id' (.inScope c::k)=exitTo id' k:=by simp [exitTo]
  exact ⟨.exit id',a₁,w₁,hq,fun k' hk=>.head h0 yg (harr.1 k' (by rw [hx]; exact hk)),
   fun hr' hk=>let ⟨k₁,h1,h2⟩:=harr.2 hr' (by rw [hx]; exact hk); ⟨k₁,h1,.head h0 yg h2⟩⟩
 | goto l=>exact hq.elim
 | ret=>exact ⟨_,a₁,w₁,hq,.of_steps (.one h0 yg) harr⟩
 | panic ch=>exact ⟨_,a₁,w₁,hq,.of_steps (.one h0 yg) harr⟩
 | outgrown=>exact ⟨_,a₁,w₁,hq,.of_steps (.one h0 yg) harr⟩
def zTP (Q:Exit->Env->S->Prop):Exit->Env->S->Prop
 | .goto _,_,_=>False
 | x,e,st=>Q x e st
theorem zRP {c:Code} (h:awp P X c (zTP Q) e st):awp P X (.scope c) Q e st:=by
 intro g a w hr;refine zEN (wpIn_mono (h g a w hr) ?_);rintro ex a' w' ⟨g',e',st',h1,h2,h3⟩;cases ex with
 | goto l=>exact h3.elim
 | normal=>exact ⟨g',e',st',h1,h2,h3⟩
 | exit id=>exact ⟨g',e',st',h1,h2,h3⟩
 | ret=>exact ⟨g',e',st',h1,h2,h3⟩
 | panic c=>exact ⟨g',e',st',h1,h2,h3⟩
 | outgrown=>exact ⟨g',e',st',h1,h2,h3⟩
theorem zRY {l:Nat} (h:Q .normal e st):awp P X (.label l) Q e st:=fun g a w hr=>wpIn_label ⟨g,e,st,.refl _ _ _,hr,h⟩
end
end
end Go.Al
section
namespace Go.Den
open Go.Al
structure TyU where
 I:Type
 den:I->Type
 [deq:DecidableEq I]
attribute [instance] TyU.deq
inductive TM where
 | b (n:Bool)
 | dl
 | ow (t:Nat) (nb:Bool)
inductive T (U:TyU):Type where
 | any
 | int (k:IntKind) (n:Int)
 | bool (b:Bool)
 | str (s:List UInt8)
 | con (v:Value)
 | nil
 | agg (fs:List (T U))
 | tup (vs:List (T U))
 | lst (m:TM) (i:U.I) (xs:List (U.den i))
 | rptr (x:T U)
 | ptr (l:Nat) (o:Nat)
 | ptrE (l:Nat) (k:Nat) (o:Nat)
 | sl (l:Nat) (n:Nat)
 | clo (fn:Fn) (caps:List (T U))
 | ifx
 | hd (l:Nat)
 | sr (l:Nat)
 | lp (l:Nat)
 | cd (i:U.I) (x:U.den i)
 | slE (l a n:Nat)
instance {U:TyU}:Inhabited (T U):=⟨.any⟩
structure Cod (U:TyU) where
 enc:(i:U.I)->U.den i->T U
 encV:(i:U.I)->U.den i->V
 dec:(i:U.I)->{R:Type}->T U->(U.den i->Option R)->Option R
 dflt:(i:U.I)->U.den i
 cells:U.I->Nat
 agg:U.I->Bool
 plain:U.I->Bool
 ifv:(i:U.I)->U.den i->Value:=fun _ _=>.nilIface
 u8:(i:U.I)->Option (U.den i->Int):=fun _=>none
structure NM where
 bl:Nat->Nat
 cp:Nat->Nat
 sz:Nat->Nat
 tk:Nat->Nat
section
variable {U:TyU} (C:Cod U)
def trM (N:NM) (sz:Nat) (es:List V):TM->Tag
 | .b n=>if n then .nil else .no
 | .dl=>zz es
 | .ow t nb=>.own (N.tk t) nb sz
mutual
def trT (N:NM):T U->V
 | .any=>.any
 | .int k n=>.at (.int k n)
 | .bool b=>.at (.bool b)
 | .str s=>.at (.string ⟨s.toArray⟩)
 | .con v=>.at v
 | .nil=>.lst .nil []
 | .agg fs=>.agg (trTs N fs)
 | .tup vs=>.tup (trTs N vs)
 | .lst m i xs=>.lst (trM N (C.cells i) (xs.map (C.encV i)) m) (xs.map (C.encV i))
 | .rptr x=>.rptr (trT N x)
 | .ptr l o=>.at (.pointer (some ⟨N.bl l,o,none⟩))
 | .ptrE l k o=>.at (.pointer (some ⟨N.bl l,k * N.sz l+o,none⟩))
 | .sl l n=>.at (.slice (some ⟨N.bl l,0,none⟩) n (N.cp l))
 | .clo fn caps=>.clo fn (trTs N caps)
 | .ifx=>.ifx
 | .hd l=>.at (.map (if N.cp l=0 then none else some (N.bl l)))
 | .sr l=>.at (.slice (some ⟨N.bl l,0,none⟩) (N.sz l) (N.cp l))
 | .lp l=>.at (.pointer (if N.cp l=0 then none else some ⟨N.bl l,0,none⟩))
 | .cd i x=>.at (C.ifv i x)
 | .slE l a n=>.at (.slice (some ⟨N.bl l,if N.cp l=a then 0 else a * N.sz l,none⟩) n (N.cp l - a))
def trTs (N:NM):List (T U)->List V
 | []=>[]
 | x::xs=>trT N x::trTs N xs
end
theorem yX (N:NM):∀ l:List (T U),trTs C N l=l.map (trT C N)
 | []=>rfl
 | x::r=>by simp [trTs,yX N r]
mutual
/-- Places and tokens that it names are there. -/
def bdd (nl nx:Nat):T U->Bool
 | .ptr l _=>Nat.blt l nl
 | .ptrE l _ _=>Nat.blt l nl
 | .sl l _=>Nat.blt l nl
 | .hd l=>Nat.blt l nl
 | .sr l=>Nat.blt l nl
 | .lp l=>Nat.blt l nl
 | .slE l _ _=>Nat.blt l nl
 | .lst m _ _=>(match m with | .ow t _=>Nat.blt t nx | _=>true)
 | .agg fs=>bdds nl nx fs
 | .tup fs=>bdds nl nx fs
 | .rptr x=>bdd nl nx x
 | .clo _ fs=>bdds nl nx fs
 | _=>true
def bdds (nl nx:Nat):List (T U)->Bool
 | []=>true
 | x::xs=>bdd nl nx x && bdds nl nx xs
end
structure Ext (nl nx:Nat) (N N':NM):Prop where
 bl:∀ l,l < nl->N'.bl l=N.bl l
 cp:∀ l,l < nl->N'.cp l=N.cp l
 sz:∀ l,l < nl->N'.sz l=N.sz l
 tk:∀ t,t < nx->N'.tk t=N.tk t
theorem Ext.refl (nl nx:Nat) (N:NM):Ext nl nx N N:=⟨fun _ _=>rfl,fun _ _=>rfl,fun _ _=>rfl,fun _ _=>rfl⟩
theorem Ext.trans {nl nx nl' nx':Nat} {N N1 N2:NM} (h:Ext nl nx N N1) (h':Ext nl' nx' N1 N2) (h1:nl<=nl') (h2:nx<=nx'):Ext nl nx N N2:=
 ⟨fun l hl=>(h'.bl l (by omega)).trans (h.bl l hl),fun l hl=>(h'.cp l (by omega)).trans (h.cp l hl),fun l hl=>(h'.sz l (by omega)).trans (h.sz l hl),fun l hl=>(h'.tk l (by omega)).trans (h.tk l hl)⟩
theorem Ext.less {nl nx nl' nx':Nat} {N N':NM} (h:Ext nl nx N N') (h1:nl'<=nl) (h2:nx'<=nx):Ext nl' nx' N N':=
 ⟨fun l hl=>h.bl l (by omega),fun l hl=>h.cp l (by omega),fun l hl=>h.sz l (by omega),fun l hl=>h.tk l (by omega)⟩
theorem yT {a b:Nat} (h:Nat.blt a b=true):a < b:=by simpa [Nat.blt_eq] using h
mutual
theorem zCi {nl nx:Nat} {N N':NM} (h:Ext nl nx N N'):∀ x:T U,bdd nl nx x=true->trT C N' x=trT C N x
 | .any,_=>rfl
 | .cd _ _,_=>rfl
 | .ifx,_=>rfl
 | .int _ _,_=>rfl
 | .bool _,_=>rfl
 | .str _,_=>rfl
 | .con _,_=>rfl
 | .nil,_=>rfl
 | .agg fs,hb=>by simp only [trT]; rw [zCr h fs (by simpa only [bdd] using hb)]
 | .tup fs,hb=>by simp only [trT]; rw [zCr h fs (by simpa only [bdd] using hb)]
 | .lst m i xs,hb=>by
  simp only [trT];cases m with
  | b n=>rfl
  | dl=>rfl
  | ow t nb=>
   simp only [bdd] at hb;simp only [trM,h.tk t (yT hb)]
 | .rptr x,hb=>by simp only [trT]; rw [zCi h x (by simpa only [bdd] using hb)]
 | .ptr l o,hb=>by simp only [bdd] at hb; simp only [trT,h.bl l (yT hb)]
 | .ptrE l k o,hb=>by simp only [bdd] at hb; simp only [trT,h.bl l (yT hb),h.sz l (yT hb)]
 | .sl l n,hb=>by simp only [bdd] at hb; simp only [trT,h.bl l (yT hb),h.cp l (yT hb)]
 | .hd l,hb=>by simp only [bdd] at hb; simp only [trT,h.bl l (yT hb),h.cp l (yT hb)]
 | .sr l,hb=>by simp only [bdd] at hb; simp only [trT,h.bl l (yT hb),h.cp l (yT hb),h.sz l (yT hb)]
 | .lp l,hb=>by simp only [bdd] at hb; simp only [trT,h.bl l (yT hb),h.cp l (yT hb)]
 | .slE l a n,hb=>by simp only [bdd] at hb; simp only [trT,h.bl l (yT hb),h.cp l (yT hb),h.sz l (yT hb)]
 | .clo fn fs,hb=>by simp only [trT]; rw [zCr h fs (by simpa only [bdd] using hb)]
theorem zCr {nl nx:Nat} {N N':NM} (h:Ext nl nx N N'):∀ xs:List (T U),bdds nl nx xs=true->trTs C N' xs=trTs C N xs
 | [],_=>rfl
 | x::xs,hb=>by
  simp only [bdds,Bool.and_eq_true] at hb;simp only [trTs];rw [zCi h x hb.1,zCr h xs hb.2]
end
theorem kU {a b c:Nat} (h:Nat.blt a b=true) (hb:b<=c):Nat.blt a c=true:=by
 have:=yT h;simp [Nat.blt_eq]; omega
mutual
theorem zBd {nl nx nl' nx':Nat} (h1:nl<=nl') (h2:nx<=nx'):∀ x:T U,bdd nl nx x=true->bdd nl' nx' x=true
 | .any,_=>rfl
 | .cd _ _,_=>rfl
 | .ifx,_=>rfl
 | .int _ _,_=>rfl
 | .bool _,_=>rfl
 | .str _,_=>rfl
 | .con _,_=>rfl
 | .nil,_=>rfl
 | .agg fs,hb=>by simp only [bdd] at hb ⊢; exact yj h1 h2 fs hb
 | .tup fs,hb=>by simp only [bdd] at hb ⊢; exact yj h1 h2 fs hb
 | .lst m i xs,hb=>by
  cases m with
  | b n=>rfl
  | dl=>rfl
  | ow t nb=>simp only [bdd] at hb ⊢; exact kU hb h2
 | .rptr x,hb=>by simp only [bdd] at hb ⊢; exact zBd h1 h2 x hb
 | .ptr l o,hb=>by simp only [bdd] at hb ⊢; exact kU hb h1
 | .ptrE l k o,hb=>by simp only [bdd] at hb ⊢; exact kU hb h1
 | .sl l n,hb=>by simp only [bdd] at hb ⊢; exact kU hb h1
 | .hd l,hb=>by simp only [bdd] at hb ⊢; exact kU hb h1
 | .sr l,hb=>by simp only [bdd] at hb ⊢; exact kU hb h1
 | .lp l,hb=>by simp only [bdd] at hb ⊢; exact kU hb h1
 | .slE l _ _,hb=>by simp only [bdd] at hb ⊢; exact kU hb h1
 | .clo fn fs,hb=>by simp only [bdd] at hb ⊢; exact yj h1 h2 fs hb
theorem yj {nl nx nl' nx':Nat} (h1:nl<=nl') (h2:nx<=nx'):∀ xs:List (T U),bdds nl nx xs=true->bdds nl' nx' xs=true
 | [],_=>rfl
 | x::xs,hb=>by
  simp only [bdds,Bool.and_eq_true] at hb ⊢;exact ⟨zBd h1 h2 x hb.1,yj h1 h2 xs hb.2⟩
end
structure CodOk:Prop where
 enc:∀ N i x,trT C N (C.enc i x)=C.encV i x
 bd:∀ i x,bdd 0 0 (C.enc i x)=true
 dec:∀ i {R:Type} v (k:U.den i->Option R) r,C.dec i v k=some r->∃ x,k x=some r/\∀ N,(trT C N v).untag=C.encV i x
 decP:∀ i {R:Type} v (k:U.den i->Option R) r,C.plain i=true->C.dec i v k=some r->∃ x,k x=some r/\∀ N,trT C N v=C.encV i x
 size:∀ i x,(C.encV i x).size=C.cells i
 isAgg:∀ i x,(C.encV i x).isAgg=C.agg i
 ones:∀ i x,zH (C.encV i x).flat
 untag:∀ i x,(C.encV i x).untag=C.encV i x
 one:∀ i,C.agg i=false->C.cells i=1
 pos:∀ i,0 < C.cells i
 byt:∀ i f,C.u8 i=some f->∀ x,C.encV i x = .at (.int .u8 (f x))
def T.flat:T U->List (T U)
 | .agg fs=>fs
 | x=>[x]
def T.isOne:T U->Bool
 | .any | .agg _ | .tup _=>false
 | _=>true
def yG (l:List (T U)):Bool:=l.all T.isOne
theorem xu (N:NM) (x:T U):(trT C N x).flat=x.flat.map (trT C N):=by
 cases x <;> simp [T.flat,trT,V.flat,yX]
theorem zEq (N:NM) (x:T U):(trT C N x).isOne=x.isOne:=by
 cases x <;> rfl
theorem yq (N:NM) (l:List (T U)):zH (l.map (trT C N))↔yG l=true:=by
 unfold zH yG;rw [List.all_map];have:(V.isOne ∘ trT C N)=T.isOne:=funext fun x=>zEq C N x;rw [this]
theorem zMe (N:NM) (x:T U):(trT C N x).isAgg=(match x with | .agg _=>true | _=>false):=by
 cases x <;> rfl
def cT1:Value->T U
 | .slice none 0 0=>.nil
 | .agg _=>.any
 | .tuple _=>.any
 | .int k n=>.int k n
 | .bool b=>.bool b
 | .string s=>.str s.data.toList
 | v=>.con v
def cT:Value->T U
 | .agg cs=>if cs.toList.all one then .agg (cs.toList.map cT1) else .any
 | v=>cT1 v
theorem zMg (N:NM) (v:Value):trT C N (cT1 v)=cV1 v:=by
 unfold cT1;split <;> simp [trT,cV1]
theorem cT_tr (N:NM) (v:Value):trT C N (cT v)=cV v:=by
 unfold cT cV;cases v <;> simp only [zMg]
 split
 . simp only [trT,yX,List.map_map];congr 1;exact List.map_congr_left fun v _=>zMg C N v
 . rfl
end
open Go.Al
inductive KQ where
 | i
 | b
 | s
def vkq:List KQ->List Value->List Value->Bool
 | [],us,vs=>us.isEmpty && vs.isEmpty
 | q::r,us,vs=>(match us,vs with
  | u::us,v::vs=>(match q,u,v with
   | .i,.int k _,.int k' _=>decide (k=k') && vkq r us vs
   | .b,.bool _,.bool _=>vkq r us vs
   | .s,.string _,.string _=>vkq r us vs
   | _,_,_=>false)
  | _,_=>false)
def eqVs:List Value->List Value->Bool
 | u::us,v::vs=>eqAt (some u) (some v) && eqVs us vs
 | _,_=>true
theorem zIK {r:List KQ} {us vs:List Value} (h:vkq (.i::r) us vs=true):∃ k n m p q,us = .int k n::p/\vs = .int k m::q/\vkq r p q=true:=by
 cases us with
 | nil=>cases h
 | cons u p=>
  cases vs with
  | nil=>cases u <;> cases h
  | cons v q=>
   cases u <;> try (cases h; done)
   cases v <;> try (cases h; done)
   rename_i k n k' m;simp only [vkq,Bool.and_eq_true,decide_eq_true_eq] at h;obtain ⟨rfl,h⟩:=h;exact ⟨_,_,_,_,_,rfl,rfl,h⟩
theorem vkq_b {r:List KQ} {us vs:List Value} (h:vkq (.b::r) us vs=true):∃ n m p q,us = .bool n::p/\vs = .bool m::q/\vkq r p q=true:=by
 cases us with
 | nil=>cases h
 | cons u p=>
  cases vs with
  | nil=>cases u <;> cases h
  | cons v q=>
   cases u <;> try (cases h; done)
   cases v <;> try (cases h; done)
   exact ⟨_,_,_,_,rfl,rfl,h⟩
theorem vkq_s {r:List KQ} {us vs:List Value} (h:vkq (.s::r) us vs=true):∃ n m p q,us = .string n::p/\vs = .string m::q/\vkq r p q=true:=by
 cases us with
 | nil=>cases h
 | cons u p=>
  cases vs with
  | nil=>cases u <;> cases h
  | cons v q=>
   cases u <;> try (cases h; done)
   cases v <;> try (cases h; done)
   exact ⟨_,_,_,_,rfl,rfl,h⟩
theorem zNR {us vs:List Value} (h:vkq [] us vs=true):us=[]/\vs=[]:=by
 cases us with
 | nil=>cases vs with
  | nil=>exact ⟨rfl,rfl⟩
  | cons v q=>cases h
 | cons u q=>cases h
theorem zEO:∀ {l:List KQ} {us vs:List Value},vkq l us vs=true->zA1 us vs=true
 | [],us,vs,h=>by obtain ⟨rfl,rfl⟩:=zNR h; rfl
 | .i::r,us,vs,h=>by
  obtain ⟨k,n,m,p,q,rfl,rfl,h2⟩:=zIK h;simp only [zA1,decide_true,Bool.true_and];exact zEO h2
 | .b::r,us,vs,h=>by
  obtain ⟨n,m,p,q,rfl,rfl,h2⟩:=vkq_b h;simp only [zA1,Bool.true_and];exact zEO h2
 | .s::r,us,vs,h=>by
  obtain ⟨n,m,p,q,rfl,rfl,h2⟩:=vkq_s h;simp only [zA1,Bool.true_and];exact zEO h2
structure TD (U:TyU) where
 has:Bool:=false
 agg:Bool:=false
 cells:Nat:=0
 bytes:Nat:=0
 el:Option TypeId:=none
 code:Option U.I:=none
 flds:List (Nat×TypeId):=[]
 isStruct:Bool:=false
 isStr:Bool:=false
 isBool:Bool:=false
 isIfc:Bool:=false
 ik:Option IntKind:=none
 zero:Option (List (T U)):=none
 arr:Option (Nat×U.I):=none
 isByt:Bool:=false
 bpl:List (Nat×TypeId):=[]
 mki:{R:Type}->T U->((i:U.I)->U.den i->Option R)->Option R:=fun _ _=>none
 eqk:Option (List KQ):=none
 mpi:Bool:=false
 mci:Option U.I:=none
def fieldsOf (P:Program) (t:TypeId):List (Nat×TypeId):=match P.underlying t with | some (.struct fs)=>fs.toList.map fun f=>(f.offset,f.type) | _=>[]
theorem zHY (P:Program) (t:TypeId) (i:Nat):fieldAt P t i=(fieldsOf P t)[i]?:=by
 unfold fieldAt fieldsOf;cases P.underlying t with
 | none=>rfl
 | some d=>cases d <;> simp
def mkV (t:TypeId):V->Option Value
 | .at v=>some (.iface t v)
 | .agg fs=>(atsV fs).map fun us=>.iface t (.agg us.toArray)
 | _=>none
structure Facts {U:TyU} (C:Cod U) (P:Program) (t:TypeId) (d:TD U):Prop where
 has:hasT P t=true
 agg:yx P t=d.agg
 cells:P.cellsOf t=d.cells
 bytes:P.bytesOf t=d.bytes
 el:elT P t=d.el
 flds:fieldsOf P t=d.flds
 isStruct:zDI P t=d.isStruct
 isStr:jr P t=d.isStr
 isBool:zFy P t=d.isBool
 isIfc:zFU P t=d.isIfc
 ik:intT P t=d.ik
 zero:∀ N,yN P t=d.zero.map fun l=>l.map (trT C N)
 code:∀ i,d.code=some i->C.cells i=d.cells/\C.agg i=d.agg
 arr:∀ n i,d.arr=some (n,i)->arrT P t=some n
 isByt:zHX P t=d.isByt\/d.isByt=false
 bpl:zEk P t=d.bpl\/d.bpl=[]
 mki:∀ {R:Type} (x:T U) (k:(i:U.I)->U.den i->Option R) (r:R),d.mki x k=some r->P.concrete t=true/\∃ i v,k i v=some r/\∀ N,mkV t (trT C N x)=some (C.ifv i v)
 eqs:∀ l,d.eqk=some l->∀ us vs,vkq l us vs=true->zEQ P t us vs=true/\zEh P t us vs=eqVs us vs
 mpi:d.mpi=true->∃ e,mapT P t=some e/\kZ P e=some (.int .i64 0)
 mci:∀ i,d.mci=some i->∃ e z,mapT P t=some e/\kZ P e=some z/\zOk z=true/\zV z=C.encV i (C.dflt i)
theorem yB {P:Program} {t:TypeId} {l:List KQ} (h:(none:Option (List KQ))=some l):∀ us vs,vkq l us vs=true->zEQ P t us vs=true/\zEh P t us vs=eqVs us vs:=by cases h
inductive Bx (U:TyU) where
 | st (cs:List (T U))
 | ar (i:U.I) (xs:List (U.den i))
abbrev MT:=List (List UInt8×Int)
inductive TO (U:TyU) where
 | mp (c:MT)
 | sc (xs:List MT)
 | lv (xs:List (MT×MT))
 | l1 (x:MT×MT)
 | mc (i:U.I) (es:List (List UInt8×U.den i))
structure St (U:TyU) where
 bx:List (Nat×Option (Bx U))
 tg:List Nat
 nl:Nat
 nx:Nat
 ob:List (Nat×Option (TO U))
abbrev En (U:TyU):=List (Nat×T U)
section
variable {U:TyU}
def lk:List (Nat×Option (Bx U))->Nat->Option (Bx U)
 | [],_=>none
 | (k,b)::r,l=>bif Nat.beq k l then b else lk r l
def lko:List (Nat×Option (TO U))->Nat->Option (TO U)
 | [],_=>none
 | (k,b)::r,l=>bif Nat.beq k l then b else lko r l
def eget:En U->Nat->T U
 | [],_=>.any
 | (k,x)::r,j=>bif Nat.beq k j then x else eget r j
def eput (e:En U):Option Nat->T U->En U
 | none,_=>e
 | some d,x=>(d,x)::e
def gT (g:Nat):T U:=match zF6 globA g with | some us=>.rptr (.agg (us.map cT1)) | none=>.con (.pointer (some ⟨g,0,none⟩))
def evT (e:En U):Operand->T U
 | .tmp t=>eget e t
 | .const v=>cT v
 | .global g=>gT g
 | .func f=>.clo (.func f) []
def hasN:List Nat->Nat->Bool
 | [],_=>false
 | k::r,t=>bif Nat.beq k t then true else hasN r t
def rmN:List Nat->Nat->List Nat
 | [],_=>[]
 | k::r,t=>bif Nat.beq k t then rmN r t else k::rmN r t
def fe {R:Type} (x:T U) (k:T U->Option R):Option R:=
 match x with
 | .any=>k .any
 | .int a b=>k (.int a b)
 | .bool b=>k (.bool b)
 | .str s=>k (.str s)
 | .con v=>k (.con v)
 | .nil=>k .nil
 | .agg fs=>k (.agg fs)
 | .tup vs=>k (.tup vs)
 | .lst m i xs=>k (.lst m i xs)
 | .rptr x=>k (.rptr x)
 | .ptr l o=>k (.ptr l o)
 | .ptrE l a o=>k (.ptrE l a o)
 | .sl l n=>k (.sl l n)
 | .clo fn caps=>k (.clo fn caps)
 | .ifx=>k .ifx
 | .hd l=>k (.hd l)
 | .sr l=>k (.sr l)
 | .lp l=>k (.lp l)
 | .cd i x=>k (.cd i x)
 | .slE l a n=>k (.slE l a n)
theorem zBh {R:Type} (x:T U) (k:T U->Option R):fe x k=k x:=by cases x <;> rfl
def feL {R:Type}:List (T U)->(List (T U)->Option R)->Option R
 | [],k=>k []
 | x::xs,k=>feL xs fun ys=>k (x::ys)
theorem zAy {R:Type}:∀ (l:List (T U)) (k:List (T U)->Option R),feL l k=k l
 | [],_=>rfl
 | x::xs,k=>by simp [feL,zAy xs]
def fN {R:Type} (n:Nat) (k:Nat->Option R):Option R:=
 match n with
 | 0=>k 0
 | m+1=>k (Nat.succ m)
theorem zo {R:Type} (n:Nat) (k:Nat->Option R):fN n k=k n:=by cases n <;> rfl
def feB {R:Type}:List (Nat×Option (Bx U))->(List (Nat×Option (Bx U))->Option R)->Option R
 | [],k=>k []
 | p::r,k=>match p with | (l,b)=>fN l fun l=>feB r fun r'=>k ((l,b)::r')
theorem zQj {R:Type}:∀ (l:List (Nat×Option (Bx U))) (k:List (Nat×Option (Bx U))->Option R),feB l k=k l
 | [],_=>rfl
 | (l,b)::r,k=>by simp only [feB,zo,zQj r]
def feO {R:Type}:List (Nat×Option (TO U))->(List (Nat×Option (TO U))->Option R)->Option R
 | [],k=>k []
 | p::r,k=>match p with | (l,b)=>fN l fun l=>feO r fun r'=>k ((l,b)::r')
theorem zQA {R:Type}:∀ (l:List (Nat×Option (TO U))) (k:List (Nat×Option (TO U))->Option R),feO l k=k l
 | [],_=>rfl
 | (l,b)::r,k=>by simp only [feO,zo,zQA r]
def feS {R:Type} (st:St U) (k:St U->Option R):Option R:=
 match st with
 | ⟨bx,tg,nl,nx,ob⟩=>fN nl fun nl=>fN nx fun nx=>feB bx fun bx=>feO ob fun ob=>k ⟨bx,tg,nl,nx,ob⟩
theorem yy {R:Type} (st:St U) (k:St U->Option R):feS st k=k st:=by
 cases st; simp only [feS,zo,zQj,zQA]
def zIN {R:Type} (e:En U) (d:Option Nat) (x:T U) (k:En U->Option R):Option R:=
 match d with
 | none=>k e
 | some d=>k ((d,x)::e)
theorem zGz {R:Type} (e:En U) (d:Option Nat) (x:T U) (k:En U->Option R):zIN e d x k=k (eput e d x):=by cases d <;> rfl
def feA {R:Type}:List (T U)->(List (T U)->Option R)->Option R
 | [],k=>k []
 | x::xs,k=>fe x fun x=>feA xs fun ys=>k (x::ys)
theorem zBn {R:Type}:∀ (l:List (T U)) (k:List (T U)->Option R),feA l k=k l
 | [],_=>rfl
 | x::xs,k=>by simp only [feA,zBh,zBn xs]
def feP {R:Type}:List (Nat×T U)->(List (Nat×T U)->Option R)->Option R
 | [],k=>k []
 | p::xs,k=>match p with | (i,x)=>fe x fun x=>feP xs fun ys=>k ((i,x)::ys)
theorem zKq {R:Type}:∀ (l:List (Nat×T U)) (k:List (Nat×T U)->Option R),feP l k=k l
 | [],_=>rfl
 | (i,x)::xs,k=>by simp only [feP,zBh,zKq xs]
def inB (n:Int) (len:Nat):Bool:=decide (0<=n) && decide (n < (len:Int))
def inS (l h:Int) (len:Nat):Bool:=decide (0<=l) && decide (l<=h) && decide (h<=(len:Int))
def okN (b n:Nat):Bool:=decide (n * b<=140737488355328) && decide (n<=maxLen)
def iadd (k:IntKind) (a b:Int):Int:=k.wrap (a+b)
def isub (k:IntKind) (a b:Int):Int:=k.wrap (a - b)
def imul (k:IntKind) (a b:Int):Int:=k.wrap (a * b)
def iquo (k:IntKind) (a b:Int):Int:=k.wrap (a.tdiv b)
def iwrap (k:IntKind) (a:Int):Int:=k.wrap a
def irem (a b:Int):Int:=a.tmod b
def jand (k:IntKind) (a b:Int):Int:=iand k a b
def jor (k:IntKind) (a b:Int):Int:=ior k a b
def jxor (k:IntKind) (a b:Int):Int:=ixor k a b
def jandn (k:IntKind) (a b:Int):Int:=zPG k a b
def jshl (k:IntKind) (a b:Int):Int:=ishl k a b
def jshr (k:IntKind) (a b:Int):Int:=ishr k a b
def jnot (k:IntKind) (a:Int):Int:=inot k a
def zOb {α:Type} (f:α->Int) (xs:List α):List UInt8:=xs.map fun x=>UInt8.ofNat (f x).toNat
def ieq (a b:Int):Bool:=a == b
def ine (a b:Int):Bool:=a != b
def ilt (a b:Int):Bool:=decide (a < b)
def ile (a b:Int):Bool:=decide (a<=b)
def seq (a b:List UInt8):Bool:=a == b
def beqB (a b:Bool):Bool:=a == b
def okS (n:Nat):Bool:=Nat.ble n 9223372036854775807
theorem okS_le {n:Nat} (h:okS n=true):(n:Int)<=IntKind.i64.max:=by
 have h1:n<=9223372036854775807:=Nat.le_of_ble_eq_true h;have h2:IntKind.i64.max=9223372036854775807:=by decide
 omega
def zFE (s:List UInt8) (n:Int):Int:=((s.getD n.toNat 0).toNat:Int)
def cutL {α:Type} (xs:List α) (l h:Int):List α:=(xs.take h.toNat).drop l.toNat
def yY {α:Type} (n:Nat) (xs:List α):List α:=xs.take n
def lenI {α:Type} (xs:List α):Int:=(xs.length:Int)
section ops
variable {R:Type} (C:Cod U) (Tb:TypeId->TD U)
def zPT (c a b:T U) (k:T U->Option R):Option R:=
 match c with
 | .bool t=>bif t then k a else k b
 | _=>none
def dInt (op:BinOp) (kk:IntKind) (a b:Int) (k:T U->Option R):Option R:=
 match op with
 | .add=>k (.int kk (iadd kk a b))
 | .sub=>k (.int kk (isub kk a b))
 | .mul=>k (.int kk (imul kk a b))
 | .quo=>bif ine b 0 then k (.int kk (iquo kk a b)) else none
 | .rem=>bif ine b 0 then k (.int kk (irem a b)) else none
 | .eql=>k (.bool (ieq a b))
 | .neq=>k (.bool (ine a b))
 | .lss=>k (.bool (ilt a b))
 | .leq=>k (.bool (ile a b))
 | .gtr=>k (.bool (ilt b a))
 | .geq=>k (.bool (ile b a))
 | .and=>k (.int kk (jand kk a b))
 | .or=>k (.int kk (jor kk a b))
 | .xor=>k (.int kk (jxor kk a b))
 | .andNot=>k (.int kk (jandn kk a b))
 | .shl=>bif ile 0 b then k (.int kk (jshl kk a b)) else none
 | .shr=>bif ile 0 b then k (.int kk (jshr kk a b)) else none
def dStr (op:BinOp) (a b:List UInt8) (k:T U->Option R):Option R:=
 match op with
 | .add=>bif okS (a.length+b.length) then k (.str (a++b)) else none
 | .eql=>k (.bool (seq a b))
 | .neq=>k (.bool (!(seq a b)))
 | _=>none
def zPS (op:BinOp) (a b:Bool) (k:T U->Option R):Option R:=
 match op with
 | .eql=>k (.bool (beqB a b))
 | .neq=>k (.bool (!(beqB a b)))
 | _=>none
def nilT {α:Type}:TM->List α->Bool
 | .b n,_=>n
 | .dl,xs=>xs.isEmpty
 | .ow _ nb,xs=>nb && xs.isEmpty
def dNil (op:BinOp) (b:Bool) (k:T U->Option R):Option R:=
 match op with
 | .eql=>k (.bool b)
 | .neq=>k (.bool (!b))
 | _=>none
def zD6:Value->Bool
 | .nilIface=>true
 | _=>false
def isSh:BinOp->Bool
 | .shl=>true
 | .shr=>true
 | _=>false
def kqT:List KQ->List (T U)->List (T U)->Bool
 | [],xs,ys=>(match xs with | []=>(match ys with | []=>true | _::_=>false) | _::_=>false)
 | q::r,xs,ys=>(match xs with
  | []=>false
  | x::xs=>(match ys with
   | []=>false
   | y::ys=>(match q with
    | .i=>(match x with | .int k _=>(match y with | .int k' _=>decide (k=k') && kqT r xs ys | _=>false) | _=>false)
    | .b=>(match x with | .bool _=>(match y with | .bool _=>kqT r xs ys | _=>false) | _=>false)
    | .s=>(match x with | .str _=>(match y with | .str _=>kqT r xs ys | _=>false) | _=>false))))
def dEqs:List (T U)->List (T U)->Bool
 | [],_=>true
 | x::xs,ys=>(match ys with
  | []=>true
  | y::ys=>(match x with
   | .int _ a=>(match y with | .int _ b=>cond (ieq a b) (dEqs xs ys) false | _=>false)
   | .bool a=>(match y with | .bool b=>cond (beqB a b) (dEqs xs ys) false | _=>false)
   | .str a=>(match y with | .str b=>cond (seq a b) (dEqs xs ys) false | _=>false)
   | _=>false))
def dBin (op:BinOp) (t:TypeId) (c:Bool) (x y:T U) (k:T U->Option R):Option R:=
 match x with
 | .int ka a=>(match y with | .int kb b=>bif decide (ka=kb) || isSh op then dInt op ka a b k else none | _=>none)
 | .bool a=>(match y with | .bool b=>bif (Tb t).isBool && (Tb t).has then zPS op a b k else none | _=>none)
 | .str a=>(match y with | .str b=>dStr op a b k | _=>none)
 | .lst m i xs=>(match y with | .nil=>bif (Tb t).el.isSome && (Tb t).has then dNil op (nilT m xs) k else none | _=>none)
 | .nil=>(match y with | .nil=>bif (Tb t).el.isSome && (Tb t).has then dNil op true k else none | _=>none)
 | .ifx=>(match y with | .con v=>bif zD6 v && (Tb t).isIfc && (Tb t).has then dNil op false k else none | _=>none)
 | .con u=>(match y with | .con v=>bif zD6 u && zD6 v && (Tb t).isIfc && (Tb t).has && c then dNil op true k else none | _=>none)
 | .agg fs=>(match y with | .agg gs=>(match (Tb t).eqk with | some l=>bif (Tb t).has && kqT l fs gs then dNil op (dEqs fs gs) k else none | none=>none) | _=>none)
 | _=>none
def zOf (f t:TypeId) (x:T U) (k:T U->Option R):Option R:=
 match x with
 | .int _ n=>(match (Tb t).ik with | some kk=>bif (Tb t).has && (Tb f).has then k (.int kk (iwrap kk n)) else none | none=>none)
 | .str s=>bif (Tb t).has && (Tb f).has && (Tb t).isStr && (Tb f).isStr then k (.str s) else none
 | .lst _ i xs=>bif (Tb t).has && (Tb f).has && (Tb t).isStr && (Tb f).isByt then (match C.u8 i with | some g=>k (.str (zOb g xs)) | none=>none) else none
 | _=>none
def dUn (op:UnOp) (x:T U) (k:T U->Option R):Option R:=
 match x with
 | .bool b=>(match op with | .not=>k (.bool !b) | _=>none)
 | .int kk n=>(match op with | .neg=>k (.int kk (isub kk 0 n)) | .xor=>k (.int kk (jnot kk n)) | _=>none)
 | _=>none
def zHK (x:T U) (i:Nat) (k:T U->Option R):Option R:=
 match x with
 | .tup vs=>bif Nat.blt i vs.length then k (vs.getD i .any) else none
 | _=>none
def zGJ (fs:List (T U)) (off:Nat) (d:TD U) (k:T U->Option R):Option R:=
 bif d.has && Nat.ble (off+d.cells) fs.length && (d.agg || Nat.beq d.cells 1) then
  bif d.agg then feL ((fs.drop off).take d.cells) fun l=>k (.agg l) else k (fs.getD off .any)
 else none
def zEW (t:TypeId) (x:T U) (f:Nat) (k:T U->Option R):Option R:=
 match (Tb t).flds[f]? with
 | none=>none
 | some p=>
  bif (Tb t).has && (Tb p.2).has && Nat.blt 0 (Tb p.2).cells then
   match x with
   | .rptr y=>(match y with
    | .agg fs=>bif yG fs then zGJ fs p.1 (Tb p.2) fun v=>k (.rptr v) else none
    | _=>none)
   | .ptr l o=>k (.ptr l (o+p.1))
   | .ptrE l a o=>k (.ptrE l a (o+p.1))
   | _=>none
  else none
def zB6 (t:TypeId) (k:U.I->TypeId->TD U->Option R):Option R:=
 match (Tb t).el with
 | none=>none
 | some el=>bif (Tb t).has && (Tb el).has then (match (Tb el).code with | some i=>k i el (Tb el) | none=>none) else none
def zEY (st:St U) (t:TypeId) (x n:T U) (k:T U->Option R):Option R:=
 zB6 Tb t fun i _ _=>
 match n with
 | .int _ n=>
  (match x with
  | .lst _ j xs=>bif decide (j=i) && inB n xs.length then k (.rptr (C.enc j (xs.getD n.toNat (C.dflt j)))) else none
  | .sl l m=>(match lk st.bx l with
   | some (.ar j _)=>bif decide (j=i) && inB n m then k (.ptrE l n.toNat 0) else none
   | _=>none)
  | _=>none)
 | _=>none
def zKT (i:U.I):List (T U)->(List (U.den i)->Option R)->Option R
 | [],k=>k []
 | x::r,k=>C.dec i x fun y=>zKT i r fun ys=>k (y::ys)
def zK3 (t:TypeId) (x n:T U) (k:T U->Option R):Option R:=
 match x with
 | .str s=>(match n with
  | .int _ n=>bif (Tb t).has && (Tb t).isStr && inB n s.length then k (.int .u8 (zFE s n)) else none
  | _=>none)
 | .agg fs=>(match n with
  | .int _ n=>(match (Tb t).arr with
   | some (m,i)=>bif (Tb t).has && C.plain i && !C.agg i && yG fs && Nat.beq m fs.length && inB n fs.length then zKT C i fs fun xs=>k (C.enc i (xs.getD n.toNat (C.dflt i))) else none
   | none=>none)
  | _=>none)
 | _=>none
def zO5 (d:TD U) (y:T U):Bool:=
 match y with
 | .agg fs=>d.has && d.agg && yG fs && Nat.beq fs.length d.cells
 | x=>d.has && !d.agg && x.isOne && Nat.beq d.cells 1
def zKY (st:St U) (t:TypeId) (x:T U) (k:T U->Option R):Option R:=
 match x with
 | .rptr y=>bif zO5 (Tb t) y then k y else none
 | .ptr l o=>(match lk st.bx l with
  | some (.st cs)=>zGJ cs o (Tb t) k
  | _=>none)
 | .ptrE l a o=>(match lk st.bx l with
  | some (.ar i xs)=>bif Nat.ble (o+(Tb t).cells) (C.cells i) && Nat.blt a xs.length then feL (C.enc i (xs.getD a (C.dflt i))).flat fun l=>zGJ l o (Tb t) k else none
  | _=>none)
 | _=>none
def splT (cs:List (T U)) (o:Nat) (xs:List (T U)):List (T U):=cs.take o++xs++cs.drop (o+xs.length)
def asEl (a:Bool) (l:List (T U)):T U:=bif a then .agg l else l.headD .any
def noOw:T U->Bool
 | .lst m _ _=>(match m with | .ow _ _=>false | _=>true)
 | _=>true
def zGL:List (T U)->Bool
 | []=>true
 | x::r=>noOw x && zGL r
def zLB (st:St U) (t:TypeId) (x y:T U) (k:St U->Option R):Option R:=
 feL y.flat fun yf=>
 bif (Tb t).has && Nat.beq yf.length (Tb t).cells && yG yf then
  match x with
  | .ptr l o=>(match lk st.bx l with
   | some (.st cs)=>bif Nat.ble (o+yf.length) cs.length && bdds st.nl st.nx yf then
    feL (splT cs o yf) fun cs'=>k ⟨(l,some (.st cs'))::st.bx,st.tg,st.nl,st.nx,st.ob⟩ else none
   | _=>none)
  | .ptrE l a o=>(match lk st.bx l with
   | some (.ar i xs)=>bif (C.plain i || zGL yf) && Nat.ble (o+yf.length) (C.cells i) && Nat.blt a xs.length then
    C.dec i (asEl (C.agg i) (splT (C.enc i (xs.getD a (C.dflt i))).flat o yf)) fun x'=>k ⟨(l,some (.ar i (xs.set a x')))::st.bx,st.tg,st.nl,st.nx,st.ob⟩ else none
   | _=>none)
  | _=>none
 else none
def dNew (st:St U) (cs:List (T U)) (k:T U->St U->Option R):Option R:=
 bif yG cs && bdds st.nl st.nx cs then k (.ptr st.nl 0) ⟨(st.nl,some (.st cs))::st.bx,st.tg,st.nl+1,st.nx,st.ob⟩ else none
def zQT (st:St U) (t:TypeId) (k:T U->St U->Option R):Option R:=
 bif (Tb t).has then (match (Tb t).zero with | some cs=>dNew st cs k | none=>none) else none
def zGW (flds:List (Nat×TypeId)):List (T U)->List (Nat×T U)->(List (T U)->Option R)->Option R
 | cells,[],k=>k cells
 | cells,(i,x)::rest,k=>
  match flds[i]? with
  | none=>none
  | some p=>bif (Tb p.2).has && Nat.beq x.flat.length (Tb p.2).cells && Nat.ble (p.1+(Tb p.2).cells) cells.length && yG x.flat then
   feL (splT cells p.1 x.flat) fun cells'=>zGW flds cells' rest k else none
def zLR (t:TypeId) (parts:List (Nat×T U)) (k:T U->Option R):Option R:=
 bif (Tb t).has && (Tb t).isStruct then
  (match (Tb t).zero with
  | some cs=>zGW Tb (Tb t).flds cs parts fun l=>k (.agg l)
  | none=>none) else
 match (Tb t).bpl with
 | []=>none
 | p::ps=>bif (Tb t).has && (Tb p.2).has then (match (Tb t).zero with
  | some cs=>zGW Tb (p::ps) cs parts fun l=>k (.agg l)
  | none=>none) else none
def zIL (i:U.I):List (Nat×T U)->(List (U.den i)->Option R)->Option R
 | [],k=>k []
 | p::r,k=>C.dec i p.2 fun x=>zIL i r fun xs=>k (x::xs)
def zKQ:Nat->List (Nat×T U)->Bool
 | _,[]=>true
 | n,(i,_)::r=>Nat.beq i n && zKQ (n+1) r
def zCU:List (Nat×T U)->Bool
 | []=>true
 | p::r=>yG p.2.flat && zCU r
def wrD (wr:Nat->Bool):Option Nat->Bool
 | some d=>wr d
 | none=>false
def zDW (wr own:Nat->Bool) (dst:Option Nat) (st:St U) (t:TypeId) (n:Nat) (parts:List (Nat×T U)) (k:T U->St U->Option R):Option R:=
 zB6 Tb t fun i _ d=>
 bif (match d.zero with | some z=>Nat.beq z.length d.cells | none=>false) && Nat.ble (n * d.cells) 16777216 && decide (n<=maxLen) && Nat.beq parts.length n && zKQ 0 parts && zCU parts then
  zIL C i parts fun xs=>
   bif wrD wr dst then
    bif C.plain i then k (.sl st.nl n) ⟨(st.nl,some (.ar i xs))::st.bx,st.tg,st.nl+1,st.nx,st.ob⟩ else none
   else bif wrD own dst then k (.lst (.ow st.nx false) i xs) ⟨st.bx,st.nx::st.tg,st.nl,st.nx+1,st.ob⟩
   else k (.lst (.b false) i xs) st
 else none
def dLen (t:TypeId) (x:T U) (k:T U->Option R):Option R:=
 match x with
 | .lst _ _ xs=>bif (Tb t).has && (Tb t).el.isSome then k (.int .i64 (lenI xs)) else none
 | .nil=>bif (Tb t).has && (Tb t).el.isSome then k (.int .i64 0) else none
 | .sl _ n=>bif (Tb t).has && (Tb t).el.isSome then k (.int .i64 (n:Int)) else none
 | .str s=>bif (Tb t).has && (Tb t).isStr then k (.int .i64 (lenI s)) else none
 | _=>none
def kH {i j:U.I} (h:j=i) (xs:List (U.den j)):List (U.den i):=h ▸ xs
def castM {i j:U.I} (h:j=i) (xs:List (List UInt8×U.den j)):List (List UInt8×U.den i):=h ▸ xs
def sameM {R:Type} (i j:U.I) (xs:List (List UInt8×U.den j)) (k:List (List UInt8×U.den i)->Option R):Option R:=
 if h:j=i then k (castM h xs) else none
def jz {R:Type} (i j:U.I) (xs:List (U.den j)) (k:List (U.den i)->Option R):Option R:=
 if h:j=i then k (kH h xs) else none
def zC4 (wr:Nat->Bool) (dst:Option Nat) (st:St U) (t t2:TypeId) (s x:T U) (k:T U->St U->Option R):Option R:=
 zB6 Tb t fun i _ d=>
 bif Nat.beq t t2 && (match d.zero with | some z=>Nat.beq z.length d.cells | none=>false) then
  match x with
  | .lst _ j ys'=>jz i j ys' fun ys=>
   (match s with
   | .nil=>bif okN d.bytes ys.length then
    (bif wrD wr dst then
     bif !ys.isEmpty then k (.sl st.nl ys.length) ⟨(st.nl,some (.ar i ys))::st.bx,st.tg,st.nl+1,st.nx,st.ob⟩ else none
    else k (.lst (.ow st.nx true) i ys) ⟨st.bx,st.nx::st.tg,st.nl,st.nx+1,st.ob⟩) else none
   | .lst m j' xs'=>(match m with
    | .ow tk nb=>jz i j' xs' fun xs=>bif hasN st.tg tk && okN d.bytes (xs.length+ys.length) then
     k (.lst (.ow st.nx nb) i (xs++ys)) ⟨st.bx,st.nx::rmN st.tg tk,st.nl,st.nx+1,st.ob⟩ else none
    | _=>none)
   | .sl l n=>(match lk st.bx l with
    | some (.ar j' xs')=>jz i j' xs' fun xs=>bif wrD wr dst && Nat.ble n xs.length && okN d.bytes (n+ys.length) then
     k (.sl st.nl (n+ys.length)) ⟨(st.nl,some (.ar i (xs.take n++ys)))::(l,none)::st.bx,st.tg,st.nl+1,st.nx,st.ob⟩ else none
    | _=>none)
   | _=>none)
  | _=>none
 else none
def zJV (wr:Nat->Bool) (dst:Option Nat) (st:St U) (t t2:TypeId) (s x:T U) (k:T U->St U->Option R):Option R:=
 match s with
 | .lst m j xs=>(match m with
  | .dl=>bif xs.isEmpty then zC4 Tb wr dst st t t2 .nil x k else none
  | m=>zC4 Tb wr dst st t t2 (.lst m j xs) x k)
 | s=>zC4 Tb wr dst st t t2 s x k
def zBm (x:Option (T U)) (d:Int) (k:Int->Option R):Option R:=
 match x with
 | none=>k d
 | some x=>(match x with | .int _ n=>k n | _=>none)
def cutM {α:Type}:TM->List α->TM
 | .b n,_=>.b n
 | .dl,xs=>.b xs.isEmpty
 | .ow _ nb,xs=>bif nb then .b xs.isEmpty else .b false
def zLA (st:St U) (t:TypeId) (x:T U) (lo hi:Option (T U)) (k:T U->Option R):Option R:=
 match x with
 | .lst m j xs=>zB6 Tb t fun i _ _=>bif decide (j=i) then
  zBm lo 0 fun l=>zBm hi (lenI xs) fun h=>bif inS l h xs.length then k (.lst (cutM m xs) j (cutL xs l h)) else none
  else none
 | .sl l0 n=>zB6 Tb t fun i _ _=>
  (match lo with
  | none=>(match lk st.bx l0 with
   | some (.ar j xs)=>bif decide (j=i) then zBm hi (n:Int) fun h=>bif inS 0 h xs.length then k (.sl l0 h.toNat) else none else none
   | _=>none)
  | some lo=>(match lo with
   | .int _ a=>(match lk st.bx l0 with
    | some (.ar j xs)=>bif decide (j=i) then zBm hi (n:Int) fun h=>bif inS a h xs.length then k (.slE l0 a.toNat (h.toNat - a.toNat)) else none else none
    | _=>none)
   | _=>none))
 | .str s=>bif (Tb t).has && (Tb t).isStr then
  zBm lo 0 fun l=>zBm hi (lenI s) fun h=>bif inS l h s.length then k (.str (cutL s l h)) else none
  else none
 | .rptr x=>(match x with
  | .agg fs=>(match lo with
   | none=>(match hi with
    | none=>(match (Tb t).arr with
     | some (m,i)=>bif (Tb t).has && C.plain i && yG fs && Nat.beq m fs.length && !fs.isEmpty then zKT C i fs fun xs=>k (.lst (.b false) i xs) else none
     | none=>none)
    | some _=>none)
   | some _=>none)
  | _=>none)
 | _=>none
def zFR (x:T U) (k:T U->Option R):Option R:=
 match x with
 | .rptr y=>k (.rptr y)
 | .ptr l o=>k (.ptr l o)
 | .ptrE l a o=>k (.ptrE l a o)
 | _=>none
def mIx (m:String):Nat:=bif decide (m = "emend/ifexpr.comes") then 1000000 else 1000001
theorem mIx_lt (m:String):mIx m < 2000000:=by unfold mIx; cases decide (m = "emend/ifexpr.comes") <;> simp
theorem zPx (m:String):1000000<=mIx m:=by unfold mIx; cases decide (m = "emend/ifexpr.comes") <;> simp
abbrev Call (U:TyU) (R:Type):=Nat->List (T U)->List Nat->St U->(T U->St U->Option R)->Option R
def xt:List (T U)->Bool
 | []=>true
 | x::r=>yG x.flat && xt r
abbrev KD:=List (Nat×Nat×Nat)
def ldD (kd:KD) (x:Operand) (e:En U):Bool:=
 match x with
 | .tmp u=>kd.all fun p=>!(Nat.beq p.2.1 u) || (match eget e u with | .ptr l _=>Nat.beq l p.2.2 | .rptr _=>true | _=>false)
 | _=>true
def ksD (kd:KD) (d:Option Nat):List Nat:=
 match d with
 | none=>[]
 | some d=>kd.filterMap fun p=>bif Nat.beq p.1 d then some p.2.2 else none
def kdOf {R:Type}:List (Nat×Nat×Nat)->En U->(KD->Option R)->Option R
 | [],_,k=>k []
 | p::r,e,k=>match eget e p.2.2 with
  | .ptr l _=>kdOf r e fun kd=>k ((p.1,p.2.1,l)::kd)
  | _=>none
def zKc (st:St U) (l:Nat):Bool:=match lk st.bx l with | some _=>true | none=>false
def stD (kd:KD) (x:Operand) (e:En U) (st:St U):Bool:=
 match x with
 | .tmp a=>kd.all fun p=>!(Nat.beq p.1 (1000000+a)) || (match eget e a with | .ptr l _=>!(Nat.beq l p.2.2) && zKc st l && zKc st p.2.2 | _=>false)
 | _=>true
def zDD:List (T U)->Bool
 | []=>true
 | x::r=>(match x with | .ptr _ _=>zDD r | _=>false)
def cIx (n:Nat):Nat:=2000000+n
def dCall (call:Call U R) (ks:List Nat) (f:T U) (args:List (T U)) (st:St U) (k:T U->St U->Option R):Option R:=
 match f with
 | .clo fn caps=>(match fn with
  | .func n=>(match caps with
   | []=>bif xt args && bdds st.nl st.nx args && Nat.blt n 1000000 then call n args ks st k else none
   | c::cs=>bif zDD (c::cs) && xt args && bdds st.nl st.nx (args++c::cs) then call (cIx n) (args++c::cs) ks st k else none)
  | _=>none)
 | _=>none
def zKy (st:St U) (t:TypeId) (x:T U) (k:St U->Option R):Option R:=
 match x with
 | .slE l a n=>(match lk st.bx l with
  | some (.ar j xs)=>zB6 Tb t fun i _ d=>bif decide (j=i) && (match d.zero with | some z=>Nat.beq z.length d.cells | none=>false) && Nat.ble (a+n) xs.length then
   bif Nat.beq n 0 then k st else k ⟨(l,some (.ar j (yY a xs)))::st.bx,st.tg,st.nl,st.nx,st.ob⟩ else none
  | _=>none)
 | _=>none
def zL9 (wr:Nat->Bool) (dst:Option Nat) (b:Builtin) (ts:List TypeId) (args:List (T U)) (st:St U) (k:T U->St U->Option R):Option R:=
 match b with
 | .len=>(match ts with | t::_=>(match args with | [x]=>dLen Tb t x fun v=>k v st | _=>none) | _=>none)
 | .append=>(match ts with | [t,t2]=>(match args with | [s,x]=>zJV Tb wr dst st t t2 s x k | _=>none) | _=>none)
 | .clear=>(match ts with | t::_=>(match args with | [x]=>zKy Tb st t x fun st'=>k (.tup []) st' | _=>none) | _=>none)
 | _=>none
def evL (e:En U):List Operand->List (T U)
 | []=>[]
 | x::r=>evT e x::evL e r
def evP (e:En U):List (Nat×Operand)->List (Nat×T U)
 | []=>[]
 | x::r=>(x.1,evT e x.2)::evP e r
def evO (e:En U):Option Operand->Option (T U)
 | none=>none
 | some x=>some (evT e x)
def mpG:MT->List UInt8->Int
 | [],_=>0
 | p::r,s=>cond (seq s p.1) p.2 (mpG r s)
def mpP:MT->List UInt8->Int->MT
 | [],s,v=>[(s,v)]
 | p::r,s,v=>cond (seq s p.1) ((s,v)::r) (p::mpP r s v)
def mcV {α:Type} (d:α):List (List UInt8×α)->List UInt8->α
 | [],_=>d
 | p::r,s=>cond (seq s p.1) p.2 (mcV d r s)
def mcH {α:Type}:List (List UInt8×α)->List UInt8->Bool
 | [],_=>false
 | p::r,s=>cond (seq s p.1) true (mcH r s)
def mcP {α:Type}:List (List UInt8×α)->List UInt8->α->List (List UInt8×α)
 | [],s,v=>[(s,v)]
 | p::r,s,v=>cond (seq s p.1) ((s,v)::r) (p::mcP r s v)
def zIl (st:St U) (t:TypeId) (x i:T U) (c:Bool) (k:T U->Option R):Option R:=
 match x with
 | .hd l=>(match i with
  | .str s=>(match lko st.ob l with
   | some o=>(match o with
    | .mp m=>bif (Tb t).mpi && (Tb t).has && !c then k (.int .i64 (mpG m s)) else none
    | .mc j es=>(match (Tb t).mci with
     | some i=>bif decide (i=j) && (Tb t).has then (bif c then fe (C.enc j (mcV (C.dflt j) es s)) fun x=>k (.tup [x,.bool (mcH es s)]) else fe (C.enc j (mcV (C.dflt j) es s)) k) else none
     | none=>none)
    | .sc _=>none | .lv _=>none | .l1 _=>none)
   | none=>none)
  | _=>none)
 | _=>none
def zPH (st:St U) (t:TypeId) (x i y:T U) (k:St U->Option R):Option R:=
 match x with
 | .hd l=>(match i with
  | .str s=>(match lko st.ob l with
   | some o=>(match o with
    | .mp m=>(match y with
     | .int kk z=>bif (Tb t).mpi && (Tb t).has && decide (kk = .i64) then k ⟨st.bx,st.tg,st.nl,st.nx,(l,some (.mp (mpP m s z)))::st.ob⟩ else none
     | _=>none)
    | .mc j es=>(match (Tb t).mci with
     | some i=>bif decide (i=j) && (Tb t).has then C.dec j y fun v=>k ⟨st.bx,st.tg,st.nl,st.nx,(l,some (.mc j (mcP es s v)))::st.ob⟩ else none
     | none=>none)
    | .sc _=>none | .lv _=>none | .l1 _=>none)
   | none=>none)
  | _=>none)
 | _=>none
def dop (call:Call U R) (wr own:Nat->Bool) (kd:KD) (e:En U) (st:St U) (o:Oper) (k:T U->St U->Option R):Option R:=
 match o.op with
 | .move x=>k (evT e x) st
 | .assign x=>k (evT e x) st
 | .pick c a b=>zPT (evT e c) (evT e a) (evT e b) fun v=>k v st
 | .binOp op t x y _=>dBin Tb op t (zGB y) (evT e x) (evT e y) fun v=>k v st
 | .convert f t x=>zOf C Tb f t (evT e x) fun v=>k v st
 | .unOp op _ x=>dUn op (evT e x) fun v=>k v st
 | .extract x i=>zHK (evT e x) i fun v=>k v st
 | .fieldAddr t x f=>zEW Tb t (evT e x) f fun v=>k v st
 | .indexAddr t x i=>zEY C Tb st t (evT e x) (evT e i) fun v=>k v st
 | .index t x i=>zK3 C Tb t (evT e x) (evT e i) fun v=>k v st
 | .load t x=>bif ldD kd x e then zKY C Tb st t (evT e x) fun v=>k v st else none
 | .store t x y=>bif stD kd x e st then zLB C Tb st t (evT e x) (evT e y) fun st'=>k .any st' else none
 | .alloc t=>zQT Tb st t k
 | .box _ x=>feL (evT e x).flat fun cs=>dNew st cs k
 | .build t parts=>feP (evP e parts.toList) fun ps=>zLR Tb t ps fun v=>k v st
 | .buildSlice t n parts=>feP (evP e parts.toList) fun ps=>zDW C Tb wr own o.dst st t n ps k
 | .nilCheck x=>zFR (evT e x) fun v=>k v st
 | .slice t x lo hi mx=>(match mx with | none=>zLA C Tb st t (evT e x) (evO e lo) (evO e hi) fun v=>k v st | some _=>none)
 | .call c=>(match c.callee with
  | .value f=>feA (evL e c.args.toList) fun as=>dCall call (ksD kd o.dst) (evT e f) as st k
  | .builtin b=>feA (evL e c.args.toList) fun as=>zL9 Tb wr o.dst b c.argTypes.toList as st k
  | .invoke _ _=>none)
 | .lookup t x i c=>zIl C Tb st t (evT e x) (evT e i) c fun v=>k v st
 | .mapUpdate t x i y=>zPH C Tb st t (evT e x) (evT e i) (evT e y) fun st'=>k .any st'
 | .makeMap t n=>(match n with | none=>(match (Tb t).mci with | none=>k (.hd st.nl) ⟨st.bx,st.tg,st.nl+1,st.nx,(st.nl,some (.mp []))::st.ob⟩ | some i=>k (.hd st.nl) ⟨st.bx,st.tg,st.nl+1,st.nx,(st.nl,some (.mc i []))::st.ob⟩) | some _=>none)
 | _=>none
def zHg (call:Call U R) (wr own:Nat->Bool) (kd:KD) (e:En U) (st:St U) (o:Oper) (k:En U->St U->Option R):Option R:=
 dop C Tb call wr own kd e st o fun v st'=>feS st' fun st'=>fe v fun v=>bif bdd st'.nl st'.nx v then zIN e o.dst v fun e'=>k e' st' else none
def zPW (call:Call U R) (wr own:Nat->Bool) (kd:KD) (ds:List (Option Nat)) (o:Oper) (e:En U) (st:St U) (k:En U->St U->Option R):Option R:=
 match o.guard with
 | none=>zHg C Tb call wr own kd e st o k
 | some g=>
  match ds.getD g.1 none with
  | none=>none
  | some d=>(match eget e d with
   | .bool t=>bif g.2 then (bif t then zHg C Tb call wr own kd ((d,.bool true)::e) st o k else zIN ((d,.bool false)::e) o.dst (.tup []) fun e'=>k e' st)
    else (bif t then zIN ((d,.bool true)::e) o.dst (.tup []) fun e'=>k e' st else zHg C Tb call wr own kd ((d,.bool false)::e) st o k)
   | .tup vs=>(match vs with | []=>zIN e o.dst (.tup []) fun e'=>k e' st | _::_=>none)
   | _=>none)
def dops (call:Call U R) (wr own:Nat->Bool) (kd:KD) (ds:List (Option Nat)):List Oper->En U->St U->(En U->St U->Option R)->Option R
 | [],e,st,k=>k e st
 | o::os,e,st,k=>zPW C Tb call wr own kd ds o e st fun e' st'=>dops call wr own kd ds os e' st' k
end ops
end
open Go.Al
def VR {U:TyU} (C:Cod U) (N:NM) (x:T U) (v:V):Prop:=x = .any\/v=trT C N x
def TbOk {U:TyU} (C:Cod U) (P:Program) (Tb:TypeId->TD U):Prop:=∀ t,(Tb t).has=true->Facts C P t (Tb t)
section
variable {U:TyU} {C:Cod U} {P:Program} {Tb:TypeId->TD U} {R:Type} {r:R} {N:NM} {K:V->Prop} {k:T U->Option R}
theorem zJ {c:Bool} {x:Option R} (h:(bif c then x else none)=some r):c=true/\x=some r:=by cases c <;> simp_all
theorem VR.get {x:T U} {v:V} (h:VR C N x v) (hx:x≠.any):v=trT C N x:=h.resolve_left hx
theorem VR.mk (x:T U):VR C N x (trT C N x):=.inr rfl
theorem zEo (b:ByteArray):∀ (n i:Nat) (acc:List UInt8),b.size - i=n->ByteArray.toList.loop b i acc=acc.reverse++b.data.toList.drop i:=by
 have hs:b.size=b.data.toList.length:=by rw [Array.length_toList]; rfl
 intro n
 induction n with
 | zero=>
  intro i acc hn;unfold ByteArray.toList.loop;rw [if_neg (by omega),List.drop_of_length_le (by omega),List.append_nil]
 | succ n ih=>
  intro i acc hn;unfold ByteArray.toList.loop;have hi:i < b.data.toList.length:=by omega
  rw [if_pos (by omega),ih _ _ (by omega),List.drop_eq_getElem_cons hi];have e:b.get! i=b.data.toList[i]:=by
   show b.data[i]! = _;have hi':i < b.data.size:=by rw [<- Array.length_toList]; exact hi
   rw [getElem!_pos b.data i hi',Array.getElem_toList]
  rw [e,List.reverse_cons,List.append_assoc]; rfl
theorem y8 (s:List UInt8):(⟨s.toArray⟩:ByteArray).toList=s:=by
 have:=zEo ⟨s.toArray⟩ _ 0 [] rfl;rw [List.drop_zero,List.reverse_nil,List.nil_append] at this;exact this
theorem zRv {c a b:T U} {cv av bv:V} (hc:VR C N c cv) (ha:VR C N a av) (hb:VR C N b bv) (h:zPT c a b k=some r)
 (hK:∀ v v',k v=some r->VR C N v v'->K v'):zBk cv av bv K:=by
 unfold zPT at h;split at h
 . rename_i t;rw [hc.get (by simp)];cases t with
   | true=>exact hK _ _ h ha
   | false=>exact hK _ _ h hb
 . cases h
theorem zTd {op:BinOp} {kk:IntKind} {a b:Int} (h:dInt op kk a b k=some r) (hK:∀ v,k v=some r->K (trT C N v)):aInt op kk a b K:=by
 cases op <;> simp only [dInt] at h <;> first | exact hK _ h | cases h | skip
 case quo=>
  obtain ⟨h1,h2⟩:=zJ h;exact ⟨by simpa [ine] using h1,hK _ h2⟩
 case rem=>
  obtain ⟨h1,h2⟩:=zJ h;exact ⟨by simpa [ine] using h1,hK _ h2⟩
 case shl=>
  obtain ⟨h1,h2⟩:=zJ h;exact ⟨by simpa [ile] using h1,hK _ h2⟩
 case shr=>
  obtain ⟨h1,h2⟩:=zJ h;exact ⟨by simpa [ile] using h1,hK _ h2⟩
theorem zTH {op:BinOp} {a b:List UInt8} (h:dStr op a b k=some r) (hK:∀ v,k v=some r->K (trT C N v)):aStr op ⟨a.toArray⟩ ⟨b.toArray⟩ K:=by
 cases op <;> simp only [dStr] at h <;> first | cases h | skip
 case add=>
  obtain ⟨h1,h2⟩:=zJ h;have h1:=okS_le h1;refine ⟨by simpa [ByteArray.size] using h1,?_⟩;have:=hK _ h2;simp only [trT] at this;have e:(⟨a.toArray⟩:ByteArray)++⟨b.toArray⟩=⟨(a++b).toArray⟩:=by
   apply ByteArray.ext;simp
  rw [e]; exact this
 case eql=>
  have:=hK _ h;simp only [aStr,y8];exact this
 case neq=>
  have:=hK _ h;simp only [aStr,y8];exact this
theorem zTE {op:BinOp} {a b:Bool} (h:zPS op a b k=some r) (hK:∀ v,k v=some r->K (trT C N v)):j9 op a b K:=by
 cases op <;> simp only [zPS] at h <;> first | cases h | exact hK _ h
theorem zU1 (m:TM) {i:U.I} (xs:List (U.den i)):nilB (trM N (C.cells i) (xs.map (C.encV i)) m) (xs.map (C.encV i))=nilT m xs:=by
 cases m with
 | b n=>cases n <;> rfl
 | dl=>cases xs <;> rfl
 | ow t nb=>cases xs <;> rfl
theorem zDs {op:BinOp} {b:Bool} (h:dNil op b k=some r) (hK:∀ v,k v=some r->K (trT C N v)):j9 op b true K:=by
 cases op <;> simp only [dNil] at h <;> first | cases h | skip
 . have:=hK _ h;simp only [j9,beq_true];exact this
 . have:=hK _ h;simp only [j9,beq_true];exact this
theorem zBg {v:Value} (h:zD6 v=true):v = .nilIface:=by
 unfold zD6 at h;split at h
 . rfl
 . cases h
theorem zGY:∀ {l:List KQ} {fs gs:List (T U)},kqT l fs gs=true->∃ us vs:List Value,fs.map (trT C N)=us.map V.at/\gs.map (trT C N)=vs.map V.at/\vkq l us vs=true/\eqVs us vs=dEqs fs gs
 | [],fs,gs,hq=>by
  cases fs with
  | cons x xs=>cases hq
  | nil=>
   cases gs with
   | cons y ys=>cases hq
   | nil=>exact ⟨[],[],rfl,rfl,rfl,rfl⟩
 | q::rq,fs,gs,hq=>by
  cases fs with
  | nil=>cases hq
  | cons x xs=>
  cases gs with
  | nil=>cases hq
  | cons y ys=>
   cases q with
   | i=>
    cases x <;> try (cases hq; done)
    case int ka a=>
    cases y <;> try (cases hq; done)
    case int kb b=>
     simp only [kqT,Bool.and_eq_true,decide_eq_true_eq] at hq;obtain ⟨rfl,hq⟩:=hq;obtain ⟨us,vs,q1,q2,q3,q4⟩:=zGY (l:=rq) hq;refine ⟨.int ka a::us,.int ka b::vs,by simp only [List.map_cons,q1,trT],by simp only [List.map_cons,q2,trT],by simp only [vkq,decide_true,Bool.true_and]; exact q3,?_⟩;simp only [eqVs,eqAt,dEqs,q4];unfold ieq;by_cases h:a=b <;> simp [h]
   | b=>
    cases x <;> try (cases hq; done)
    case bool a=>
    cases y <;> try (cases hq; done)
    case bool b=>
     obtain ⟨us,vs,q1,q2,q3,q4⟩:=zGY (l:=rq) (show kqT rq xs ys=true from hq);refine ⟨.bool a::us,.bool b::vs,by simp only [List.map_cons,q1,trT],by simp only [List.map_cons,q2,trT],q3,?_⟩;simp only [eqVs,eqAt,dEqs,q4];cases a <;> cases b <;> rfl
   | s=>
    cases x <;> try (cases hq; done)
    case str a=>
    cases y <;> try (cases hq; done)
    case str b=>
     obtain ⟨us,vs,q1,q2,q3,q4⟩:=zGY (l:=rq) (show kqT rq xs ys=true from hq);refine ⟨.string ⟨a.toArray⟩::us,.string ⟨b.toArray⟩::vs,by simp only [List.map_cons,q1,trT],by simp only [List.map_cons,q2,trT],q3,?_⟩;simp only [eqVs,eqAt,dEqs,q4,y8];unfold seq;by_cases h:a=b <;> simp [h]
theorem zTW (hT:TbOk C P Tb) {op:BinOp} {t:TypeId} {c:Bool} {x y:T U} {xv yv:V} (hx:VR C N x xv) (hy:VR C N y yv) (h:dBin Tb op t c x y k=some r)
 (hK:∀ v,k v=some r->K (trT C N v)):zBj P op t c xv yv K:=by
 unfold dBin at h;split at h
 . split at h
   . obtain ⟨h1,h2⟩:=zJ h;rw [hx.get (by simp),hy.get (by simp)];rw [Bool.or_eq_true,decide_eq_true_eq] at h1;refine ⟨?_,zTd h2 hK⟩;rcases h1 with h1 | h1
     . exact .inl h1
     . cases op <;> first | exact .inr (.inl rfl) | exact .inr (.inr rfl) | cases h1
   . cases h
 . split at h
   . obtain ⟨h1,h2⟩:=zJ h;rw [hx.get (by simp),hy.get (by simp)];simp only [Bool.and_eq_true] at h1;exact ⟨(hT t h1.2).isBool.trans h1.1,zTE h2 hK⟩
   . cases h
 . split at h
   . rw [hx.get (by simp),hy.get (by simp)];exact zTH h hK
   . cases h
 . split at h
   . obtain ⟨h1,h2⟩:=zJ h;rw [hx.get (by simp),hy.get (by simp)];simp only [Bool.and_eq_true] at h1;refine ⟨by rw [(hT t h1.2).el]; exact h1.1,?_⟩;rw [zU1];exact zDs h2 hK
   . cases h
 . split at h
   . obtain ⟨h1,h2⟩:=zJ h;rw [hx.get (by simp),hy.get (by simp)];simp only [Bool.and_eq_true] at h1;exact ⟨by rw [(hT t h1.2).el]; exact h1.1,zDs h2 hK⟩
   . cases h
 . split at h
   . rename_i v;obtain ⟨h1,h2⟩:=zJ h;rw [hx.get (by simp),hy.get (by simp)];simp only [Bool.and_eq_true] at h1;have e1:=zBg h1.1.1;subst e1;exact ⟨(hT t h1.2).isIfc.trans h1.1.2,zDs h2 hK⟩
   . cases h
 . split at h
   . rename_i u v;obtain ⟨h1,h2⟩:=zJ h;rw [hx.get (by simp),hy.get (by simp)];simp only [Bool.and_eq_true] at h1;have e1:=zBg h1.1.1.1.1;have e2:=zBg h1.1.1.1.2;subst e1; subst e2;exact ⟨(hT t h1.1.2).isIfc.trans h1.1.1.2,h1.2,zDs h2 hK⟩
   . cases h
 . split at h
   . split at h
     . rename_i l hl;obtain ⟨h1,h2⟩:=zJ h;simp only [Bool.and_eq_true] at h1;obtain ⟨us,vs,q1,q2,q3,q4⟩:=zGY (C:=C) (N:=N) h1.2;rw [hx.get (by simp),hy.get (by simp)];simp only [trT,yX,q1,q2];obtain ⟨q5,q6⟩:=(hT t h1.1).eqs l hl us vs q3;exact ⟨us,vs,rfl,rfl,⟨q5,zEO q3⟩,by rw [q6,q4]; exact zDs h2 hK⟩
     . cases h
   . cases h
 . cases h
theorem zHu (hC:CodOk C) {i:U.I} {g:U.den i->Int} (hg:C.u8 i=some g):∀ xs:List (U.den i),zAN (xs.map (C.encV i))=some (xs.map g)
 | []=>rfl
 | x::r=>by simp only [List.map_cons,hC.byt i g hg x,zAN,zHu hC hg r,Option.map_some]
theorem zMz (ns:List Int):∀ b:ByteArray,ns.foldl (fun r n=>r.push (UInt8.ofNat n.toNat)) b=⟨b.data++(ns.map fun n=>UInt8.ofNat n.toNat).toArray⟩:=by
 induction ns with
 | nil=>intro b; simp
 | cons n r ih=>intro b; rw [List.foldl_cons,ih]; simp [ByteArray.push]
theorem zPn {α:Type} (g:α->Int) (xs:List α):zLy (xs.map g)=⟨(zOb g xs).toArray⟩:=by
 unfold zLy;rw [zMz];simp [zOb,List.map_map,Function.comp_def]
theorem zRx (hT:TbOk C P Tb) (hC:CodOk C) {f t:TypeId} {x:T U} {xv:V} (hx:VR C N x xv) (h:zOf C Tb f t x k=some r) (hK:∀ v,k v=some r->K (trT C N v)):zEg P f t xv K:=by
 unfold zOf at h;split at h
 . split at h
   . rename_i kk hk;obtain ⟨h1,h2⟩:=zJ h;simp only [Bool.and_eq_true] at h1;rw [hx.get (by simp)];unfold zEg;simp only [trT];rw [(hT t h1.1).ik,hk];exact ⟨(hT f h1.2).has,hK _ h2⟩
   . cases h
 . obtain ⟨h1,h2⟩:=zJ h;simp only [Bool.and_eq_true] at h1;rw [hx.get (by simp)];exact ⟨(hT f h1.1.1.2).isStr.trans h1.2,(hT t h1.1.1.1).isStr.trans h1.1.2,hK _ h2⟩
 . obtain ⟨h1,h2⟩:=zJ h;simp only [Bool.and_eq_true] at h1;split at h2
   . rename_i g hg;rw [hx.get (by simp)];refine ⟨?_,(hT t h1.1.1.1).isStr.trans h1.1.2,?_⟩
     . rcases (hT f h1.1.1.2).isByt with h3 | h3
       . exact h3.trans h1.2
       . rw [h3] at h1; exact absurd h1.2 (by simp)
     . rw [zHu hC hg];simp only;rw [zPn];exact hK _ h2
   . cases h2
 . cases h
theorem dUn_ok {op:UnOp} {x:T U} {xv:V} (hx:VR C N x xv) (h:dUn op x k=some r) (hK:∀ v,k v=some r->K (trT C N v)):aUn op xv K:=by
 unfold dUn at h;split at h
 . rw [hx.get (by simp)];cases op <;> simp only at h <;> first | cases h | exact hK _ h
 . rw [hx.get (by simp)];cases op <;> simp only at h <;> first | cases h | exact hK _ h
 . cases h
theorem zMp {x:T U} {xv:V} {i:Nat} (hx:VR C N x xv) (h:zHK x i k=some r) (hK:∀ v,k v=some r->K (trT C N v)):kO xv i K:=by
 unfold zHK at h;split at h
 . rename_i vs;obtain ⟨h1,h2⟩:=zJ h;have h1:=yT h1;rw [hx.get (by simp)];have e:(trTs C N vs).getD i .any=trT C N (vs.getD i .any):=by
    rw [yX]; simp [h1]
   refine ⟨by rw [yX]; simpa using h1,?_⟩;rw [e];exact hK _ h2
 . cases h
theorem zGx {fs:List (T U)} {off:Nat} {t:TypeId} {d:TD U} (hd:d.has=true->Facts C P t d) (h:zGJ fs off d k=some r) (hK:∀ v,k v=some r->K (trT C N v)) :
 yD P t (fs.map (trT C N)) off/\K (yC P t (fs.map (trT C N)) off):=by
 unfold zGJ at h;obtain ⟨h1,h2⟩:=zJ h;simp only [Bool.and_eq_true,Bool.or_eq_true,Nat.ble_eq,Nat.beq_eq] at h1;obtain ⟨⟨h3,h4⟩,h5⟩:=h1;have hf:=hd h3;refine ⟨⟨hf.has,by rw [hf.cells]; simpa using h4,fun ha=>by rw [hf.agg] at ha; rw [hf.cells]; simpa [ha] using h5⟩,?_⟩;unfold yC;rw [hf.agg,hf.cells];cases ha:d.agg with
 | true=>
  rw [ha] at h2;simp only [cond_true,zAy] at h2;have:=hK _ h2;simp only [trT,yX,List.map_take,List.map_drop] at this;simpa using this
 | false=>
  rw [ha] at h2;simp only [cond_false] at h2;have:=hK _ h2;have h6:d.cells=1:=by simpa [ha] using h5
  have h7:off < fs.length:=by omega
  have e:(fs.map (trT C N)).getD off .any=trT C N (fs.getD off .any):=by simp [h7]
  simp only [Bool.false_eq_true,if_false];rw [e]; exact this
theorem zKN (hT:TbOk C P Tb) {t:TypeId} {x:T U} {xv:V} {f:Nat} (hx:VR C N x xv) (h:zEW Tb t x f k=some r) (hK:∀ v,k v=some r->K (trT C N v)):yP P t xv f K:=by
 unfold zEW at h;split at h
 . cases h
 . rename_i p hp;obtain ⟨h1,h2⟩:=zJ h;simp only [Bool.and_eq_true] at h1;obtain ⟨⟨h3,h4⟩,h5⟩:=h1;have h6:0 < P.cellsOf p.2:=by rw [(hT _ h4).cells]; exact yT h5
   have hfl:fieldAt P t f=some (p.1,p.2):=by rw [zHY,(hT t h3).flds,hp]
   split at h2
   . split at h2
     . obtain ⟨h7,h8⟩:=zJ h2;rw [hx.get (by simp)];simp only [trT,yX,yP,hfl];have:=zGx (C:=C) (P:=P) (t:=p.2) (N:=N) (K:=fun v=>K (.rptr v)) (fun hh=>hT _ hh) h8 (fun v hv=>hK _ hv);exact ⟨(yq C N _).2 h7,this.1,h6,this.2⟩
     . cases h2
   . rw [hx.get (by simp)];simp only [trT,yP,hfl];exact ⟨(hT _ h4).has,h6,hK _ h2⟩
   . rw [hx.get (by simp)];simp only [trT,yP,hfl];have:=hK _ h2;simp only [trT,<- Nat.add_assoc] at this;exact ⟨(hT _ h4).has,h6,this⟩
   . cases h2
theorem zAq (hT:TbOk C P Tb) {t:TypeId} {kk:U.I->TypeId->TD U->Option R} (h:zB6 Tb t kk=some r) :
 ∃ i el,kk i el (Tb el)=some r/\elT P t=some el/\Facts C P el (Tb el)/\C.cells i=P.cellsOf el/\C.agg i=yx P el:=by
 unfold zB6 at h;split at h
 . cases h
 . rename_i el hel;obtain ⟨h1,h2⟩:=zJ h;simp only [Bool.and_eq_true] at h1;split at h2
   . rename_i i hi;have hf:=hT el h1.2;exact ⟨i,el,h2,by rw [(hT t h1.1).el,hel],hf,by rw [hf.cells]; exact (hf.code i hi).1,by rw [hf.agg]; exact (hf.code i hi).2⟩
   . cases h2
theorem zEv {n:Int} {len:Nat} (h:inB n len=true):0<=n/\n < (len:Int):=by
 simpa [inB] using h
theorem zEM {l h:Int} {len:Nat} (hh:inS l h len=true):0<=l/\l<=h/\h<=(len:Int):=by
 simpa [inS,and_assoc] using hh
theorem zN9 {i:U.I} (xs:List (U.den i)) (n:Nat) (h:n < xs.length) (d:U.den i):(xs.map (C.encV i)).getD n .any=C.encV i (xs.getD n d):=by
 simp [h]
theorem zHJ (hC:CodOk C) {i:U.I} (hp:C.plain i=true) {r:R}:∀ {l:List (T U)} {k:List (U.den i)->Option R},zKT C i l k=some r->∃ xs,k xs=some r/\∀ N,l.map (trT C N)=xs.map (C.encV i)
 | [],k,h=>⟨[],h,fun _=>rfl⟩
 | x::l,k,h=>by
  obtain ⟨y,h1,h2⟩:=hC.decP i x _ r hp h;obtain ⟨ys,h3,h4⟩:=zHJ hC hp h1;exact ⟨y::ys,h3,fun N=>by simp only [List.map_cons,h2 N,h4 N]⟩
theorem zRd (hT:TbOk C P Tb) (hC:CodOk C) {t:TypeId} {x n:T U} {xv nv:V} (hx:VR C N x xv) (hn:VR C N n nv) (h:zK3 C Tb t x n k=some r) (hK:∀ v,k v=some r->K (trT C N v)):kn P t xv nv K:=by
 unfold zK3 at h;split at h
 . split at h
   . rename_i s _ _ n';obtain ⟨h1,h2⟩:=zJ h;simp only [Bool.and_eq_true] at h1;rw [hx.get (by simp),hn.get (by simp)];have hb:=zEv h1.2;refine ⟨(hT t h1.1.1).isStr.trans h1.1.2,by simpa [ByteArray.size] using hb,?_⟩;have:=hK _ h2;simpa [trT,zFE] using this
   . cases h
 . split at h
   . rename_i fs _ _ n';split at h
     . rename_i m i hr;obtain ⟨h1,h2⟩:=zJ h;simp only [Bool.and_eq_true,Nat.beq_eq,Bool.not_eq_true'] at h1;obtain ⟨⟨⟨⟨⟨h3,h4⟩,h5⟩,h6⟩,h7⟩,h8⟩:=h1;obtain ⟨xs,h9,h10⟩:=zHJ hC h4 h2;rw [hx.get (by simp),hn.get (by simp)];have hb:=zEv h8;have hlen:fs.length=xs.length:=by have:=congrArg List.length (h10 N); simpa using this
       have hnx:n'.toNat < xs.length:=by omega
       simp only [trT,kn,yX];refine ⟨by rw [List.length_map,<- h7]; exact (hT t h3).arr m i hr,(yq C N fs).2 h6,by rw [List.length_map]; exact hb,?_⟩;have:=hK _ h9;rw [hC.enc] at this;rw [h10 N,zN9 xs _ hnx (C.dflt i)];exact this
     . cases h
   . cases h
 . cases h
theorem zS9 {t:TypeId} {d:TD U} (hd:d.has=true->Facts C P t d) {y:T U} (h:zO5 d y=true):fits P t (trT C N y):=by
 have key:d.has=true->(trT C N y).size=d.cells->(trT C N y).isAgg=d.agg->fits P t (trT C N y):=fun h1 h2 h3=>
  ⟨(hd h1).has,by rw [h2,(hd h1).cells],by rw [h3,(hd h1).agg]⟩
 have other:(∀ fs,y≠.agg fs)->(d.has && !d.agg && y.isOne && Nat.beq d.cells 1)=true->fits P t (trT C N y):=fun hne h=>by
  simp only [Bool.and_eq_true,Nat.beq_eq,Bool.not_eq_true'] at h;obtain ⟨⟨⟨h1,h2⟩,h3⟩,h4⟩:=h;refine key h1 ?_ ?_
  . rw [zCu (by rw [zEq]; exact h3)];exact h4.symm
  . rw [zMe,h2];cases y <;> first | rfl | exact absurd rfl (hne _)
 unfold zO5 at h;split at h
 . rename_i fs;simp only [Bool.and_eq_true,Nat.beq_eq] at h;obtain ⟨⟨⟨h1,h2⟩,h3⟩,h4⟩:=h;refine key h1 ?_ ?_
   . simp only [trT,V.size,yX];rw [yK ((yq C N fs).2 h3)];simpa using h4
   . rw [zMe,h2]
 . rename_i x hne;exact other hne h
theorem zUb (hT:TbOk C P Tb) {t:TypeId} {x:T U} {xv:V} (hx:VR C N x xv) (h:dLen Tb t x k=some r) (hK:∀ v,k v=some r->K (trT C N v)):aLen P t xv K:=by
 unfold dLen at h;split at h
 all_goals first | cases h | skip
 all_goals
  obtain ⟨h1,h2⟩:=zJ h;simp only [Bool.and_eq_true] at h1;have hf:=hT t h1.1;rw [hx.get (by simp)];have:=hK _ h2
 . exact ⟨by rw [hf.el]; exact h1.2,by simpa [trT,lenI] using this⟩
 . exact ⟨by rw [hf.el]; exact h1.2,by simpa [trT] using this⟩
 . exact ⟨by rw [hf.el]; exact h1.2,by simpa [trT] using this⟩
 . exact ⟨hf.isStr.trans h1.2,by simpa [trT,lenI,ByteArray.size] using this⟩
theorem zL2 {x:T U} {xv:V} (hx:VR C N x xv) (h:zFR x k=some r) (hK:∀ v,k v=some r->K (trT C N v)):xF xv K:=by
 unfold zFR at h;split at h
 . rw [hx.get (by simp)]; exact hK _ h
 . rw [hx.get (by simp)]; exact hK _ h
 . rw [hx.get (by simp)]; exact hK _ h
 . cases h
theorem zJQ (N:NM) (cs:List (T U)) (o:Nat) (xs:List (T U)):(splT cs o xs).map (trT C N)=spl (cs.map (trT C N)) o (xs.map (trT C N)):=by
 simp [splT,spl,List.map_take,List.map_drop]
theorem zFL (hT:TbOk C P Tb) {pl:Nat->Option (Nat×Nat)} {flds:List (Nat×TypeId)} (hf:∀ j p,flds[j]? = some p->hasT P p.2=true->pl j=some (p.1,P.cellsOf p.2)) {k:List (T U)->Option R} :
 ∀ (parts:List (Nat×T U)) (vs:List (Nat×V)) (cells:List (T U)),zGW Tb flds cells parts k=some r->vs.map (·.1)=parts.map (·.1) ->
  (∀ (j:Nat) (x:Nat×T U) (v:Nat×V),parts[j]? = some x->vs[j]? = some v->VR C N x.2 v.2)->∃ l,zA5 pl (cells.map (trT C N)) vs=some (l.map (trT C N))/\k l=some r
 | [],vs,cells,h,he,_=>by
  cases vs with
  | nil=>exact ⟨cells,rfl,h⟩
  | cons _ _=>simp at he
 | (i,x)::rest,vs,cells,h,he,hv=>by
  cases vs with
  | nil=>simp at he
  | cons v vs=>
   obtain ⟨j,v⟩:=v;simp only [List.map_cons,List.cons.injEq] at he;obtain ⟨rfl,he⟩:=he;simp only [zGW] at h;split at h
   . cases h
   . rename_i p hp;obtain ⟨h1,h2⟩:=zJ h;simp only [Bool.and_eq_true,Nat.beq_eq,Nat.ble_eq] at h1;obtain ⟨⟨⟨h3,h4⟩,h5⟩,h6⟩:=h1;rw [zAy] at h2;have hx:x≠.any:=fun e=>by subst e; simp [T.flat,yG,T.isOne] at h6
     have hxv:v=trT C N x:=(hv 0 (j,x) (j,v) rfl rfl).get hx;subst hxv;obtain ⟨l,h7,h8⟩:=zFL hT hf rest vs _ h2 he (fun j x v a b=>hv (j+1) x v (by simpa using a) (by simpa using b));refine ⟨l,?_,h8⟩;have hpl:pl j=some (p.1,P.cellsOf p.2):=hf j p hp (hT _ h3).has;unfold zA5;simp only [hpl];rw [xu];simp only [List.length_map];rw [if_pos ⟨by rw [(hT _ h3).cells]; simpa using h4,by rw [(hT _ h3).cells]; simpa using h5,(yq C N _).2 h6⟩];rw [zJQ] at h7;exact h7
theorem zR6 (hT:TbOk C P Tb) {t:TypeId} {flds:List (Nat×TypeId)} (hf:fieldsOf P t=flds) {k:List (T U)->Option R} (parts:List (Nat×T U)) (vs:List (Nat×V)) (cells:List (T U)) (h:zGW Tb flds cells parts k=some r) (he:vs.map (·.1)=parts.map (·.1))
 (hv:∀ (j:Nat) (x:Nat×T U) (v:Nat×V),parts[j]? = some x->vs[j]? = some v->VR C N x.2 v.2):∃ l,zA5 (zBa P t) (cells.map (trT C N)) vs=some (l.map (trT C N))/\k l=some r:=
 zFL hT (fun j p hp hh=>by unfold zBa; rw [zHY,hf,hp]; simp [hh]) parts vs cells h he hv
theorem zRZ (hT:TbOk C P Tb) {t:TypeId} {parts:List (Nat×T U)} {vs:List (Nat×V)} (he:vs.map (·.1)=parts.map (·.1)) (hv:∀ (j:Nat) (x:Nat×T U) (v:Nat×V),parts[j]? = some x->vs[j]? = some v->VR C N x.2 v.2)
 (h:zLR Tb t parts k=some r) (hK:∀ v,k v=some r->K (trT C N v)):zCc P t vs K:=by
 unfold zLR at h;cases hb:((Tb t).has && (Tb t).isStruct) with
 | false=>
  rw [hb] at h;simp only [cond_false] at h;split at h
  . cases h
  . rename_i p ps hpl;obtain ⟨h1,h2⟩:=zJ h;simp only [Bool.and_eq_true] at h1;have hf:=hT t h1.1;have harr:zEk P t=p::ps:=by
     rcases hf.bpl with h3 | h3
     . rw [h3,hpl]
     . rw [h3] at hpl; cases hpl
    split at h2
    . rename_i cs hcs;obtain ⟨l,h3,h4⟩:=zFL (N:=N) (pl:=zHw P t) hT (fun j q hq hh=>by unfold zHw; rw [harr,hq]; simp [hh]) parts vs cs h2 he hv;refine .inr ⟨by rw [harr]; simp,by rw [harr]; exact (hT _ h1.2).has,?_⟩;rw [hf.zero N,hcs];simp only [Option.map_some];rw [h3];have:=hK _ h4;simpa only [trT,yX] using this
    . cases h2
 | true=>
 left;rw [hb] at h;simp only [cond_true] at h;have h1:=hb;have h2:=h;simp only [Bool.and_eq_true] at h1;have hf:=hT t h1.1;split at h2
 . rename_i cs hcs;obtain ⟨l,h3,h4⟩:=zR6 (N:=N) hT hf.flds parts vs cs h2 he hv;refine ⟨hf.isStruct.trans h1.2,?_⟩;rw [hf.zero N,hcs];simp only [Option.map_some];rw [h3];have:=hK _ h4;simpa only [trT,yX] using this
 . cases h2
theorem zAs {x:Option (T U)} {xv:Option V} (hx:match x,xv with | none,none=>True | some x,some v=>VR C N x v | _,_=>False) {d:Int} {kk:Int->Option R} {K:Int->Prop} (h:zBm x d kk=some r) (hK:∀ n,kk n=some r->K n) :
 jB xv d K:=by
 unfold zBm at h;cases x with
 | none=>cases xv with
  | none=>exact hK _ h
  | some v=>exact hx.elim
 | some x=>cases xv with
  | none=>exact hx.elim
  | some v=>
   simp only at h hx;split at h
   . rw [hx.get (by simp)];exact hK _ h
   . cases h
theorem zUm (m:TM) {i:U.I} (xs ys:List (U.den i)):zGD (trM N (C.cells i) (xs.map (C.encV i)) m) (xs.map (C.encV i))=trM N (C.cells i) (ys.map (C.encV i)) (cutM m xs):=by
 cases m with
 | b n=>cases n <;> rfl
 | dl=>cases xs <;> rfl
 | ow t nb=>cases nb <;> cases xs <;> rfl
end
open Go.Al
section
variable {U:TyU} {C:Cod U} {P:Program} {Tb:TypeId->TD U} {R:Type} {r:R} {N:NM}
def trB (C:Cod U) (N:NM) (l:Nat):Bx U->List V×Nat
 | .st cs=>(cs.map (trT C N),cs.length)
 | .ar i xs=>(zX (xs.map (C.encV i)),N.cp l * C.cells i)
def wfB (C:Cod U) (N:NM) (nl nx l:Nat):Bx U->Prop
 | .st cs=>bdds nl nx cs=true/\yG cs=true
 | .ar i xs=>N.sz l=C.cells i/\xs.length<=N.cp l
def trMC (c:MT):MC:=c.map fun p=>(⟨p.1.toArray⟩,.at (.int .i64 p.2))
def trO (C:Cod U) (N:NM) (l:Nat):TO U->OV
 | .mp c=>.mp (trMC c)
 | .sc xs=>.sc (xs.map trMC) (N.cp l)
 | .lv xs=>.lv (xs.map fun x=>(trMC x.1,trMC x.2))
 | .l1 x=>.l1 (trMC x.1,trMC x.2)
 | .mc i es=>.mp (es.map fun p=>(⟨p.1.toArray⟩,C.encV i p.2))
def wfO (N:NM) (l:Nat):TO U->Prop
 | .mp _=>N.cp l≠0
 | .mc _ _=>N.cp l≠0
 | .sc xs=>N.sz l=xs.length
 | .lv _=>True
 | .l1 _=>True
structure OSim (C:Cod U) (N:NM) (ob:List (Nat×Option (TO U))) (nl:Nat) (sob:List (Nat×OV×List Nat)):Prop where
 look:∀ l o,lko ob l=some o->∃ fp,zN sob (N.bl l)=some (trO C N l o,fp)
 lt:∀ l o,lko ob l=some o->l < nl
 wf:∀ l o,lko ob l=some o->wfO N l o
 inj:∀ l l' o o',lko ob l=some o->lko ob l' = some o'->N.bl l=N.bl l'->l=l'
structure SSim (C:Cod U) (N:NM) (st:St U) (s:S):Prop where
 box:∀ l b,lk st.bx l=some b->Al.look s.box (N.bl l)=some (trB C N l b)
 lt:∀ l b,lk st.bx l=some b->l < st.nl
 wf:∀ l b,lk st.bx l=some b->wfB C N st.nl st.nx l b
 inj:∀ l l' b b',lk st.bx l=some b->lk st.bx l' = some b'->N.bl l=N.bl l'->l=l'
 tgIn:∀ t ∈ st.tg,N.tk t ∈ s.tg
 tgInj:∀ t ∈ st.tg,∀ t' ∈ st.tg,N.tk t=N.tk t'->t=t'
 tgLt:∀ t ∈ st.tg,t < st.nx
 nm:∀ t ∈ st.tg,N.tk t < s.nx
 ob:OSim C N st.ob st.nl s.ob
theorem OSim.ext {nl nl' nx:Nat} {N N':NM} {ob:List (Nat×Option (TO U))} {sob:List (Nat×OV×List Nat)} (h:OSim C N ob nl sob) (he:Ext nl nx N N') (hl:nl<=nl'):OSim C N' ob nl' sob:=by
 have hb:∀ l o,lko ob l=some o->N'.bl l=N.bl l/\N'.cp l=N.cp l/\N'.sz l=N.sz l:=fun l o h1=>⟨he.bl l (h.lt l o h1),he.cp l (h.lt l o h1),he.sz l (h.lt l o h1)⟩;refine ⟨fun l o h1=>?_,fun l o h1=>Nat.lt_of_lt_of_le (h.lt l o h1) hl,fun l o h1=>?_,fun l l' o o' h1 h2 h3=>?_⟩
 . obtain ⟨fp,h2⟩:=h.look l o h1;obtain ⟨e1,e2,_⟩:=hb l o h1;refine ⟨fp,?_⟩;rw [e1,h2];cases o <;> simp only [trO,e2]
 . have:=h.wf l o h1;obtain ⟨_,e2,e3⟩:=hb l _ h1;cases o
   case mc=>simp only [wfO,e2] at this ⊢; exact this
   . simp only [wfO,e2] at this ⊢; exact this
   . simp only [wfO,e3] at this ⊢; exact this
   . trivial
   . trivial
 . rw [(hb l o h1).1,(hb l' o' h2).1] at h3;exact h.inj l l' o o' h1 h2 h3
theorem qf (k:Nat) (b:Option (TO U)) (r:List (Nat×Option (TO U))) (l:Nat):lko ((k,b)::r) l=if k=l then b else lko r l:=by
 by_cases e:k=l
 . have:Nat.beq k l=true:=by simpa using e
   simp [lko,this,e]
 . have:Nat.beq k l=false:=by
    cases e':Nat.beq k l with
    | false=>rfl
    | true=>exact absurd (Nat.eq_of_beq_eq_true e') e
   simp [lko,this,e]
def ESim (C:Cod U) (N:NM) (st:St U) (e:En U) (E:Env):Prop:=∀ k,VR C N (eget e k) (E.get k)/\bdd st.nl st.nx (eget e k)=true
structure Turn (N:NM) (st:St U) (N':NM) (st':St U):Prop where
 ext:Ext st.nl st.nx N N'
 nl:st.nl<=st'.nl
 nx:st.nx<=st'.nx
theorem Turn.refl (N:NM) (st:St U):Turn N st N st:=⟨.refl _ _ _,Nat.le_refl _,Nat.le_refl _⟩
theorem Turn.trans {N N1 N2:NM} {st st1 st2:St U} (h:Turn N st N1 st1) (h':Turn N1 st1 N2 st2):Turn N st N2 st2:=
 ⟨h.ext.trans h'.ext h.nl h.nx,Nat.le_trans h.nl h'.nl,Nat.le_trans h.nx h'.nx⟩
theorem ESim.turn {N N':NM} {st st':St U} {e:En U} {E:Env} (h:ESim C N st e E) (t:Turn N st N' st'):ESim C N' st' e E:=fun k=>by
 obtain ⟨h1,h2⟩:=h k;exact ⟨h1.imp id fun h=>by rw [h,zCi C t.ext _ h2],zBd t.nl t.nx _ h2⟩
theorem ym {a b:Nat} (h:a≠b):Nat.beq a b=false:=by
 cases e:Nat.beq a b with
 | false=>rfl
 | true=>exact absurd (Nat.eq_of_beq_eq_true e) h
theorem ESim.put {st:St U} {e:En U} {E:Env} (h:ESim C N st e E) {v:T U} {v':V} (hv:VR C N v v') (hb:bdd st.nl st.nx v=true) (d:Option Nat):ESim C N st (eput e d v) (E.putO d v'):=fun k=>by
 cases d with
 | none=>exact h k
 | some t=>
  simp only [eput,eget,Env.putO,Env.get_put];by_cases hk:t=k
  . subst hk;simpa using ⟨hv,hb⟩
  . have:Nat.beq t k=false:=ym hk;simpa [this,hk] using h k
theorem ESim.ev {st:St U} {e:En U} {E:Env} (h:ESim C N st e E) (x:Operand):VR C N (evT e x) (E.ev x):=by
 cases x with
 | tmp t=>exact (h t).1
 | const v=>exact .inr (cT_tr C N v).symm
 | global g=>
  refine .inr ?_;show zIc g=trT C N (gT g);unfold zIc gT;cases zF6 globA g with
  | none=>rfl
  | some us=>
   simp only [trT,yX,List.map_map];congr 2;exact List.map_congr_left fun v _=>(zMg C N v).symm
 | func f=>exact .inr rfl
def Kok (C:Cod U) (N:NM) (st:St U) (K:V->S->Prop) (k:T U->St U->Option R) (r:R):Prop:=
 ∀ N' st' s' v v',k v st' = some r->Turn N st N' st'->SSim C N' st' s'->VR C N' v v'->K v' s'
theorem zC1:∀ {l:List Nat} {t:Nat},hasN l t=true->t ∈ l
 | [],_,h=>by simp [hasN] at h
 | k::r,t,h=>by
  simp only [hasN] at h;by_cases e:k=t
  . subst e; simp
  . have:Nat.beq k t=false:=ym e;simp only [this,cond_false] at h;exact List.mem_cons_of_mem _ (zC1 h)
theorem qu:∀ {l:List Nat} {t x:Nat},x ∈ rmN l t->x ∈ l/\x≠t
 | [],_,_,h=>by simp [rmN] at h
 | k::r,t,x,h=>by
  simp only [rmN] at h;by_cases e:k=t
  . have:Nat.beq k t=true:=by simpa using e
    simp only [this,cond_true] at h;have:=qu h;exact ⟨List.mem_cons_of_mem _ this.1,this.2⟩
  . have hb:Nat.beq k t=false:=ym e;simp only [hb,cond_false,List.mem_cons] at h;rcases h with rfl | h
    . exact ⟨by simp,e⟩
    . have:=qu h;exact ⟨List.mem_cons_of_mem _ this.1,this.2⟩
theorem xS (k:Nat) (b:Option (Bx U)) (r:List (Nat×Option (Bx U))) (l:Nat):lk ((k,b)::r) l=if k=l then b else lk r l:=by
 by_cases e:k=l
 . have:Nat.beq k l=true:=by simpa using e
   simp [lk,this,e]
 . have:Nat.beq k l=false:=ym e;simp [lk,this,e]
def NM.loc (N:NM) (l b c z:Nat):NM:=⟨fun j=>if j=l then b else N.bl j,fun j=>if j=l then c else N.cp j,fun j=>if j=l then z else N.sz j,N.tk⟩
theorem NM.ext_loc (N:NM) (l nx b c z:Nat):Ext l nx N (N.loc l b c z):=
 ⟨fun j hj=>if_neg (by omega),fun j hj=>if_neg (by omega),fun j hj=>if_neg (by omega),fun _ _=>rfl⟩
def NM.tok (N:NM) (t n:Nat):NM:=⟨N.bl,N.cp,N.sz,fun j=>if j=t then n else N.tk j⟩
theorem NM.ext_tok (N:NM) (nl t n:Nat):Ext nl t N (N.tok t n):=⟨fun _ _=>rfl,fun _ _=>rfl,fun _ _=>rfl,fun j hj=>if_neg (by omega)⟩
theorem yn {nl nx:Nat} {N N':NM} (h:Ext nl nx N N') {l:List (T U)} (hb:bdds nl nx l=true):l.map (trT C N')=l.map (trT C N):=by
 rw [<- yX,<- yX,zCr C h l hb]
theorem OSim.new {nl nx b c z:Nat} {N:NM} {ob:List (Nat×Option (TO U))} {sob:List (Nat×OV×List Nat)} (h:OSim C N ob nl sob) {fp:List Nat} {o:TO U} {v:OV} (he:Ext nl nx N (N.loc nl b c z)) (hbn:(N.loc nl b c z).bl nl=b) (hw:wfO (N.loc nl b c z) nl o)
 (hno:zN sob b=none) (hv:v=trO C (N.loc nl b c z) nl o):OSim C (N.loc nl b c z) ((nl,some o)::ob) (nl+1) ((b,v,fp)::sob):=by
 subst hv;have h':=h.ext he (Nat.le_succ _);have hne:∀ l o',lko ob l=some o'->(N.loc nl b c z).bl l≠b:=fun l o' h1 e=>by
  obtain ⟨fp,h2⟩:=h'.look l o' h1;rw [e,hno] at h2; cases h2
 refine ⟨fun l o' h1=>?_,fun l o' h1=>?_,fun l o' h1=>?_,fun l l' o1 o2 h1 h2 h3=>?_⟩
 . rw [qf] at h1;split at h1
   . rename_i e; injection h1 with h1; subst e; subst h1
     rw [hbn,zl,if_pos rfl];exact ⟨fp,rfl⟩
   . rw [zl,if_neg (fun e=>hne l o' h1 e.symm)];exact h'.look l o' h1
 . rw [qf] at h1;split at h1
   . omega
   . exact h'.lt l o' h1
 . rw [qf] at h1;split at h1
   . rename_i e; injection h1 with h1; subst e; subst h1; exact hw
   . exact h'.wf l o' h1
 . rw [qf] at h1 h2;split at h1
   . rename_i e; subst e;split at h2
     . assumption
     . rw [hbn] at h3; exact absurd h3.symm (hne l' o2 h2)
   . split at h2
     . rename_i e; subst e; rw [hbn] at h3; exact absurd h3 (hne l o1 h1)
     . exact h'.inj l l' o1 o2 h1 h2 h3
theorem zCh {st:St U} {s:S} (hs:SSim C N st s) {nl nx:Nat} {N':NM} (h:Ext nl nx N N') (h1:st.nl<=nl) (h2:st.nx<=nx) {l:Nat} {b:Bx U} (hl:lk st.bx l=some b):trB C N' l b=trB C N l b:=by
 have hlt:=hs.lt l b hl;have hw:=hs.wf l b hl;cases b with
 | st cs=>simp only [trB]; rw [yn (h.less h1 h2) hw.1]
 | ar i xs=>simp only [trB]; rw [h.cp l (by omega)]
theorem zCd {nl nx nl' nx':Nat} {N N':NM} (h:Ext nl nx N N') (h1:nl<=nl') (h2:nx<=nx') {l:Nat} (hl:l < nl) {b:Bx U} (hw:wfB C N nl nx l b):wfB C N' nl' nx' l b:=by
 cases b with
 | st cs=>exact ⟨yj h1 h2 _ hw.1,hw.2⟩
 | ar i xs=>exact ⟨(h.sz l hl).trans hw.1,by rw [h.cp l hl]; exact hw.2⟩
theorem SSim.newBox {st:St U} {s:S} (hs:SSim C N st s) {b c z:Nat} {bx:Bx U} (hb:Al.look s.box b=none) (hw:wfB C (N.loc st.nl b c z) (st.nl+1) st.nx st.nl bx) :
 SSim C (N.loc st.nl b c z) ⟨(st.nl,some bx)::st.bx,st.tg,st.nl+1,st.nx,st.ob⟩ ⟨lay s.box b (trB C (N.loc st.nl b c z) st.nl bx),s.tg,s.nx,s.ob⟩:=by
 have hext:=N.ext_loc st.nl st.nx b c z;have hbl:∀ l,l < st.nl->(N.loc st.nl b c z).bl l=N.bl l:=hext.bl;have hbn:(N.loc st.nl b c z).bl st.nl=b:=if_pos rfl;have hne:∀ l b',lk st.bx l=some b'->b≠N.bl l:=fun l b' hl e=>by
  have:=hs.box l b' hl;rw [<- e,hb] at this;cases this
 refine ⟨?_,?_,?_,?_,hs.tgIn,hs.tgInj,hs.tgLt,hs.nm,hs.ob.ext hext (Nat.le_succ _)⟩
 . intro l b' hl;rw [xS] at hl;by_cases e:st.nl=l
   . rw [if_pos e] at hl;injection hl with hl
     subst hl; subst e;show Al.look (lay s.box b _) _=_;rw [hbn,zO,if_pos rfl]
   . rw [if_neg e] at hl;have hlt:=hs.lt l b' hl;show Al.look (lay s.box b _) _=_;rw [hbl l hlt,zO,if_neg (hne l b' hl),hs.box l b' hl,zCh hs hext (Nat.le_refl _) (Nat.le_refl _) hl]
 . intro l b' hl;rw [xS] at hl;by_cases e:st.nl=l
   . show l < st.nl+1; omega
   . rw [if_neg e] at hl;have hlt:=hs.lt l b' hl;show l < st.nl+1; omega
 . intro l b' hl;rw [xS] at hl;by_cases e:st.nl=l
   . rw [if_pos e] at hl;injection hl with hl
     subst hl; subst e;exact hw
   . rw [if_neg e] at hl;exact zCd hext (Nat.le_succ _) (Nat.le_refl _) (hs.lt l b' hl) (hs.wf l b' hl)
 . intro l l' b1 b2 h1 h2 he;rw [xS] at h1 h2;by_cases e:st.nl=l
   . by_cases e':st.nl=l'
     . omega
     . rw [if_neg e'] at h2;subst e;rw [hbn,hbl l' (hs.lt l' b2 h2)] at he;exact absurd he (hne l' b2 h2)
   . rw [if_neg e] at h1;by_cases e':st.nl=l'
     . subst e';rw [hbn,hbl l (hs.lt l b1 h1)] at he;exact absurd he.symm (hne l b1 h1)
     . rw [if_neg e'] at h2;rw [hbl l (hs.lt l b1 h1),hbl l' (hs.lt l' b2 h2)] at he;exact hs.inj l l' b1 b2 h1 h2 he
theorem SSim.drop {st:St U} {s:S} (hs:SSim C N st s) (l0:Nat) {b0:Bx U} (h0:lk st.bx l0=some b0):SSim C N ⟨(l0,none)::st.bx,st.tg,st.nl,st.nx,st.ob⟩ ⟨wipe s.box (N.bl l0),s.tg,s.nx,s.ob⟩:=by
 have key:∀ l b,lk ((l0,none)::st.bx) l=some b->l≠l0/\lk st.bx l=some b:=fun l b hl=>by
  rw [xS] at hl;by_cases e:l0=l
  . rw [if_pos e] at hl; cases hl
  . rw [if_neg e] at hl; exact ⟨fun e'=>e e'.symm,hl⟩
 refine ⟨fun l b hl=>?_,fun l b hl=>hs.lt l b (key l b hl).2,fun l b hl=>hs.wf l b (key l b hl).2,fun l l' b b' h1 h2 he=>hs.inj l l' b b' (key l b h1).2 (key l' b' h2).2 he,hs.tgIn,hs.tgInj,hs.tgLt,hs.nm,hs.ob⟩;obtain ⟨h1,h2⟩:=key l b hl;show Al.look (wipe s.box _) _=_;rw [yr,if_neg (fun e=>h1 (hs.inj l l0 b b0 h2 h0 e.symm)),hs.box l b h2]
theorem SSim.setBox {st:St U} {s:S} (hs:SSim C N st s) {l0:Nat} {b0 b1:Bx U} (h0:lk st.bx l0=some b0) (hw:wfB C N st.nl st.nx l0 b1) :
 SSim C N ⟨(l0,some b1)::st.bx,st.tg,st.nl,st.nx,st.ob⟩ ⟨lay s.box (N.bl l0) (trB C N l0 b1),s.tg,s.nx,s.ob⟩:=by
 have key:∀ l b,lk ((l0,some b1)::st.bx) l=some b->(l=l0/\b=b1)\/(l≠l0/\lk st.bx l=some b):=fun l b hl=>by
  rw [xS] at hl;by_cases e:l0=l
  . rw [if_pos e] at hl; injection hl with hl; exact .inl ⟨e.symm,hl.symm⟩
  . rw [if_neg e] at hl; exact .inr ⟨fun e'=>e e'.symm,hl⟩
 have any:∀ l b,lk ((l0,some b1)::st.bx) l=some b->∃ b',lk st.bx l=some b':=fun l b hl=>by
  rcases key l b hl with ⟨rfl,_⟩ | ⟨_,h⟩
  . exact ⟨_,h0⟩
  . exact ⟨_,h⟩
 refine ⟨fun l b hl=>?_,fun l b hl=>?_,fun l b hl=>?_,fun l l' b b' h1 h2 he=>?_,hs.tgIn,hs.tgInj,hs.tgLt,hs.nm,hs.ob⟩
 . show Al.look (lay s.box _ _) _=_;rcases key l b hl with ⟨rfl,rfl⟩ | ⟨h1,h2⟩
   . rw [zO,if_pos rfl]
   . rw [zO,if_neg (fun e=>h1 (hs.inj l l0 b b0 h2 h0 e.symm)),hs.box l b h2]
 . obtain ⟨b',h⟩:=any l b hl;exact hs.lt l b' h
 . rcases key l b hl with ⟨rfl,rfl⟩ | ⟨h1,h2⟩
   . exact hw
   . exact hs.wf l b h2
 . obtain ⟨x,hx⟩:=any l b h1;obtain ⟨y,hy⟩:=any l' b' h2;exact hs.inj l l' x y hx hy he
theorem SSim.newTok {st:St U} {s:S} (hs:SSim C N st s) {n:Nat} {tg:List Nat} {tg':List Nat} {x:Nat} (h1:∀ t ∈ tg,t ∈ st.tg) (h2:∀ t ∈ tg,N.tk t ∈ tg') (h3:∀ t ∈ tg,N.tk t≠n) (h4:s.nx<=x) (h5:n < x) :
 SSim C (N.tok st.nx n) ⟨st.bx,st.nx::tg,st.nl,st.nx+1,st.ob⟩ ⟨s.box,n::tg',x,s.ob⟩:=by
 have hext:=N.ext_tok st.nl st.nx n;have htk:∀ t,t < st.nx->(N.tok st.nx n).tk t=N.tk t:=hext.tk;have htn:(N.tok st.nx n).tk st.nx=n:=if_pos rfl;refine ⟨fun l b hl=>?_,hs.lt,fun l b hl=>?_,fun l l' b b' q1 q2 he=>hs.inj l l' b b' q1 q2 he,?_,?_,?_,?_,hs.ob.ext hext (Nat.le_refl _)⟩
 . rw [zCh hs hext (Nat.le_refl _) (Nat.le_refl _) hl];exact hs.box l b hl
 . exact zCd hext (Nat.le_refl _) (Nat.le_succ _) (hs.lt l b hl) (hs.wf l b hl)
 . intro t ht;rcases List.mem_cons.1 ht with rfl | ht
   . rw [htn]; simp
   . rw [htk t (hs.tgLt t (h1 t ht))];exact List.mem_cons_of_mem _ (h2 t ht)
 . intro t ht t' ht' he;rcases List.mem_cons.1 ht with rfl | ht
   . rcases List.mem_cons.1 ht' with rfl | ht'
     . rfl
     . rw [htn,htk t' (hs.tgLt t' (h1 t' ht'))] at he;exact absurd he.symm (h3 t' ht')
   . rcases List.mem_cons.1 ht' with rfl | ht'
     . rw [htn,htk t (hs.tgLt t (h1 t ht))] at he;exact absurd he (h3 t ht)
     . rw [htk t (hs.tgLt t (h1 t ht)),htk t' (hs.tgLt t' (h1 t' ht'))] at he;exact hs.tgInj t (h1 t ht) t' (h1 t' ht') he
 . intro t ht;show t < st.nx+1;rcases List.mem_cons.1 ht with rfl | ht
   . omega
   . have:=hs.tgLt t (h1 t ht); omega
 . intro t ht;show _ < x;rcases List.mem_cons.1 ht with rfl | ht
   . rw [htn]; exact h5
   . rw [htk t (hs.tgLt t (h1 t ht))];have:=hs.nm t (h1 t ht); omega
theorem kY (hC:CodOk C) (i:U.I) (xs:List (U.den i)):yo (C.cells i) (xs.map (C.encV i)):=fun x hx=>by
 obtain ⟨y,_,rfl⟩:=List.mem_map.1 hx;exact hC.size i y
theorem xM (hC:CodOk C) (i:U.I):∀ xs:List (U.den i),(zX (xs.map (C.encV i))).length=xs.length * C.cells i
 | []=>by simp [zX]
 | x::r=>by
  have h1:=hC.size i x;have h2:=hC.ones i x;have h3:(C.encV i x).flat.length=C.cells i:=by
   rw [<- h1];cases hx:C.encV i x with
   | agg fs=>rw [hx] at h2; simp only [V.flat] at h2 ⊢; simp only [V.size,yK h2]
   | _=>simp [V.flat,V.size]
  simp only [List.map_cons,zX,List.length_append,xM hC i r,h3,List.length_cons,Nat.add_mul];omega
theorem zAS (hC:CodOk C) (i:U.I) (x:U.den i):(C.encV i x).flat.length=C.cells i:=by
 have:=xM hC i [x];simpa [zX] using this
theorem zFj (a b:List V):zX (a++b)=zX a++zX b:=by
 induction a with
 | nil=>rfl
 | cons x r ih=>simp [zX,ih]
theorem zCB (hC:CodOk C) (i:U.I):∀ xs:List (U.den i),zH (zX (xs.map (C.encV i)))
 | []=>rfl
 | x::r=>by
  simp only [List.map_cons,zX];exact zE1 (hC.ones i x) (zCB hC i r)
theorem jo (hC:CodOk C) (i:U.I):∀ (xs:List (U.den i)) (n:Nat),(zX (xs.map (C.encV i))).take (n * C.cells i)=zX ((xs.take n).map (C.encV i))
 | [],n=>by simp [zX]
 | x::r,0=>by simp [zX]
 | x::r,n+1=>by
  have h:=zAS hC i x;have e:(n+1) * C.cells i=(C.encV i x).flat.length+n * C.cells i:=by rw [h,Nat.add_mul]; omega
  simp only [List.map_cons,zX,List.take_succ_cons];rw [e,List.take_length_add_append,jo hC i r n]
theorem zA4 (hC:CodOk C) (i:U.I):∀ (xs:List (U.den i)) (n:Nat),(zX (xs.map (C.encV i))).drop (n * C.cells i)=zX ((xs.drop n).map (C.encV i))
 | [],n=>by simp [zX]
 | x::r,0=>by simp [zX]
 | x::r,n+1=>by
  have h:=zAS hC i x;have e:(n+1) * C.cells i=(C.encV i x).flat.length+n * C.cells i:=by rw [h,Nat.add_mul]; omega
  simp only [List.map_cons,zX,List.drop_succ_cons];rw [e,List.drop_length_add_append,zA4 hC i r n]
theorem zKF (hT:TbOk C P Tb) (hC:CodOk C) {st:St U} {s:S} (hs:SSim C N st s) {t:TypeId} {x n:T U} {xv nv:V} {K:V->Prop} {k:T U->Option R} (hx:VR C N x xv) (hn:VR C N n nv)
 (h:zEY C Tb st t x n k=some r) (hK:∀ v,k v=some r->K (trT C N v)):yZ P t xv nv K:=by
 unfold zEY at h;obtain ⟨i,el,hh,h1,h2,h3,h4⟩:=zAq hT h;clear h;have h:=hh;clear hh;simp only at h;split at h
 . rename_i _ n';split at h
   . rename_i m j xs;obtain ⟨h5,h6⟩:=zJ h;simp only [Bool.and_eq_true,decide_eq_true_eq] at h5;obtain ⟨rfl,h5⟩:=h5;have hb:=zEv h5;have hlt:n'.toNat < xs.length:=by omega
     rw [hx.get (by simp),hn.get (by simp)];simp only [trT,yZ,h1,List.length_map];rw [zN9 xs _ hlt (C.dflt j)];refine ⟨h2.has,hb,by rw [hC.size,h3],?_⟩;have:=hK _ h6;simp only [trT,hC.enc] at this;exact this
   . rename_i l m;split at h
     . rename_i j ys hl;obtain ⟨h5,h6⟩:=zJ h;simp only [Bool.and_eq_true,decide_eq_true_eq] at h5;obtain ⟨rfl,h5⟩:=h5;have hb:=zEv h5;rw [hx.get (by simp),hn.get (by simp)];simp only [trT,yZ,h1];refine ⟨h2.has,hb,?_⟩;have:=hK _ h6;have hw:=hs.wf l _ hl;simp only [trT,hw.1,Nat.add_zero,h3] at this;simpa using this
     . cases h
   . cases h
 . cases h
theorem zH2 (hC:CodOk C) (i:U.I) (xs:List (U.den i)) (a o z:Nat) (ha:a < xs.length) (hz:o+z<=C.cells i) :
 (((zX (xs.map (C.encV i))).drop (a * C.cells i+o)).take z=((C.encV i (xs.getD a (C.dflt i))).flat.drop o).take z) /\
 (o < C.cells i->(zX (xs.map (C.encV i))).getD (a * C.cells i+o) .any=(C.encV i (xs.getD a (C.dflt i))).flat.getD o .any):=by
 have h1:(zX (xs.map (C.encV i))).drop (a * C.cells i)=(C.encV i (xs.getD a (C.dflt i))).flat++zX ((xs.drop (a+1)).map (C.encV i)):=by
  rw [zA4 hC,List.drop_eq_getElem_cons ha];simp only [List.map_cons,zX,List.getD_eq_getElem?_getD,List.getElem?_eq_getElem ha,Option.getD_some]
 have h2:=zAS hC i (xs.getD a (C.dflt i));refine ⟨?_,fun ho=>?_⟩
 . rw [<- List.drop_drop,h1,List.drop_append_of_le_length (by omega),List.take_append_of_le_length (by rw [List.length_drop]; omega)]
 . have e:(zX (xs.map (C.encV i))).getD (a * C.cells i+o) .any=((zX (xs.map (C.encV i))).drop (a * C.cells i)).getD o .any:=by
    simp only [List.getD_eq_getElem?_getD,List.getElem?_drop]
   rw [e,h1];rw [List.getD_eq_getElem?_getD (l:=_++_),List.getElem?_append_left (by omega),<- List.getD_eq_getElem?_getD]
theorem zGu (hT:TbOk C P Tb) (hC:CodOk C) {st:St U} {s:S} (hs:SSim C N st s) {t:TypeId} {x:T U} {xv:V} {K:V->Prop} {k:T U->Option R} (hx:VR C N x xv)
 (h:zKY C Tb st t x k=some r) (hK:∀ v,k v=some r->K (trT C N v)):y6 P s t xv K:=by
 unfold zKY at h;split at h
 . obtain ⟨h1,h2⟩:=zJ h;rw [hx.get (by simp)];exact ⟨zS9 (fun hh=>hT _ hh) h1,hK _ h2⟩
 . rename_i l o;split at h
   . rename_i cs hl;rw [hx.get (by simp)];simp only [trT,y6,hs.box l _ hl,trB];exact zGx (fun hh=>hT _ hh) h hK
   . cases h
 . rename_i l a o;split at h
   . rename_i i xs hl;obtain ⟨h1,h2⟩:=zJ h;simp only [Bool.and_eq_true,Nat.ble_eq] at h1;have ha:=yT h1.2;have hw:=hs.wf l _ hl;rw [hx.get (by simp)];simp only [trT,y6,hs.box l _ hl,trB,hw.1];rw [zAy] at h2;obtain ⟨q1,q2⟩:=zGx (P:=P) (t:=t) (fun hh=>hT _ hh) h2 hK;have e0:(C.enc i (xs.getD a (C.dflt i))).flat.map (trT C N)=(C.encV i (xs.getD a (C.dflt i))).flat:=by rw [<- xu,hC.enc]
     rw [e0] at q1 q2;obtain ⟨p1,p2,p3⟩:=q1;have hc:P.cellsOf t=(Tb t).cells:=by
      have:(Tb t).has=true:=by
       unfold zGJ at h2;have:=(zJ h2).1;simp only [Bool.and_eq_true] at this;exact this.1.1
      exact (hT t this).cells
     have hfl:=zAS hC i (xs.getD a (C.dflt i));have hlen:=xM hC i xs;have hmul:(a+1) * C.cells i<=xs.length * C.cells i:=Nat.mul_le_mul_right _ ha;rw [Nat.add_mul,Nat.one_mul] at hmul;have hpe:=zH2 hC i xs a o (P.cellsOf t) ha (by rw [hc]; exact h1.1);refine ⟨⟨p1,by omega,p3⟩,?_⟩;unfold yC at q2 ⊢;split at q2
     . rename_i hag;rw [if_pos hag,hpe.1]; exact q2
     . rename_i hag;rw [if_neg hag,hpe.2 (by have:=p3 (by simpa using hag); omega)]; exact q2
   . cases h
 . cases h
theorem zNY {st:St U} {s:S} (hs:SSim C N st s) {cs:List (T U)} {cv:List V} (hcv:cs.map (trT C N)=cv) {K:V->S->Prop} {k:T U->St U->Option R} (h:dNew st cs k=some r) (hK:Kok C N st K k r):aNew s cv K:=by
 subst hcv;unfold dNew at h;obtain ⟨h1,h2⟩:=zJ h;simp only [Bool.and_eq_true] at h1;refine ⟨(yq C N cs).2 h1.1,fun b hb=>?_⟩;have hn:=hs.newBox (b:=b) (c:=0) (z:=0) (bx:=.st cs) hb ⟨yj (Nat.le_succ _) (Nat.le_refl _) _ h1.2,h1.1⟩;have hext:=N.ext_loc st.nl st.nx b 0 0;simp only [trB,yn hext h1.2] at hn;have:=hK _ _ _ _ _ h2 ⟨hext,Nat.le_succ _,Nat.le_refl _⟩ hn (.inr rfl);simp only [trT] at this;have e:(N.loc st.nl b 0 0).bl st.nl=b:=if_pos rfl;rw [e] at this;simpa using this
theorem zOQ (N:NM) {z:T U} (h:noOw z=true):zn (trT C N z)=trT C N z:=by
 cases z <;> try rfl
 rename_i m i xs;cases m with
 | b n=>cases n <;> rfl
 | dl=>exact zBC _
 | ow t nb=>cases h
theorem zJ0:∀ {l:List (T U)},zGL l=true->∀ z ∈ l,noOw z=true
 | [],_,z,hz=>by cases hz
 | a::r,h,z,hz=>by
  simp only [zGL,Bool.and_eq_true] at h;rcases List.mem_cons.1 hz with rfl | hz
  . exact h.1
  . exact zJ0 h.2 z hz
theorem zPo {v:V} (h:v.isOne=true):v.untag=zn v:=by cases v <;> first | rfl | cases h
theorem zM2 {v:V} (h:v.untag=v) (h1:zH v.flat):∀ y ∈ v.flat,zn y=y:=by
 intro y hy;cases v with
 | agg fs=>
  simp only [V.untag,V.agg.injEq] at h;simp only [V.flat] at hy;obtain ⟨j,hj,rfl⟩:=List.getElem_of_mem hy;have:=congrArg (fun l=>l[j]?) h;simp only [List.getElem?_map,List.getElem?_eq_getElem hj,Option.map_some,Option.some.injEq] at this;exact this
 | _=>
  simp only [V.flat,List.mem_singleton] at hy;subst hy;exact h
theorem zPK {N:NM} (a:Bool) {l:List (T U)} (h:∀ z ∈ l,z.isOne=true/\zn (trT C N z)=trT C N z):(trT C N (asEl a l)).untag=trT C N (asEl a l):=by
 cases a with
 | true=>
  simp only [asEl,cond_true,trT,V.untag,yX,List.map_map];congr 1;exact List.map_congr_left fun z hz=>(h z hz).2
 | false=>
  cases l with
  | nil=>rfl
  | cons z r=>
   simp only [asEl,cond_false,List.headD_cons];obtain ⟨h1,h2⟩:=h z (List.mem_cons_self ..);rw [zPo (by rw [zEq]; exact h1),h2]
theorem decS {i:U.I} (hC:CodOk C) {x:U.den i} {o:Nat} {yf:List (T U)} {r:R} {k:U.den i->Option R} (hp:(C.plain i || zGL yf)=true) (h3:yG yf=true) (h:C.dec i (asEl (C.agg i) (splT (C.enc i x).flat o yf)) k=some r) :
 ∃ x',k x' = some r/\∀ N,trT C N (asEl (C.agg i) (splT (C.enc i x).flat o yf))=C.encV i x':=by
 rcases (by simpa using hp:C.plain i=true\/zGL yf=true) with hp | hp
 . exact hC.decP i _ _ _ hp h
 . obtain ⟨x',h1,h2⟩:=hC.dec i _ _ _ h;refine ⟨x',h1,fun N=>?_⟩;rw [<- h2 N];refine (zPK _ fun z hz=>?_).symm;have e1:(C.enc i x).flat.map (trT C N)=(C.encV i x).flat:=by rw [<- xu,hC.enc]
   have hone:∀ z ∈ (C.enc i x).flat,z.isOne=true/\zn (trT C N z)=trT C N z:=fun z hz=>by
    have hm:trT C N z ∈ (C.encV i x).flat:=by rw [<- e1]; exact List.mem_map_of_mem hz
    have ho:=hC.ones i x;refine ⟨?_,zM2 (hC.untag i x) ho _ hm⟩;unfold zH at ho;rw [List.all_eq_true] at ho;rw [<- zEq C N];exact ho _ hm
   simp only [splT,List.mem_append] at hz;rcases hz with (hz | hz) | hz
   . exact hone z (List.mem_of_mem_take hz)
   . refine ⟨?_,zOQ N (zJ0 hp z hz)⟩;unfold yG at h3;rw [List.all_eq_true] at h3;exact h3 z hz
   . exact hone z (List.mem_of_mem_drop hz)
theorem zRA (hT:TbOk C P Tb) (hC:CodOk C) {st:St U} {s:S} (hs:SSim C N st s) {t:TypeId} {x y:T U} {xv yv:V} {K:S->Prop} {k:St U->Option R} (hx:VR C N x xv) (hy:VR C N y yv)
 (h:zLB C Tb st t x y k=some r) (hK:∀ st' s',k st' = some r->Turn N st N st'->SSim C N st' s'->K s'):qF P s t xv yv K:=by
 unfold zLB at h;rw [zAy] at h;have hq:=zJ h;clear h;obtain ⟨h1,h⟩:=hq;simp only [Bool.and_eq_true,Nat.beq_eq] at h1;obtain ⟨⟨h1,h2⟩,h3⟩:=h1;have hf:=hT t h1;have hyn:y≠.any:=fun e=>by subst e; simp [T.flat,yG,T.isOne] at h3
 have hyv:=hy.get hyn;subst hyv;split at h
 . rename_i l o;split at h
   . rename_i cs hl;obtain ⟨h4,h5⟩:=zJ h;simp only [Bool.and_eq_true,Nat.ble_eq] at h4;rw [zAy] at h5;rw [hx.get (by simp)];simp only [trT,qF,hs.box l _ hl,trB,xu,List.length_map];refine ⟨hf.has,by rw [hf.cells]; exact h2,(yq C N _).2 h3,h4.1,?_⟩;have hw:=hs.wf l _ hl;have hlen:(splT cs o y.flat).length=cs.length:=by simp [splT]; omega
     have hone:yG (splT cs o y.flat)=true:=by
      have h1:=hw.2;unfold yG at *;rw [List.all_eq_true] at *;intro z hz;simp only [splT,List.mem_append] at hz;rcases hz with (hz | hz) | hz
      . exact h1 z (List.mem_of_mem_take hz)
      . exact h3 z hz
      . exact h1 z (List.mem_of_mem_drop hz)
     have hbd:bdds st.nl st.nx (splT cs o y.flat)=true:=by
      have key:∀ l:List (T U),bdds st.nl st.nx l=true↔∀ z ∈ l,bdd st.nl st.nx z=true:=fun l=>by
       induction l with
       | nil=>simp [bdds]
       | cons a r ih=>simp [bdds,ih]
      rw [key];intro z hz;simp only [splT,List.mem_append] at hz;rcases hz with (hz | hz) | hz
      . exact (key _).1 hw.1 z (List.mem_of_mem_take hz)
      . exact (key _).1 h4.2 z hz
      . exact (key _).1 hw.1 z (List.mem_of_mem_drop hz)
     have hn:=hs.setBox (b1:=.st (splT cs o y.flat)) hl ⟨hbd,hone⟩;simp only [trB,zJQ,hlen] at hn;exact hK _ _ h5 ⟨.refl _ _ _,Nat.le_refl _,Nat.le_refl _⟩ hn
   . cases h
 . rename_i l a o;split at h
   . rename_i i xs hl;obtain ⟨h4,h5⟩:=zJ h;simp only [Bool.and_eq_true,Nat.ble_eq] at h4;obtain ⟨⟨hp,ho⟩,ha⟩:=h4;have ha:=yT ha;obtain ⟨x',h6,h7⟩:=decS hC hp h3 h5;have hw:=hs.wf l _ hl;rw [hx.get (by simp)];simp only [trT,qF,hs.box l _ hl,trB,xu,List.length_map,hw.1];have hlen:=xM hC i xs;have hfl:=zAS hC i (xs.getD a (C.dflt i));have hmul:(a+1) * C.cells i<=xs.length * C.cells i:=Nat.mul_le_mul_right _ ha;rw [Nat.add_mul,Nat.one_mul] at hmul;refine ⟨hf.has,by rw [hf.cells]; exact h2,(yq C N _).2 h3,by omega,?_⟩;have hn:=hs.setBox (b1:=.ar i (xs.set a x')) hl ⟨hw.1,by rw [List.length_set]; exact hw.2⟩;simp only [trB] at hn;have e:spl (zX (xs.map (C.encV i))) (a * C.cells i+o) (y.flat.map (trT C N))=zX ((xs.set a x').map (C.encV i)):=by
      have h8:=h7 N;have e1:(C.enc i (xs.getD a (C.dflt i))).flat.map (trT C N)=(C.encV i (xs.getD a (C.dflt i))).flat:=by rw [<- xu,hC.enc]
      have e2:(C.encV i x').flat=spl (C.encV i (xs.getD a (C.dflt i))).flat o (y.flat.map (trT C N)):=by
       rw [<- h8,xu,<- e1,<- zJQ];unfold asEl;cases hag:C.agg i with
       | true=>rfl
       | false=>
        have h9:=hC.one i hag;have h10:(C.enc i (xs.getD a (C.dflt i))).flat.length=1:=by
         have:=congrArg List.length e1;rw [List.length_map,hfl,h9] at this;exact this
        have h11:(splT (C.enc i (xs.getD a (C.dflt i))).flat o y.flat).length=1:=by rw [splT,List.length_append,List.length_append,List.length_take,List.length_drop,h10]; omega
        match hq:splT (C.enc i (xs.getD a (C.dflt i))).flat o y.flat,h11 with
        | [z],_=>
         simp only [cond_false,List.headD_cons];have:yG [z]=true:=by
          rw [<- hq];unfold yG;rw [List.all_eq_true];intro u hu;simp only [splT,List.mem_append] at hu;have hones:yG (C.enc i (xs.getD a (C.dflt i))).flat=true:=(yq C N _).1 (by rw [e1]; exact hC.ones i _);unfold yG at hones h3;rw [List.all_eq_true] at hones h3;rcases hu with (hu | hu) | hu
          . exact hones u (List.mem_of_mem_take hu)
          . exact h3 u hu
          . exact hones u (List.mem_of_mem_drop hu)
         cases z <;> simp [yG,T.isOne] at this <;> rfl
      have ex:xs.set a x' = xs.take a++x' :: xs.drop (a+1):=by rw [List.set_eq_take_append_cons_drop,if_pos ha]
      rw [ex,List.map_append,zFj,List.map_cons];simp only [zX];rw [e2];unfold spl;rw [<- jo hC,<- zA4 hC];have d1:(zX (xs.map (C.encV i))).take (a * C.cells i+o)=(zX (xs.map (C.encV i))).take (a * C.cells i)++(C.encV i (xs.getD a (C.dflt i))).flat.take o:=by
       rw [List.take_add];congr 1;have:=(zH2 hC i xs a 0 o ha (by omega)).1;simpa using this
      have d2:(zX (xs.map (C.encV i))).drop (a * C.cells i+o+(y.flat.map (trT C N)).length)=(C.encV i (xs.getD a (C.dflt i))).flat.drop (o+(y.flat.map (trT C N)).length)++(zX (xs.map (C.encV i))).drop ((a+1) * C.cells i):=by
       have hd:(zX (xs.map (C.encV i))).drop (a * C.cells i)=(C.encV i (xs.getD a (C.dflt i))).flat++zX ((xs.drop (a+1)).map (C.encV i)):=by
        rw [zA4 hC,List.drop_eq_getElem_cons ha];simp only [List.map_cons,zX,List.getD_eq_getElem?_getD,List.getElem?_eq_getElem ha,Option.getD_some]
       rw [Nat.add_assoc,<- List.drop_drop,hd,List.drop_append_of_le_length (by rw [List.length_map]; omega),zA4 hC]
      rw [d1,d2];simp
     rw [e];exact hK _ _ h6 ⟨.refl _ _ _,Nat.le_refl _,Nat.le_refl _⟩ hn
   . cases h
 . cases h
theorem xh {i j:U.I} {xs:List (U.den j)} {k:List (U.den i)->Option R} (h:jz i j xs k=some r):∃ e:j=i,k (kH e xs)=some r:=by
 unfold jz at h;split at h
 . rename_i e; exact ⟨e,h⟩
 . cases h
theorem zGq {b n:Nat} (h:okN b n=true):n * b<=140737488355328/\n<=maxLen:=by
 simpa [okN] using h
theorem zNd (hT:TbOk C P Tb) {el:TypeId} (hf:Facts C P el (Tb el)) (h:(match (Tb el).zero with | some z=>Nat.beq z.length (Tb el).cells | none=>false)=true) :
 (yN P el).isSome=true/\(yN P el).map List.length=some (P.cellsOf el):=by
 rw [hf.zero ⟨id,id,id,id⟩,hf.cells];split at h
 . rename_i z hz;rw [hz];simp only [Nat.beq_eq] at h;simp [h]
 . cases h
theorem zDS (hT:TbOk C P Tb) (hC:CodOk C) {L:Pol} {st:St U} {s:S} (hs:SSim C N st s) {dst:Option Nat} {t t2:TypeId} {x y:T U} {xv yv:V} {K:V->S->Prop} {k:T U->St U->Option R}
 (hx:VR C N x xv) (hy:VR C N y yv) (h:zC4 Tb L.wr dst st t t2 x y k=some r) (hK:Kok C N st K k r):xE P L dst s t t2 xv yv K:=by
 unfold zC4 at h;obtain ⟨i,el,hh,h1,h2,h3,h4⟩:=zAq hT h;clear h;have h:=hh;clear hh;simp only at h;have hq:=zJ h;clear h;obtain ⟨h5,h⟩:=hq;simp only [Bool.and_eq_true,Nat.beq_eq] at h5;obtain ⟨rfl,hz⟩:=h5;have hz:=(zNd hT h2 hz).2;have hwd:wrD L.wr dst=(dst.map L.wr).getD false:=by cases dst <;> rfl
 rw [hwd] at h;split at h
 . rename_i m j ys';have hq:=xh h; clear h; obtain ⟨rfl,h⟩:=hq;simp only [kH] at h;have hyv:=hy.get (by simp);subst hyv;simp only [trT,xE,h1];refine ⟨trivial,h2.has,hz,by rw [<- h3]; exact hC.pos j,by rw [<- h3]; exact kY hC j ys',?_⟩;split at h
   . have hq:=zJ h;clear h;obtain ⟨h6,h⟩:=hq;have h6:=zGq h6;rw [hx.get (by simp)];simp only [trT,List.length_map];refine ⟨by rw [h2.bytes]; exact h6.1,h6.2,?_⟩;split
     . rename_i hw;rw [hw] at h;simp only [cond_true] at h;have hq:=zJ h;clear h;obtain ⟨h7,h⟩:=hq;refine ⟨by cases ys' <;> simp at h7 ⊢,zCB hC j ys',fun b cap hb hcap=>?_⟩;have hn:=hs.newBox (b:=b) (c:=cap) (z:=C.cells j) (bx:=.ar j ys') hb ⟨if_pos rfl,by show _<=if _ then _ else _; rw [if_pos rfl]; exact hcap⟩;have hext:=N.ext_loc st.nl st.nx b cap (C.cells j);have ec:(N.loc st.nl b cap (C.cells j)).cp st.nl=cap:=if_pos rfl;have eb:(N.loc st.nl b cap (C.cells j)).bl st.nl=b:=if_pos rfl;simp only [trB,ec] at hn;have:=hK _ _ _ _ _ h ⟨hext,Nat.le_succ _,Nat.le_refl _⟩ hn (.inr rfl);simp only [trT,ec,eb] at this;rw [<- h3];exact this
     . rename_i hw;have hw:(Option.map L.wr dst).getD false=false:=by simpa using hw
       rw [hw] at h;simp only [cond_false] at h;have hn:=hs.newTok (n:=s.nx) (tg:=st.tg) (tg':=s.tg) (x:=s.nx+1) (fun _ h=>h) hs.tgIn (fun t ht=>Nat.ne_of_lt (hs.nm t ht)) (Nat.le_succ _) (Nat.lt_succ_self _);have:=hK _ _ _ _ _ h ⟨N.ext_tok st.nl st.nx s.nx,Nat.le_refl _,Nat.le_succ _⟩ hn (.inr rfl);simp only [trT,trM] at this;have e:(N.tok st.nx s.nx).tk st.nx=s.nx:=if_pos rfl;rw [e,h3] at this;exact this
   . rename_i m' j' xs';split at h
     . rename_i tk nb;have hq:=xh h; clear h; obtain ⟨rfl,h⟩:=hq;simp only [kH] at h;have hq:=zJ h;clear h;obtain ⟨h6,h⟩:=hq;simp only [Bool.and_eq_true] at h6;have h7:=zGq h6.2;have hm:=zC1 h6.1;rw [hx.get (by simp)];simp only [trT,trM,List.length_map];refine ⟨hs.tgIn _ hm,h3,by rw [h2.bytes]; exact h7.1,h7.2,?_⟩;have hn:=hs.newTok (n:=s.nx) (tg:=rmN st.tg tk) (tg':=s.tg.erase (N.tk tk)) (x:=s.nx+1) (fun t ht=>(qu ht).1) (fun t ht=>by
        obtain ⟨q1,q2⟩:=qu ht;exact (List.mem_erase_of_ne (fun e=>q2 (hs.tgInj t q1 tk hm e))).2 (hs.tgIn t q1)) (fun t ht=>Nat.ne_of_lt (hs.nm t (qu ht).1)) (Nat.le_succ _) (Nat.lt_succ_self _)
       have:=hK _ _ _ _ _ h ⟨N.ext_tok st.nl st.nx s.nx,Nat.le_refl _,Nat.le_succ _⟩ hn (.inr rfl);simp only [trT,trM] at this;have e:(N.tok st.nx s.nx).tk st.nx=s.nx:=if_pos rfl;rw [e,List.map_append] at this;exact this
     . cases h
   . rename_i l n;split at h
     . rename_i j' xs' hl;have hq:=xh h; clear h; obtain ⟨rfl,h⟩:=hq;simp only [kH] at h;have hq:=zJ h;clear h;obtain ⟨h6,h⟩:=hq;simp only [Bool.and_eq_true,Nat.ble_eq] at h6;obtain ⟨⟨h7,h8⟩,h9⟩:=h6;have h9:=zGq h9;have hw:=hs.wf l _ hl;rw [hx.get (by simp)];simp only [trT,hs.box l _ hl,trB,List.length_map];refine ⟨h7,by rw [h3],by have:=hw.2; omega,by rw [xM hC,<- h3]; exact Nat.mul_le_mul_right _ h8,by rw [h2.bytes]; exact h9.1,h9.2,zCB hC j' ys',fun b' cap' hb hcap=>?_⟩;have hd:=hs.drop l hl;have hn:=hd.newBox (b:=b') (c:=cap') (z:=C.cells j') (bx:=.ar j' (xs'.take n++ys')) hb ⟨if_pos rfl,by
        show _<=if _ then _ else _
        rw [if_pos rfl,List.length_append,List.length_take]; omega⟩
       have hext:=N.ext_loc st.nl st.nx b' cap' (C.cells j');have ec:(N.loc st.nl b' cap' (C.cells j')).cp st.nl=cap':=if_pos rfl;have eb:(N.loc st.nl b' cap' (C.cells j')).bl st.nl=b':=if_pos rfl;simp only [trB,ec] at hn;have:=hK _ _ _ _ _ h ⟨hext,Nat.le_succ _,Nat.le_refl _⟩ hn (.inr rfl);simp only [trT,ec,eb] at this;rw [List.map_append,zFj,<- jo hC] at this;rw [<- h3];exact this
     . cases h
   . cases h
 . cases h
end
open Go.Al
section
variable {U:TyU} {C:Cod U} {P:Program} {Tb:TypeId->TD U} {R:Type} {r:R} {N:NM}
theorem zPI (hT:TbOk C P Tb) (hC:CodOk C) {L:Pol} {st:St U} {s:S} (hs:SSim C N st s) {dst:Option Nat} {t t2:TypeId} {x y:T U} {xv yv:V} {K:V->S->Prop} {k:T U->St U->Option R}
 (hx:VR C N x xv) (hy:VR C N y yv) (h:zJV Tb L.wr dst st t t2 x y k=some r) (hK:Kok C N st K k r):xE P L dst s t t2 xv yv K:=by
 unfold zJV at h;split at h
 . rename_i m j xs;split at h
   . have hq:=zJ h;clear h;obtain ⟨h1,h⟩:=hq;have hn:xs=[]:=by simpa using h1
     subst hn;have hx':VR C N (.nil:T U) xv:=.inr ((hx.get (by simp)).trans rfl);exact zDS hT hC hs hx' hy h hK
   . exact zDS hT hC hs hx hy h hK
 . exact zDS hT hC hs hx hy h hK
theorem zOx (s:List UInt8) (a b:Nat):(⟨s.toArray⟩:ByteArray).extract a b=⟨((s.take b).drop a).toArray⟩:=by
 apply ByteArray.ext;simp [ByteArray.data_extract,List.extract_toArray,List.extract_eq_take_drop,List.drop_take]
def OR (C:Cod U) (N:NM) (x:Option (T U)) (v:Option V):Prop:=match x,v with | none,none=>True | some x,some v=>VR C N x v | _,_=>False
theorem zQf (hT:TbOk C P Tb) (hC:CodOk C) {st:St U} {s:S} (hs:SSim C N st s) {t:TypeId} {x:T U} {xv:V} {lo hi:Option (T U)} {lov hiv:Option V} {K:V->Prop} {k:T U->Option R} (hx:VR C N x xv)
 (hlo:OR C N lo lov) (hhi:OR C N hi hiv) (h:zLA C Tb st t x lo hi k=some r) (hK:∀ v,k v=some r->K (trT C N v)):jU P t xv lov hiv K:=by
 unfold zLA at h;split at h
 . rename_i m j xs;obtain ⟨i,el,hh,h1,h2,h3,h4⟩:=zAq hT h;clear h;have hq:=zJ hh; clear hh;obtain ⟨h5,h⟩:=hq;simp only [decide_eq_true_eq] at h5;subst h5;rw [hx.get (by simp)];simp only [trT,jU,h1];refine ⟨h2.has,.inr fun y hy=>by rw [<- h3]; exact kY hC j xs y (List.mem_of_mem_take hy),?_⟩;refine zAs hlo h fun l hl=>?_;rw [List.length_map];refine zAs hhi hl fun hh hl2=>?_;obtain ⟨h6,h7⟩:=zJ hl2;refine ⟨zEM h6,?_⟩;have:=hK _ h7;simp only [trT,cutL,List.map_drop,List.map_take] at this;rw [zUm m xs (cutL xs l hh)];simpa [cutL,List.map_drop,List.map_take] using this
 . rename_i l0 n;obtain ⟨i,el,hh,h1,h2,h3,h4⟩:=zAq hT h;clear h;split at hh
   . split at hh
     . rename_i j xs hl;have hq:=zJ hh; clear hh;obtain ⟨h5,h⟩:=hq;simp only [decide_eq_true_eq] at h5;subst h5;cases lov with
       | some _=>exact hlo.elim
       | none=>
        rw [hx.get (by simp)];simp only [trT,jU,h1];refine ⟨h2.has,?_⟩;have e0:∀ (d:Int) (K:Int->Prop),jB none d K=K d:=fun _ _=>rfl;rw [e0];refine zAs hhi h fun hh hl2=>?_;obtain ⟨h6,h7⟩:=zJ hl2;obtain ⟨q1,q2,q3⟩:=zEM h6;have hw:=hs.wf l0 _ hl;refine ⟨⟨q1,q2,by have:=hw.2; omega⟩,?_⟩;have:=hK _ h7;simp only [trT] at this;have e1:(if ((N.cp l0:Nat):Int)=0 then 0 else 0+(0:Int).toNat * P.cellsOf el)=0:=by split <;> simp
        rw [e1];simpa using this
     . cases hh
   . rename_i lo';split at hh
     . rename_i ik a;split at hh
       . rename_i j xs hl;have hq:=zJ hh; clear hh;obtain ⟨h5,h⟩:=hq;simp only [decide_eq_true_eq] at h5;subst h5;cases lov with
         | none=>exact hlo.elim
         | some lv=>
          have hlv:lv = .at (.int ik a):=(VR.get (C:=C) (N:=N) (x:=.int ik a) hlo (by simp)).trans rfl;subst hlv;rw [hx.get (by simp)];simp only [trT,jU,h1];refine ⟨h2.has,?_⟩;have e0:∀ (d:Int) (K:Int->Prop),jB (some (.at (.int ik a))) d K=K a:=fun _ _=>rfl;rw [e0];refine zAs hhi h fun hh hl2=>?_;obtain ⟨h6,h7⟩:=zJ hl2;obtain ⟨q1,q2,q3⟩:=zEM h6;have hw:=hs.wf l0 _ hl;refine ⟨⟨q1,q2,by have:=hw.2; omega⟩,?_⟩;have:=hK _ h7;simp only [trT] at this;have e1:(if ((N.cp l0:Nat):Int)=a then 0 else 0+a.toNat * P.cellsOf el)=(if N.cp l0=a.toNat then 0 else a.toNat * N.sz l0):=by
           rw [hw.1,h3];by_cases e:N.cp l0=a.toNat
           . rw [if_pos e,if_pos (by omega)]
           . rw [if_neg e,if_neg (by omega),Nat.zero_add]
          rw [e1];exact this
       . cases hh
     . cases hh
 . rename_i s';obtain ⟨h1,h2⟩:=zJ h;simp only [Bool.and_eq_true] at h1;rw [hx.get (by simp)];simp only [trT,jU];refine ⟨(hT t h1.1).isStr.trans h1.2,?_⟩;refine zAs hlo h2 fun l hl=>?_;have e:((⟨s'.toArray⟩:ByteArray).size:Int)=lenI s':=by simp [ByteArray.size,lenI]
   rw [e];refine zAs hhi hl fun hh hl2=>?_;obtain ⟨h6,h7⟩:=zJ hl2;refine ⟨by have:=zEM h6; simpa [lenI] using this,?_⟩;have:=hK _ h7;simp only [trT,cutL] at this;rw [zOx];exact this
 . split at h
   . rename_i fs;split at h
     . split at h
       . split at h
         . rename_i m i hr;obtain ⟨h1,h2⟩:=zJ h;simp only [Bool.and_eq_true,Nat.beq_eq,Bool.not_eq_true'] at h1;obtain ⟨⟨⟨⟨h3,h4⟩,h5⟩,h6⟩,h7⟩:=h1;obtain ⟨xs,h8,h9⟩:=zHJ hC h4 h2;rw [hx.get (by simp)];cases lov with
           | some _=>exact hlo.elim
           | none=>
            cases hiv with
            | some _=>exact hhi.elim
            | none=>
             simp only [trT,jU,yX];have hq:=hK _ h8;simp only [trT,trM,Bool.false_eq_true,if_false] at hq;refine ⟨by rw [List.length_map,<- h6]; exact (hT t h3).arr m i hr,(yq C N fs).2 h5,fun e=>?_,trivial,trivial,by rw [h9 N]; exact hq⟩;have:fs=[]:=by simpa using e
             subst this;simp at h7
         . cases h
       . cases h
     . cases h
   . cases h
 . cases h
theorem zFn (hC:CodOk C) {i:U.I}:∀ {parts:List (Nat×T U)} {k:List (U.den i)->Option R},zIL C i parts k=some r ->
 ∃ xs,k xs=some r/\(∀ N,parts.map (fun p=>(trT C N p.2).untag)=xs.map (C.encV i))/\(C.plain i=true->∀ N,parts.map (fun p=>trT C N p.2)=xs.map (C.encV i))
 | [],k,h=>⟨[],h,fun _=>rfl,fun _ _=>rfl⟩
 | p::rest,k,h=>by
  simp only [zIL] at h;by_cases hp:C.plain i=true
  . obtain ⟨x,h1,h2⟩:=hC.decP i _ _ _ hp h;obtain ⟨xs,h3,h4,h5⟩:=zFn hC h1;exact ⟨x::xs,h3,fun N=>by rw [List.map_cons,List.map_cons,h4 N,h2 N,hC.untag],fun hp N=>by rw [List.map_cons,List.map_cons,h5 hp N,h2 N]⟩
  . obtain ⟨x,h1,h2⟩:=hC.dec i _ _ _ h;obtain ⟨xs,h3,h4,h5⟩:=zFn hC h1;exact ⟨x::xs,h3,fun N=>by rw [List.map_cons,List.map_cons,h4 N,h2 N],fun hp'=>absurd hp' hp⟩
def PR (C:Cod U) (N:NM) (parts:List (Nat×T U)) (vs:List (Nat×V)):Prop:=vs.map (·.1)=parts.map (·.1)/\∀ (j:Nat) (x:Nat×T U) (v:Nat×V),parts[j]? = some x->vs[j]? = some v->VR C N x.2 v.2
theorem PR.exact:∀ {parts:List (Nat×T U)} {vs:List (Nat×V)},PR C N parts vs->zCU parts=true->vs=parts.map fun p=>(p.1,trT C N p.2)
 | [],vs,h,_=>by have:=h.1; simpa using this
 | p::rest,vs,h,ho=>by
  simp only [zCU,Bool.and_eq_true] at ho;cases vs with
  | nil=>have:=h.1; simp at this
  | cons v vs=>
   have h1:=h.1;simp only [List.map_cons,List.cons.injEq] at h1;have hv:=h.2 0 p v rfl rfl;have hne:p.2≠.any:=fun e=>by rw [e] at ho; simp [T.flat,yG,T.isOne] at ho
   have:=PR.exact (parts:=rest) (vs:=vs) ⟨h1.2,fun j x v a b=>h.2 (j+1) x v (by simpa using a) (by simpa using b)⟩ ho.2;rw [this];simp only [List.map_cons,List.cons.injEq];exact ⟨by rw [<- h1.1,<- hv.get hne],trivial⟩
theorem zLe {f:T U->V}:∀ {n:Nat} {parts:List (Nat×T U)},zKQ n parts=true->jV n (parts.map fun p=>(p.1,f p.2))=true
 | _,[],_=>rfl
 | n,p::rest,h=>by
  simp only [zKQ,Bool.and_eq_true,Nat.beq_eq] at h;simp only [List.map_cons,jV,Bool.and_eq_true,beq_iff_eq];exact ⟨h.1,zLe h.2⟩
theorem zIe (N:NM):∀ {parts:List (Nat×T U)},zCU parts=true->(parts.map fun p=>(p.1,trT C N p.2)).all (fun p=>p.2.flat.all V.isOne)=true
 | [],_=>rfl
 | p::rest,h=>by
  simp only [zCU,Bool.and_eq_true] at h;simp only [List.map_cons,List.all_cons,Bool.and_eq_true];refine ⟨?_,zIe N h.2⟩;have:=(yq C N p.2.flat).2 h.1;rw [<- xu] at this;exact this
theorem zJG (hT:TbOk C P Tb) (hC:CodOk C) {L:Pol} {st:St U} {s:S} (hs:SSim C N st s) {dst:Option Nat} {t:TypeId} {n:Nat} {parts:List (Nat×T U)} {vs:List (Nat×V)} {K:V->S->Prop} {k:T U->St U->Option R}
 (hp:PR C N parts vs) (h:zDW C Tb L.wr L.own dst st t n parts k=some r) (hK:Kok C N st K k r):yJ P L dst s t n vs K:=by
 unfold zDW at h;obtain ⟨i,el,hh,h1,h2,h3,h4⟩:=zAq hT h;clear h;have hq:=zJ hh; clear hh;obtain ⟨h5,h⟩:=hq;simp only [Bool.and_eq_true,Nat.ble_eq,Nat.beq_eq,decide_eq_true_eq] at h5;obtain ⟨⟨⟨⟨⟨hz,h6⟩,h7⟩,h8⟩,h9⟩,h10⟩:=h5;have hz:=zNd hT h2 hz;have hex:=hp.exact h10;subst hex;obtain ⟨xs,h11,h12,h13⟩:=zFn hC h;clear h;have hwd:wrD L.wr dst=(dst.map L.wr).getD false:=by cases dst <;> rfl
 have hod:wrD L.own dst=(dst.map L.own).getD false:=by cases dst <;> rfl
 rw [hwd,hod] at h11;have hlen:xs.length=n:=by
  have:=congrArg List.length (h12 N);simp only [List.length_map] at this;omega
 have hes:(List.map (fun p=>(p.1,trT C N p.2)) parts).map (fun p=>p.2.untag)=xs.map (C.encV i):=by
  rw [List.map_map]; exact h12 N
 unfold yJ;simp only [h1,hes];refine ⟨h2.has,hz.1,hz.2,by rw [h2.cells]; exact h6,h7,by rw [List.length_map]; exact h8,zLe h9,by rw [<- h3]; exact kY hC i xs,zIe N h10,?_⟩;split
 . rename_i hw;rw [hw] at h11;simp only [cond_true] at h11;obtain ⟨h14,h15⟩:=zJ h11;have e:(List.map (fun p=>(p.1,trT C N p.2)) parts).map (·.2)=xs.map (C.encV i):=by
    rw [List.map_map]; exact h13 h14 N
   rw [e];refine ⟨zCB hC i xs,fun b hb=>?_⟩;have hn:=hs.newBox (b:=b) (c:=n) (z:=C.cells i) (bx:=.ar i xs) hb ⟨if_pos rfl,by show _<=if _ then _ else _; rw [if_pos rfl,hlen]; exact Nat.le_refl _⟩;have hext:=N.ext_loc st.nl st.nx b n (C.cells i);have ec:(N.loc st.nl b n (C.cells i)).cp st.nl=n:=if_pos rfl;have eb:(N.loc st.nl b n (C.cells i)).bl st.nl=b:=if_pos rfl;simp only [trB,ec] at hn;have:=hK _ _ _ _ _ h15 ⟨hext,Nat.le_succ _,Nat.le_refl _⟩ hn (.inr rfl);simp only [trT,ec,eb] at this;rw [<- h3];exact this
 . rename_i hw;have hw:(Option.map L.wr dst).getD false=false:=by simpa using hw
   rw [hw] at h11;simp only [cond_false] at h11;split
   . rename_i ho;rw [ho] at h11;simp only [cond_true] at h11;have hn:=hs.newTok (n:=s.nx) (tg:=st.tg) (tg':=s.tg) (x:=s.nx+1) (fun _ h=>h) hs.tgIn (fun t ht=>Nat.ne_of_lt (hs.nm t ht)) (Nat.le_succ _) (Nat.lt_succ_self _);have:=hK _ _ _ _ _ h11 ⟨N.ext_tok st.nl st.nx s.nx,Nat.le_refl _,Nat.le_succ _⟩ hn (.inr rfl);simp only [trT,trM] at this;have e:(N.tok st.nx s.nx).tk st.nx=s.nx:=if_pos rfl;rw [e,h3] at this;exact this
   . rename_i ho;have ho:(Option.map L.own dst).getD false=false:=by simpa using ho
     rw [ho] at h11;simp only [cond_false] at h11;have:=hK _ _ _ _ _ h11 ⟨.refl _ _ _,Nat.le_refl _,Nat.le_refl _⟩ hs (.inr rfl);simpa [trT,trM] using this
def zD0 (C:Cod U) (P:Program) (L:Pol) (call:Call U R) (r:R) (PP:List PanicEntry->Prop):Prop:=
 ∀ n args ks st k N s,SSim C N st s->bdds st.nl st.nx args=true->xt args=true->call n args ks st k=some r ->
  ∀ K KP kb,(∀ b ∈ kb,∃ l ∈ ks,N.bl l=b)->Kok C N st K k r->(∀ c s,PP c->KP c s)->(n < 1000000->zCL P L kb (.clo (.func n) []) (args.map (trT C N)) s K KP)/\(∀ m,mIx m=n->∀ x as,args=x::as->zNf P (trT C N x) m (as.map (trT C N)) s K) /\
   (∀ m,cIx m=n->∀ as caps,args=as++caps->xt as=true->zDD caps=true->zCL P L kb (.clo (.func m) (caps.map (trT C N))) (as.map (trT C N)) s K KP)
structure KdOk (L:Pol) (kd:KD) (N:NM) (nl:Nat):Prop where
 kl:∀ p ∈ L.kl,∃ l,(p.1,p.2,l) ∈ kd
 kb:∀ d b,b ∈ L.kb d->∃ u l,(d,u,l) ∈ kd/\N.bl l=b
 kb2:∀ d u l,(d,u,l) ∈ kd->N.bl l ∈ L.kb d/\l < nl
theorem KdOk.turn {L:Pol} {kd:KD} {N N':NM} {st st':St U} (h:KdOk L kd N st.nl) (t:Turn N st N' st'):KdOk L kd N' st'.nl:=
 ⟨h.kl,fun d b hb=>let ⟨u,l,h1,h2⟩:=h.kb d b hb; ⟨u,l,h1,(t.ext.bl l (h.kb2 d u l h1).2).trans h2⟩,fun d u l hm=>let ⟨h1,h2⟩:=h.kb2 d u l hm; ⟨by rw [t.ext.bl l h2]; exact h1,Nat.lt_of_lt_of_le h2 t.nl⟩⟩
theorem ldD_ok {L:Pol} {kd:KD} {st:St U} {e:En U} {E:Env} (hk:KdOk L kd N st.nl) (he:ESim C N st e E) {x:Operand} (h:ldD kd x e=true):ldK L x (E.ev x):=by
 cases x with
 | tmp u=>
  intro p hp hu b o hv;subst hu;obtain ⟨l,hl⟩:=hk.kl p hp;have h1:=List.all_eq_true.1 h _ hl;have hb:Nat.beq p.2 p.2=true:=by simp
  simp only [hb,Bool.not_true,Bool.false_or] at h1;have h2:=(he p.2).1;have h3:=hk.kb2 p.1 p.2 l hl;change E.get p.2=_ at hv;split at h1
  . rename_i l' o' hq;have:l' = l:=by simpa using h1
    subst this;rw [hq] at h2;have:=h2.get (by simp);rw [hv] at this;simp only [trT] at this;injection this with this
    injection this with this
    injection this with this
    injection this with e1 _ _
    rw [e1]; exact h3.1
  . rename_i y hq;rw [hq] at h2;have:=h2.get (by simp);rw [hv] at this;simp [trT] at this
  . cases h1
 | _=>trivial
theorem stD_ok {L:Pol} {kd:KD} {st:St U} {s:S} {e:En U} {E:Env} (hk:KdOk L kd N st.nl) (hs:SSim C N st s) (he:ESim C N st e E) {x:Operand} (h:stD kd x e st=true):stK L x (E.ev x):=by
 cases x with
 | tmp a=>
  intro b o hv hb;obtain ⟨u,l2,hm,he2⟩:=hk.kb _ b hb;have h1:=List.all_eq_true.1 h _ hm;have hbq:Nat.beq (1000000+a) (1000000+a)=true:=by simp
  simp only [hbq,Bool.not_true,Bool.false_or] at h1;have h2:=(he a).1;change E.get a=_ at hv;split at h1
  . rename_i l o' hq;simp only [Bool.and_eq_true,Bool.not_eq_true'] at h1;rw [hq] at h2;have:=h2.get (by simp);rw [hv] at this;simp only [trT] at this;injection this with this
    injection this with this
    injection this with this
    injection this with e1 _ _
    have live:∀ j,zKc st j=true->∃ bx,lk st.bx j=some bx:=fun j hj=>by
     unfold zKc at hj;split at hj
     . rename_i bx hb; exact ⟨bx,hb⟩
     . cases hj
    obtain ⟨b1,k1⟩:=live _ h1.1.2;obtain ⟨b2,k2⟩:=live _ h1.2;have:=hs.inj l l2 b1 b2 k1 k2 (e1.symm.trans he2.symm);subst this;simp at h1
  . cases h1
 | _=>trivial
theorem zTs {kd:KD} {d u l:Nat} (h:(d,u,l) ∈ kd):l ∈ ksD kd (some d):=List.mem_filterMap.2 ⟨_,h,by simp⟩
theorem zFB:∀ {e:En U} {E:Env} {st:St U} (_:ESim C N st e E) {l:List Operand},xt (evL e l)=true->l.map E.ev=(evL e l).map (trT C N)
 | _,_,_,_,[],_=>rfl
 | e,E,st,he,x::rest,h=>by
  simp only [evL,xt,Bool.and_eq_true] at h;simp only [evL,List.map_cons];have hne:evT e x≠.any:=fun e'=>by rw [e'] at h; simp [T.flat,yG,T.isOne] at h
  rw [(he.ev x).get hne,zFB he h.2]
theorem zHS {x:T U} {r:List (T U)} (h:zDD (x::r)=true):(∃ l o,x = .ptr l o)/\zDD r=true:=by
 cases x with
 | ptr l o=>exact ⟨⟨l,o,rfl⟩,h⟩
 | _=>cases h
theorem zKk:∀ {l:List (T U)},zDD l=true->xt l=true
 | [],_=>rfl
 | x::r,h=>by
  obtain ⟨⟨l,o,rfl⟩,h2⟩:=zHS h;simp only [xt,Bool.and_eq_true];exact ⟨rfl,zKk h2⟩
theorem zHp:∀ {as caps:List (T U)},xt as=true->xt caps=true->xt (as++caps)=true
 | [],_,_,h=>h
 | x::r,caps,h1,h2=>by
  simp only [xt,List.cons_append,Bool.and_eq_true] at h1 ⊢;exact ⟨h1.1,zHp h1.2 h2⟩
theorem zM9 {as caps:List (T U)} (h1:xt as=true) (h2:zDD caps=true):xt (as++caps)=true:=zHp h1 (zKk h2)
theorem zJv:∀ {l:List (T U)},zDD l=true->zH (l.map (trT C N))
 | [],_=>rfl
 | x::r,h=>by
  obtain ⟨⟨l,o,rfl⟩,h2⟩:=zHS h;have:=zJv h2;unfold zH at this ⊢;simp only [List.map_cons,List.all_cons,this,Bool.and_true];rfl
theorem zKm {e:En U} {E:Env} {st:St U} (he:ESim C N st e E) (l:List (Nat×Operand)):PR C N (evP e l) (l.map fun p=>(p.1,E.ev p.2)):=by
 have e1:∀ l:List (Nat×Operand),evP e l=l.map fun p=>(p.1,evT e p.2):=fun l=>by
  induction l with
  | nil=>rfl
  | cons a r ih=>simp [evP,ih]
 rw [e1];refine ⟨by simp,fun j x v h1 h2=>?_⟩;rw [List.getElem?_map] at h1 h2;cases hq:l[j]? with
 | none=>rw [hq] at h1; cases h1
 | some p=>
  rw [hq] at h1 h2;injection h1 with h1
  injection h2 with h2
  subst h1; subst h2;exact he.ev p.2
theorem zQO {e:En U} {E:Env} {st:St U} (he:ESim C N st e E) (x:Option Operand):OR C N (evO e x) (x.map E.ev):=by
 cases x with
 | none=>trivial
 | some x=>exact he.ev x
theorem zRD (hT:TbOk C P Tb) (hC:CodOk C) {st:St U} {s:S} (hs:SSim C N st s) {t:TypeId} {x:T U} {xv:V} {K:S->Prop} {k:St U->Option R} (hx:VR C N x xv) (h:zKy Tb st t x k=some r)
 (hK:∀ st' s',k st' = some r->Turn N st N st'->SSim C N st' s'->K s'):zEC P s t xv K:=by
 unfold zKy at h;split at h
 . rename_i l a n;split at h
   . rename_i j xs hl;obtain ⟨i,el,hh,h1,h2,h3,h4⟩:=zAq hT h;clear h;obtain ⟨h5,h6⟩:=zJ hh;clear hh;simp only [Bool.and_eq_true,decide_eq_true_eq,Nat.ble_eq] at h5;obtain ⟨⟨h5,h7⟩,h8⟩:=h5;subst h5;have hw:=hs.wf l _ hl;rw [hx.get (by simp)];have hz:=h2.zero N;cases hz0:(Tb el).zero with
     | none=>rw [hz0] at h7; cases h7
     | some z=>
      rw [hz0] at h7 hz;simp only [Nat.beq_eq] at h7;simp only [Option.map_some] at hz;simp only [trT,zEC,h1,hs.box l _ hl,trB,hz,List.length_map];have hlen:=xM hC j xs;have hzl:z.length=C.cells j:=by rw [h7,<- h2.cells,h3]
      have hcp:=hw.2;by_cases hn:n=0
      . subst hn;simp only [Nat.beq,cond_true] at h6;refine ⟨?_,?_,?_⟩
        . rw [hlen];split
          . exact Nat.zero_le _
          . rw [hw.1]; exact Nat.mul_le_mul_right _ (by omega)
        . rw [Nat.zero_mul,Nat.add_zero];split
          . exact Nat.zero_le _
          . rw [<- hw.1]; exact Nat.mul_le_mul_right _ (by omega)
        . rw [if_pos rfl];exact hK _ _ h6 ⟨.refl _ _ _,Nat.le_refl _,Nat.le_refl _⟩ hs
      . have hne:Nat.beq n 0=false:=by cases n with | zero=>exact absurd rfl hn | succ m=>rfl
        rw [hne] at h6;simp only [cond_false] at h6;have hca:N.cp l≠a:=by omega
        rw [if_neg hca,if_neg hn];refine ⟨?_,?_,?_⟩
        . rw [hlen,hw.1]; exact Nat.mul_le_mul_right _ (by omega)
        . rw [hzl,<- hw.1,<- Nat.add_mul]; exact Nat.mul_le_mul_right _ (by omega)
        . have hn2:=hs.setBox (b1:=.ar j (yY a xs)) hl ⟨hw.1,by unfold yY; rw [List.length_take]; omega⟩;simp only [trB] at hn2;rw [hw.1,jo hC j xs a];exact hK _ _ h6 ⟨.refl _ _ _,Nat.le_refl _,Nat.le_refl _⟩ hn2
   . cases h
 . cases h
theorem zFW (s k:List UInt8):((⟨s.toArray⟩:ByteArray) == ⟨k.toArray⟩)=seq s k:=by
 rw [beq_toListBytes];have h1:(⟨s.toArray⟩:ByteArray).toList=s:=y8 s;have h2:(⟨k.toArray⟩:ByteArray).toList=k:=y8 k;rw [h1,h2]; rfl
theorem zNN:∀ (m:MT) (s:List UInt8),(mget (trMC m) ⟨s.toArray⟩=none/\mpG m s=0)\/mget (trMC m) ⟨s.toArray⟩=some (.at (.int .i64 (mpG m s)))
 | [],_=>.inl ⟨rfl,rfl⟩
 | (k,v)::r,s=>by
  have e:mget (trMC ((k,v)::r)) ⟨s.toArray⟩=if ((⟨s.toArray⟩:ByteArray) == ⟨k.toArray⟩)=true then some (.at (.int .i64 v)) else mget (trMC r) ⟨s.toArray⟩:=rfl
  rw [e,zFW];unfold mpG;cases seq s k
  . exact zNN r s
  . exact .inr rfl
theorem zNi:∀ (m:MT) (s:List UInt8) (z:Int),mput (trMC m) ⟨s.toArray⟩ (.at (.int .i64 z))=trMC (mpP m s z)
 | [],_,_=>rfl
 | (k,v)::r,s,z=>by
  have e:mput (trMC ((k,v)::r)) ⟨s.toArray⟩ (.at (.int .i64 z))=if ((⟨s.toArray⟩:ByteArray) == ⟨k.toArray⟩)=true then (⟨s.toArray⟩,.at (.int .i64 z))::trMC r else (⟨k.toArray⟩,.at (.int .i64 v))::mput (trMC r) ⟨s.toArray⟩ (.at (.int .i64 z)):=rfl
  have e2:mpP ((k,v)::r) s z=cond (seq s k) ((s,z)::r) ((k,v)::mpP r s z):=rfl;rw [e,zFW,zNi r s z,e2];cases seq s k <;> rfl
theorem zI1 (C:Cod U) (i:U.I):∀ (m:List (List UInt8×U.den i)) (s:List UInt8),(mget (m.map fun p=>(⟨p.1.toArray⟩,C.encV i p.2)) ⟨s.toArray⟩=none/\mcH m s=false/\mcV (C.dflt i) m s=C.dflt i)\/(mget (m.map fun p=>(⟨p.1.toArray⟩,C.encV i p.2)) ⟨s.toArray⟩=some (C.encV i (mcV (C.dflt i) m s))/\mcH m s=true)
 | [],_=>.inl ⟨rfl,rfl,rfl⟩
 | (k,v)::r,s=>by
  have e:mget (((k,v)::r).map fun p=>(⟨p.1.toArray⟩,C.encV i p.2)) ⟨s.toArray⟩=if ((⟨s.toArray⟩:ByteArray) == ⟨k.toArray⟩)=true then some (C.encV i v) else mget (r.map fun p=>(⟨p.1.toArray⟩,C.encV i p.2)) ⟨s.toArray⟩:=rfl
  rw [e,zFW];unfold mcV mcH;cases seq s k
  . exact zI1 C i r s
  . exact .inr ⟨rfl,rfl⟩
theorem zNn (C:Cod U) (i:U.I):∀ (m:List (List UInt8×U.den i)) (s:List UInt8) (z:U.den i),mput (m.map fun p=>(⟨p.1.toArray⟩,C.encV i p.2)) ⟨s.toArray⟩ (C.encV i z)=(mcP m s z).map fun p=>(⟨p.1.toArray⟩,C.encV i p.2)
 | [],_,_=>rfl
 | (k,v)::r,s,z=>by
  have e:mput (((k,v)::r).map fun p=>(⟨p.1.toArray⟩,C.encV i p.2)) ⟨s.toArray⟩ (C.encV i z)=if ((⟨s.toArray⟩:ByteArray) == ⟨k.toArray⟩)=true then (⟨s.toArray⟩,C.encV i z)::(r.map fun p=>(⟨p.1.toArray⟩,C.encV i p.2)) else (⟨k.toArray⟩,C.encV i v)::mput (r.map fun p=>(⟨p.1.toArray⟩,C.encV i p.2)) ⟨s.toArray⟩ (C.encV i z):=rfl
  have e2:mcP ((k,v)::r) s z=cond (seq s k) ((s,z)::r) ((k,v)::mcP r s z):=rfl;rw [e,zFW,zNn C i r s z,e2];cases seq s k <;> rfl
theorem zK4 (x:V):(zn x).isOne=x.isOne:=by
 cases x with
 | lst tg es=>cases tg <;> rfl
 | _=>rfl
theorem zPU (x:V):zH x.untag.flat->zH x.flat:=by
 intro h;cases x with
 | agg fs=>
  unfold zH at h ⊢;simp only [V.untag,V.flat] at h ⊢;rw [List.all_map] at h;have:(V.isOne ∘ zn)=V.isOne:=funext zK4
  rwa [this] at h
 | lst tg es=>cases tg <;> exact h
 | _=>exact h
theorem zPR (hT:TbOk C P Tb) (hC:CodOk C) {st:St U} {s:S} (hs:SSim C N st s) {t:TypeId} {x i:T U} {xv iv:V} {c:Bool} {K:V->Prop} {k:T U->Option R} (hx:VR C N x xv) (hi:VR C N i iv) (h:zIl C Tb st t x i c k=some r)
 (hK:∀ v,k v=some r->K (trT C N v)):qt P s t xv iv c K:=by
 unfold zIl at h;split at h
 . rename_i l;split at h
   . rename_i sx;split at h
     . rename_i o hl;split at h
       . rename_i m;obtain ⟨h1,h2⟩:=zJ h;simp only [Bool.and_eq_true,Bool.not_eq_true'] at h1;obtain ⟨⟨h3,h4⟩,rfl⟩:=h1;obtain ⟨e,q1,q2⟩:=(hT t h4).mpi h3;have hw:=hs.ob.wf l _ hl;obtain ⟨fp,h5⟩:=hs.ob.look l _ hl;simp only [wfO] at hw;simp only [trO] at h5;have h6:=hK _ h2;rw [hx.get (by simp),hi.get (by simp)];simp only [trT,if_neg hw,qt,q1,q2,h5];refine ⟨rfl,?_⟩;rcases zNN m sx with ⟨h7,h8⟩ | h7
         . rw [h7];rw [h8] at h6;exact h6
         . rw [h7];exact h6
       . rename_i j es;split at h
         case h_2=>cases h
         rename_i i hmi;obtain ⟨h1,h2⟩:=zJ h;simp only [Bool.and_eq_true,decide_eq_true_eq] at h1;obtain ⟨rfl,h4⟩:=h1;obtain ⟨e,z,q1,q2,q3,q4⟩:=(hT t h4).mci i hmi;have hw:=hs.ob.wf l _ hl;obtain ⟨fp,h5⟩:=hs.ob.look l _ hl;simp only [wfO] at hw;simp only [trO] at h5;rw [hx.get (by simp),hi.get (by simp)];simp only [trT,if_neg hw,qt,q1,q2,h5];refine ⟨q3,?_⟩;rw [q4];cases c with
         | true=>
          rw [cond_true,zBh] at h2;have h6:=hK _ h2;simp only [trT,trTs,hC.enc] at h6;rcases zI1 C i es sx with ⟨h7,h8,h9⟩ | ⟨h7,h8⟩
          . rw [h7];rw [h8,h9] at h6;exact h6
          . rw [h7];rw [h8] at h6;exact h6
         | false=>
          rw [cond_false,zBh] at h2;have h6:=hK _ h2;rw [hC.enc] at h6;rcases zI1 C i es sx with ⟨h7,h8,h9⟩ | ⟨h7,h8⟩
          . rw [h7];rw [h9] at h6;exact h6
          . rw [h7];exact h6
       . cases h
       . cases h
       . cases h
     . cases h
   . cases h
 . cases h
theorem OSim.reMp {ob:List (Nat×Option (TO U))} {nl:Nat} {sob:List (Nat×OV×List Nat)} (h:OSim C N ob nl sob) {l:Nat} {m m':MT} (hl:lko ob l=some (.mp m)) {fp:List Nat}:OSim C N ((l,some (.mp m'))::ob) nl ((N.bl l,.mp (trMC m'),fp)::sob):=by
 have key:∀ {j o},lko ((l,some (.mp m'))::ob) j=some o->(j=l/\o = .mp m')\/(j≠l/\lko ob j=some o):=fun {j o} hj=>by
  rw [qf] at hj;split at hj
  . rename_i e; injection hj with hj; exact .inl ⟨e.symm,hj.symm⟩
  . rename_i e; exact .inr ⟨fun e'=>e e'.symm,hj⟩
 refine ⟨fun j o hj=>?_,fun j o hj=>?_,fun j o hj=>?_,fun j j' o o' h1 h2 he=>?_⟩
 . rcases key hj with ⟨rfl,rfl⟩ | ⟨e,hj⟩
   . exact ⟨fp,by rw [zl,if_pos rfl]; rfl⟩
   . obtain ⟨fp',h2⟩:=h.look j o hj;exact ⟨fp',by rw [zl,if_neg (fun e2=>e (h.inj l j _ _ hl hj e2).symm)]; exact h2⟩
 . rcases key hj with ⟨rfl,rfl⟩ | ⟨e,hj⟩
   . exact h.lt _ _ hl
   . exact h.lt j o hj
 . rcases key hj with ⟨rfl,rfl⟩ | ⟨e,hj⟩
   . exact (h.wf _ _ hl:N.cp _≠0)
   . exact h.wf j o hj
 . rcases key h1 with ⟨rfl,rfl⟩ | ⟨_,p1⟩ <;> rcases key h2 with ⟨rfl,rfl⟩ | ⟨_,p2⟩
   . rfl
   . exact h.inj _ _ _ _ hl p2 he
   . exact h.inj _ _ _ _ p1 hl he
   . exact h.inj _ _ _ _ p1 p2 he
theorem OSim.reMc {ob:List (Nat×Option (TO U))} {nl:Nat} {sob:List (Nat×OV×List Nat)} (h:OSim C N ob nl sob) {l:Nat} {i:U.I} {m m':List (List UInt8×U.den i)} (hl:lko ob l=some (.mc i m)) {fp:List Nat}:OSim C N ((l,some (.mc i m'))::ob) nl ((N.bl l,.mp (m'.map fun p=>(⟨p.1.toArray⟩,C.encV i p.2)),fp)::sob):=by
 have key:∀ {j o},lko ((l,some (.mc i m'))::ob) j=some o->(j=l/\o = .mc i m')\/(j≠l/\lko ob j=some o):=fun {j o} hj=>by
  rw [qf] at hj;split at hj
  . rename_i e; injection hj with hj; exact .inl ⟨e.symm,hj.symm⟩
  . rename_i e; exact .inr ⟨fun e'=>e e'.symm,hj⟩
 refine ⟨fun j o hj=>?_,fun j o hj=>?_,fun j o hj=>?_,fun j j' o o' h1 h2 he=>?_⟩
 . rcases key hj with ⟨rfl,rfl⟩ | ⟨e,hj⟩
   . exact ⟨fp,by rw [zl,if_pos rfl]; rfl⟩
   . obtain ⟨fp',h2⟩:=h.look j o hj;exact ⟨fp',by rw [zl,if_neg (fun e2=>e (h.inj l j _ _ hl hj e2).symm)]; exact h2⟩
 . rcases key hj with ⟨rfl,rfl⟩ | ⟨e,hj⟩
   . exact h.lt _ _ hl
   . exact h.lt j o hj
 . rcases key hj with ⟨rfl,rfl⟩ | ⟨e,hj⟩
   . exact (h.wf _ _ hl:N.cp _≠0)
   . exact h.wf j o hj
 . rcases key h1 with ⟨rfl,rfl⟩ | ⟨_,p1⟩ <;> rcases key h2 with ⟨rfl,rfl⟩ | ⟨_,p2⟩
   . rfl
   . exact h.inj _ _ _ _ hl p2 he
   . exact h.inj _ _ _ _ p1 hl he
   . exact h.inj _ _ _ _ p1 p2 he
theorem zSJ (hT:TbOk C P Tb) (hC:CodOk C) {st:St U} {s:S} (hs:SSim C N st s) {t:TypeId} {x i y:T U} {xv iv yv:V} {K:S->Prop} {k:St U->Option R} (hx:VR C N x xv) (hi:VR C N i iv) (hy:VR C N y yv) (h:zPH C Tb st t x i y k=some r)
 (hK:∀ st' s',k st' = some r->Turn N st N st'->SSim C N st' s'->K s'):xl P s t xv iv yv K:=by
 unfold zPH at h;split at h
 . rename_i l;split at h
   . rename_i sx;split at h
     . rename_i o hl;split at h
       . rename_i m;split at h
         case h_2=>cases h
         rename_i kk z;obtain ⟨h1,h2⟩:=zJ h;simp only [Bool.and_eq_true,decide_eq_true_eq] at h1;obtain ⟨⟨h3,h4⟩,rfl⟩:=h1;obtain ⟨e,q1,q2⟩:=(hT t h4).mpi h3;have hw:=hs.ob.wf l _ hl;obtain ⟨fp,h5⟩:=hs.ob.look l _ hl;simp only [wfO] at hw;simp only [trO] at h5;rw [hx.get (by simp),hi.get (by simp),hy.get (by simp)];simp only [trT,if_neg hw,xl,q1,h5];refine ⟨rfl,hK _ _ h2 ⟨.refl _ _ _,Nat.le_refl _,Nat.le_refl _⟩ ?_⟩;rw [show (V.at (.int .i64 z)).untag = .at (.int .i64 z) from rfl,zNi];exact ⟨hs.box,hs.lt,hs.wf,hs.inj,hs.tgIn,hs.tgInj,hs.tgLt,hs.nm,hs.ob.reMp hl⟩
       . rename_i j es;split at h
         case h_2=>cases h
         rename_i i hmi;obtain ⟨h1,h2⟩:=zJ h;simp only [Bool.and_eq_true,decide_eq_true_eq] at h1;obtain ⟨rfl,h4⟩:=h1;obtain ⟨v,h6,h7⟩:=hC.dec i y _ r h2;obtain ⟨e,z,q1,_,_,_⟩:=(hT t h4).mci i hmi;have hw:=hs.ob.wf l _ hl;obtain ⟨fp,h5⟩:=hs.ob.look l _ hl;simp only [wfO] at hw;simp only [trO] at h5;have hone:zH (trT C N y).flat:=zPU _ (by rw [h7 N]; exact hC.ones i v);have hyv:yv=trT C N y:=hy.get (fun e=>by
          subst e;have:=h7 N;have h8:=hC.ones i v;rw [<- this] at h8;simp [trT,V.untag,zn,V.flat,zH,V.isOne] at h8)
         rw [hx.get (by simp),hi.get (by simp),hyv];simp only [trT,if_neg hw,xl,q1,h5];refine ⟨hone,hK _ _ h6 ⟨.refl _ _ _,Nat.le_refl _,Nat.le_refl _⟩ ?_⟩;rw [h7 N,zNn];exact ⟨hs.box,hs.lt,hs.wf,hs.inj,hs.tgIn,hs.tgInj,hs.tgLt,hs.nm,hs.ob.reMc hl⟩
       . cases h
       . cases h
       . cases h
     . cases h
   . cases h
 . cases h
theorem dop_ok (hT:TbOk C P Tb) (hC:CodOk C) {L:Pol} {call:Call U R} {PP:List PanicEntry->Prop} (hcall:zD0 C P L call r PP) {st:St U} {s:S} {e:En U} {E:Env} (hs:SSim C N st s) (he:ESim C N st e E) {o:Oper} {K:V->S->Prop} {KP:List PanicEntry->S->Prop} {k:T U->St U->Option R}
 {kd:KD} (hkd:KdOk L kd N st.nl) (h:dop C Tb call L.wr L.own kd e st o k=some r) (hKP:∀ c s,PP c->KP c s) (hK:Kok C N st K k r):aop P L E s o K KP:=by
 have pure:∀ v,k v st=some r->K (trT C N v) s:=fun v hv=>hK _ _ _ _ _ hv (Turn.refl N st) hs (.inr rfl);obtain ⟨dst,op,ty,pos,af,gd⟩:=o;cases op <;> simp only [dop] at h <;> simp only [aop]
 case move x=>exact hK _ _ _ _ _ h (Turn.refl N st) hs (he.ev x)
 case assign x=>exact hK _ _ _ _ _ h (Turn.refl N st) hs (he.ev x)
 case pick c a b=>exact zRv (he.ev c) (he.ev a) (he.ev b) h fun v v' hv hr=>hK _ _ _ _ _ hv (Turn.refl N st) hs hr
 case alloc t=>
  unfold zQT at h;obtain ⟨h1,h2⟩:=zJ h;split at h2
  . rename_i cs hcs;unfold jZ;rw [(hT t h1).zero N,hcs];exact zNY hs rfl h2 hK
  . cases h2
 case box t x=>
  rw [zAy] at h;have hne:evT e x≠.any:=fun e'=>by
   rw [e'] at h;simp [dNew,T.flat,yG,T.isOne] at h
  rw [(he.ev x).get hne,xu];exact zNY hs rfl h hK
 case build t parts=>
  rw [zKq] at h;exact zRZ hT (zKm he _).1 (zKm he _).2 h pure
 case buildSlice t n parts=>
  rw [zKq] at h;exact zJG hT hC hs (zKm he _) h hK
 case load t x=>
  obtain ⟨h0,h1⟩:=zJ h;exact ⟨ldD_ok hkd he h0,zGu hT hC hs (he.ev x) h1 pure⟩
 case store t x y=>
  obtain ⟨h0,h⟩:=zJ h;exact ⟨stD_ok hkd hs he h0,zRA hT hC hs (he.ev x) (he.ev y) h fun st' s' h1 h2 h3=>hK _ _ _ _ _ h1 h2 h3 (.inl rfl)⟩
 case nilCheck x=>exact zL2 (he.ev x) h pure
 case binOp op t x y t2=>exact zTW hT (he.ev x) (he.ev y) h pure
 case unOp op t x=>exact dUn_ok (he.ev x) h pure
 case convert f t x=>exact zRx hT hC (he.ev x) h pure
 case slice t x lo hi mx=>
  cases mx with
  | some _=>cases h
  | none=>exact ⟨rfl,zQf hT hC hs (he.ev x) (zQO he lo) (zQO he hi) h pure⟩
 case fieldAddr t x f=>exact zKN hT (he.ev x) h pure
 case indexAddr t x i=>exact zKF hT hC hs (he.ev x) (he.ev i) h pure
 case index t x i=>exact zRd hT hC (he.ev x) (he.ev i) h pure
 case extract x i=>exact zMp (he.ev x) h pure
 case lookup t x i c=>exact zPR hT hC hs (he.ev x) (he.ev i) h pure
 case mapUpdate t x i y=>exact zSJ hT hC hs (he.ev x) (he.ev i) (he.ev y) h fun st' s' h1 h2 h3=>hK _ _ _ _ _ h1 h2 h3 (.inl rfl)
 case makeMap ty n=>
  cases n with
  | some _=>cases h
  | none=>
   refine ⟨rfl,fun b hb=>?_⟩;have hext:=N.ext_loc st.nl st.nx b 1 0;have hbn:(N.loc st.nl b 1 0).bl st.nl=b:=if_pos rfl;have hcn:(N.loc st.nl b 1 0).cp st.nl=1:=if_pos rfl;have key:∀ o:TO U,wfO (N.loc st.nl b 1 0) st.nl o->OV.mp []=trO C (N.loc st.nl b 1 0) st.nl o->k (.hd st.nl) ⟨st.bx,st.tg,st.nl+1,st.nx,(st.nl,some o)::st.ob⟩=some r->K (.at (.map (some b))) ⟨s.box,s.tg,s.nx,(b,.mp [],[b])::s.ob⟩:=fun o hwo htr h=>
    hK (N.loc st.nl b 1 0) ⟨st.bx,st.tg,st.nl+1,st.nx,(st.nl,some o)::st.ob⟩ ⟨s.box,s.tg,s.nx,(b,.mp [],[b])::s.ob⟩ (.hd st.nl) (.at (.map (some b))) h ⟨hext,Nat.le_succ _,Nat.le_refl _⟩
     ⟨fun l bx hl=>by rw [hext.bl l (hs.lt l bx hl),zCh hs hext (Nat.le_refl _) (Nat.le_refl _) hl]; exact hs.box l bx hl,fun l bx hl=>Nat.lt_succ_of_lt (hs.lt l bx hl),fun l bx hl=>zCd hext (Nat.le_succ _) (Nat.le_refl _) (hs.lt l bx hl) (hs.wf l bx hl),
      fun l l' b1 b2 h1 h2 he=>by rw [hext.bl l (hs.lt l b1 h1),hext.bl l' (hs.lt l' b2 h2)] at he; exact hs.inj l l' b1 b2 h1 h2 he,hs.tgIn,hs.tgInj,hs.tgLt,hs.nm,hs.ob.new hext hbn hwo hb htr⟩ (.inr (by simp only [trT,hbn,hcn]; rfl))
   dsimp only at h;cases hmc:(Tb ty).mci with
   | none=>
    rw [hmc] at h;exact key (.mp []) (by simp only [wfO,hcn]; decide) rfl h
   | some i=>
    rw [hmc] at h;exact key (.mc i []) (by simp only [wfO,hcn]; decide) rfl h
 case call c=>
  obtain ⟨callee,args,ts⟩:=c;cases callee with
  | invoke x m=>cases h
  | value f=>
   simp only [zBn] at h ⊢;unfold dCall at h;split at h
   . rename_i fn caps hf;split at h
     . rename_i n;have hev:=he.ev f;rw [hf] at hev;rw [hev.get (by simp)];have hkl:∀ b ∈ klb L dst,∃ l ∈ ksD kd dst,N.bl l=b:=fun b hb=>by
        cases dst with
        | none=>cases hb
        | some d=>
         obtain ⟨u,l,q1,q2⟩:=hkd.kb d b hb;exact ⟨l,zTs q1,q2⟩
       split at h
       . obtain ⟨h1,h2⟩:=zJ h;simp only [Bool.and_eq_true] at h1;obtain ⟨⟨h3,h4⟩,h5⟩:=h1;rw [zFB he h3];exact (hcall _ _ _ _ _ _ _ hs h4 h3 h2 K KP _ hkl hK hKP).1 (yT h5)
       . rename_i c cs;obtain ⟨h1,h2⟩:=zJ h;simp only [Bool.and_eq_true] at h1;obtain ⟨⟨h5,h3⟩,h4⟩:=h1;rw [zFB he h3];have h6:=(hcall _ _ _ _ _ _ _ hs h4 (zM9 h3 h5) h2 K KP _ hkl hK hKP).2.2 n rfl _ _ rfl h3 h5;rw [show trT C N (.clo (.func n) (c::cs)) = .clo (.func n) ((c::cs).map (trT C N)) by simp only [trT,yX]];exact h6
     . cases h
   . cases h
  | builtin b=>
   simp only [zBn] at h ⊢;have e1:∀ l:List Operand,evL e l=l.map (evT e):=fun l=>by
    induction l with
    | nil=>rfl
    | cons a r ih=>simp [evL,ih]
   rw [e1] at h;unfold zL9 at h;cases b <;> simp only at h <;> try (cases h; done)
   case len=>
    split at h
    . rename_i t _ hts;split at h
      . rename_i x hx;cases hl:args.toList with
        | nil=>rw [hl] at hx; cases hx
        | cons a l2=>
         cases l2 with
         | cons _ _=>rw [hl] at hx; simp at hx
         | nil=>
          rw [hl] at hx;simp only [List.map_cons,List.map_nil,List.cons.injEq,and_true] at hx;subst hx;simp only [jd,hts,List.map_cons,List.map_nil];exact zUb hT (he.ev a) h pure
      . cases h
    . cases h
   case append=>
    split at h
    . rename_i t t2 hts;split at h
      . rename_i x y hx;cases hl:args.toList with
        | nil=>rw [hl] at hx; cases hx
        | cons a l2=>
         cases l2 with
         | nil=>rw [hl] at hx; simp at hx
         | cons b l3=>
          cases l3 with
          | cons _ _=>rw [hl] at hx; simp at hx
          | nil=>
           rw [hl] at hx;simp only [List.map_cons,List.map_nil,List.cons.injEq,and_true] at hx;obtain ⟨rfl,rfl⟩:=hx;simp only [jd,hts,List.map_cons,List.map_nil];exact zPI hT hC hs (he.ev a) (he.ev b) h hK
      . cases h
    . cases h
   case clear=>
    split at h
    . rename_i t _ hts;split at h
      . rename_i x hx;cases hl:args.toList with
        | nil=>rw [hl] at hx; cases hx
        | cons a l2=>
         cases l2 with
         | cons _ _=>rw [hl] at hx; simp at hx
         | nil=>
          rw [hl] at hx;simp only [List.map_cons,List.map_nil,List.cons.injEq,and_true] at hx;subst hx;simp only [jd,hts,List.map_cons,List.map_nil];exact zRD hT hC hs (he.ev a) h fun st' s' h1 h2 h3=>hK _ _ _ _ _ h1 h2 h3 (.inr rfl)
      . cases h
    . cases h
 all_goals cases h
def dstL:List Oper->List Nat
 | []=>[]
 | o::r=>(match o.dst with | some d=>d::dstL r | none=>dstL r)
def FrX (ds:List Nat) (e e':En U):Prop:=∀ j,j ∉ ds->eget e' j=eget e j
def Kok2 (C:Cod U) (N:NM) (st:St U) (e:En U) (ds:List Nat) (K:Env->S->Prop) (k:En U->St U->Option R) (r:R):Prop:=
 ∀ N' e' st' E' s',k e' st' = some r->Turn N st N' st'->SSim C N' st' s'->ESim C N' st' e' E'->FrX ds e e'->K E' s'
theorem FrX.put (e:En U) (o:Oper) (v:T U):FrX (dstL [o]) e (eput e o.dst v):=fun j hj=>by
 cases hd:o.dst with
 | none=>rfl
 | some d=>
  have:d≠j:=fun e=>by subst e; apply hj; simp [dstL,hd]
  simp [eput,eget,ym this]
theorem zLX (hT:TbOk C P Tb) (hC:CodOk C) {L:Pol} {call:Call U R} {PP:List PanicEntry->Prop} (hcall:zD0 C P L call r PP) {st:St U} {s:S} {e:En U} {E:Env} (hs:SSim C N st s) (he:ESim C N st e E) {o:Oper} {K:Env->S->Prop} {KP:List PanicEntry->S->Prop} {k:En U->St U->Option R}
 {kd:KD} (hkd:KdOk L kd N st.nl) (h:zHg C Tb call L.wr L.own kd e st o k=some r) (hKP:∀ c s,PP c->KP c s) (hK:Kok2 C N st e (dstL [o]) K k r):aop P L E s o (fun v s'=>K (E.putO o.dst v) s') KP:=by
 unfold zHg at h;refine dop_ok hT hC hcall hs he hkd h hKP ?_;intro N' st' s' v v' h1 h2 h3 h4;simp only [zBh,yy,zGz] at h1;obtain ⟨h5,h6⟩:=zJ h1;exact hK _ _ _ _ _ h6 h2 h3 ((he.turn h2).put h4 h5 o.dst) (FrX.put e o v)
theorem zSk (hT:TbOk C P Tb) (hC:CodOk C) {L:Pol} {call:Call U R} {PP:List PanicEntry->Prop} (hcall:zD0 C P L call r PP) {st:St U} {s:S} {e:En U} {E:Env} (hs:SSim C N st s) (he:ESim C N st e E) {ds:List (Option Nat)} {o:Oper} {K:Env->S->Prop} {KP:List PanicEntry->S->Prop} {k:En U->St U->Option R}
 {kd:KD} (hkd:KdOk L kd N st.nl) (h:zPW C Tb call L.wr L.own kd ds o e st k=some r) (hKP:∀ c s,PP c->KP c s) (hK:Kok2 C N st e (dstL [o]) K k r):zi P L ds KP o K E s:=by
 unfold zPW at h;unfold zi qq;split at h
 . rename_i hg;rw [hg];simp only [if_true];exact zLX hT hC hcall hs he hkd h hKP hK
 . rename_i g hg;rw [hg];obtain ⟨j,b⟩:=g;simp only at h ⊢;split at h
   . cases h
   . rename_i d hd;rw [hd];simp only;split at h
     . rename_i t ht;have h1:=(he d).1;rw [ht] at h1;rw [h1.get (by simp)];simp only [trT];have he':ESim C N st (eput e (some d) (.bool t)) E:=fun j=>by
        simp only [eput,eget];by_cases hj:d=j
        . subst hj;have:Nat.beq d d=true:=by simp
          simp only [this,cond_true];rw [<- ht]; exact he d
        . simp only [ym hj,cond_false]; exact he j
       have hfr:FrX [] e (eput e (some d) (.bool t)):=fun j _=>by
        simp only [eput,eget];by_cases hj:d=j
        . subst hj;have:Nat.beq d d=true:=by simp
          simp only [this,cond_true];exact ht.symm
        . simp only [ym hj,cond_false]
       have hK':Kok2 C N st (eput e (some d) (.bool t)) (dstL [o]) K k r:=fun N' e' st' E' s' q1 q2 q3 q4 q5=>hK N' e' st' E' s' q1 q2 q3 q4 fun j hj=>(q5 j hj).trans (hfr j (by simp));have hskip:k (eput (eput e (some d) (.bool t)) o.dst (.tup [])) st=some r->K (E.putO o.dst (.tup [])) s:=fun hh=>hK' _ _ _ _ _ hh (Turn.refl N st) hs (he'.put (.inr rfl) rfl o.dst) (FrX.put _ o (.tup []));simp only [zGz] at h;cases b <;> cases t <;> simp only [cond_true,cond_false] at h <;> first | exact zLX hT hC hcall hs he' hkd h hKP hK' | exact hskip h
     . rename_i vs ht;split at h
       . have h1:=(he d).1;rw [ht] at h1;rw [h1.get (by simp)];simp only [zGz] at h;exact hK _ _ _ _ _ h (Turn.refl N st) hs (he.put (.inr rfl) rfl o.dst) (FrX.put e o (.tup []))
       . cases h
     . cases h
theorem zNx (hT:TbOk C P Tb) (hC:CodOk C) {L:Pol} {call:Call U R} {PP:List PanicEntry->Prop} (hcall:zD0 C P L call r PP) {ds:List (Option Nat)} {KP:List PanicEntry->S->Prop} (hKP:∀ c s,PP c->KP c s) {kd:KD}:∀ {l:List Oper} {N:NM} {st:St U} {s:S} {e:En U} {E:Env} {K:Env->S->Prop} {k:En U->St U->Option R},
 SSim C N st s->ESim C N st e E->KdOk L kd N st.nl->dops C Tb call L.wr L.own kd ds l e st k=some r->Kok2 C N st e (dstL l) K k r->AL P L ds KP l K E s
 | [],N,st,s,e,E,K,k,hs,he,_,h,hK=>hK _ _ _ _ _ h (Turn.refl N st) hs he (fun _ _=>rfl)
 | o::os,N,st,s,e,E,K,k,hs,he,hkd,h,hK=>by
  simp only [dops] at h;show zi P L ds KP o (AL P L ds KP os K) E s;refine zSk hT hC hcall hs he hkd h hKP ?_;intro N' e' st' E' s' h1 h2 h3 h4 h5;refine zNx hT hC hcall hKP h3 h4 (hkd.turn h2) h1 fun N2 e2 st2 E2 s2 q1 q2 q3 q4 q5=>hK _ _ _ _ _ q1 (h2.trans q2) q3 q4 fun j hj=>?_;rw [q5 j fun hh=>hj ?_,h5 j fun hh=>hj ?_]
  . cases hd:o.dst <;> simp only [dstL,hd] at hh ⊢ <;> simp at hh <;> simp [hh]
  . cases hd:o.dst <;> simp only [dstL,hd] <;> simp [hh]
end
end Go.Den
end
