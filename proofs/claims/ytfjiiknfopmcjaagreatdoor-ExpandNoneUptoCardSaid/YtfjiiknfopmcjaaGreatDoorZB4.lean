/-
  Part 4 of what the last text needs: library, runs, contracts, plain laws. No condition of its own.
-/
import Derived.Test.YtfjiiknfopmcjaaGreatDoorZB3
import Derived.WalkKit
import Derived.ProofKit
import Derived.OpenShut
import Derived.ShutString
import Derived.ChangeOld
import Derived.Below
import Derived.Carry
set_option linter.unusedVariables false
set_option linter.unusedSimpArgs false
set_option linter.unusedSectionVars false
section
namespace Go.Den
open Go.Al
def Gst (X:Cx) (E:Env) (s:S) (E':Env) (s':S):Prop:=∀ g a w,Rel X g E s a w->∃ g',Step X.B g w g' w/\Rel X g' E' s' a w
theorem Gst.refl (X:Cx) (E:Env) (s:S):Gst X E s E s:=fun g a w h=>⟨g,.refl _ _ _,h⟩
theorem Gst.trans {X:Cx} {E E1 E2:Env} {s s1 s2:S} (h:Gst X E s E1 s1) (h':Gst X E1 s1 E2 s2):Gst X E s E2 s2:=fun g a w hr=>by
 obtain ⟨g1,k1,k2⟩:=h g a w hr;obtain ⟨g2,k3,k4⟩:=h' g1 a w k2;exact ⟨g2,k1.trans k3,k4⟩
theorem zI2 {P:Program} {X:Cx} {Q:Exit->Env->S->Prop} {c:Code} {E E':Env} {s s':S} (hg:Gst X E s E' s') (h:awp P X c Q E' s'):awp P X c Q E s:=by
 intro g a w hr;obtain ⟨g1,k1,k2⟩:=hg g a w hr;refine wpIn_mono (h g1 a w k2) ?_;rintro ex a' w' ⟨g',e',st',q1,q2,q3⟩;exact ⟨g',e',st',k1.trans q1,q2,q3⟩
def Gs (s s':S):Prop:=∀ B g w,Inv B g s w->∃ g',Step B g w g' w/\Inv B g' s' w
theorem Gs.refl (s:S):Gs s s:=fun B g w h=>⟨g,.refl _ _ _,h⟩
theorem Gs.trans {s s1 s2:S} (h:Gs s s1) (h':Gs s1 s2):Gs s s2:=fun B g w hi=>by
 obtain ⟨g1,k1,k2⟩:=h B g w hi;obtain ⟨g2,k3,k4⟩:=h' B g1 w k2;exact ⟨g2,k1.trans k3,k4⟩
theorem Gs.gst {X:Cx} {E:Env} {s s':S} (h:Gs s s'):Gst X E s E s':=fun g a w hr=>by
 obtain ⟨g',k1,k2⟩:=h X.B g w hr.inv;exact ⟨g',k1,k2,fun i=>(hr.env i).later k1.later,hr.size,hr.df,hr.gl.below k1.below k1.later.wm⟩
theorem FnC_gs {P:Program} {f:FuncId} {as:List V} {Q:Outc->S->Prop} {s s':S} (hg:Gs s s') (h:FnC P f as s' Q):FnC P f as s Q:=by
 intro B g w vs hi hgl hv;obtain ⟨g',k1,k2⟩:=hg B g w hi;refine (h B g' w vs k2 (hgl.below (.refl _ _) k1.later.wm) (hv.later k1.later)).mono ?_;rintro e w' ⟨g2,s2,h1,h2,h3⟩;exact ⟨g2,s2,k1.trans h1,h2,h3⟩
theorem zRX {X:Cx} {E:Env} {s:S} (k sz:Nat) (h0:E.get k = .lst .nil []):Gst X E s (E.put k (.lst (.own s.nx true sz) [])) ⟨s.box,s.nx::s.tg,s.nx+1,s.ob⟩:=by
 intro g a w hr;obtain ⟨i2,l2⟩:=hr.inv.addTag rfl none (fun _ _ _ _ e=>by cases e);have h1:=hr.env k;rw [h0] at h1;have h2:=zFb h1;refine ⟨⟨g.wm,fun j=>if j=s.nx then some none else g.tb j,g.fr⟩,⟨l2,.refl _ _,fun _ _=>⟨rfl,rfl⟩,fun _ _=>rfl,rfl⟩,i2,fun j=>?_,hr.size,hr.df,hr.gl⟩;rw [Env.get_put];split
 . rename_i e1;subst e1;rw [h2];refine xU ?_;simp only [RC];exact .inl ⟨trivial,trivial,if_pos rfl,rfl⟩
 . exact (hr.env j).later l2
theorem zGo {X:Cx} {E:Env} {s:S} (t bb n cap sz:Nat) (es:List V) {css:List V} {kk:Nat} (ht:E.get t = .at (.slice (some ⟨bb,0,none⟩) n cap))
 (hb:Al.look s.box bb=some (css,kk)) (hn:es.length=n) (hcap:n<=cap) (hes:css.take (n * sz)=zX es) (hlen:n * sz<=css.length) (hsz:yo sz es) (h1:∀ x ∈ es,zH x.flat) (hu:es.map V.untag=es) :
 Gst X E s (E.put t (.lst .no es)) ⟨wipe s.box bb,s.tg,s.nx,s.ob⟩:=by
 intro g a w hr;have hi:=hr.inv;obtain ⟨p1,p2,p3,p4,arr,el,us,p5,p6,p7,p8⟩:=hi.box bb css kk hb;have hlt:bb < w.heap.size:=(Array.getElem?_eq_some_iff.1 p5).1;have hone:zH css:=by unfold zH; rw [List.all_eq_true]; exact p4
 have hul:=zy g w css us p7;rw [yK hone] at hul;have hla:Later g w ⟨fun i=>if i=bb then n * sz else g.wm i,g.tb,g.fr⟩ w:=⟨fun i=>by
  show g.wm i<=if i=bb then n * sz else g.wm i
  split
  . rename_i e1; subst e1; rw [p2]; exact Nat.zero_le _
  . exact Nat.le_refl _,fun _ _ e1=>e1,fun _ _ _=>rfl⟩
 have hs:Step X.B g w ⟨fun i=>if i=bb then n * sz else g.wm i,g.tb,g.fr⟩ w:=⟨hla,.refl _ _,fun i hi'=>⟨rfl,if_neg (fun e=>by subst e; rw [(hi.boxFr hb).1] at hi'; cases hi')⟩,fun i hi'=>if_neg (by omega),rfl⟩;have hi1:Inv X.B ⟨fun i=>if i=bb then n * sz else g.wm i,g.tb,g.fr⟩ ⟨wipe s.box bb,s.tg,s.nx,s.ob⟩ w:=by
  refine ⟨hi.base,?_,hi.tag,?_,hi.dist,hi.nodup,fun i hi'=>?_,hi.names,hi.ex.step hla (Nat.le_refl _) rfl rfl (fun b' o fp hl j hj=>⟨rfl,if_neg (fun e=>by subst e; exact (hi.boxFr hb).2 b' o fp hl hj)⟩) (fun j hj _=>by rw [yr]; split <;> first | rfl | exact hj) (fun j _ h=>h)⟩
  . intro b' cs' k' hl;simp only [yr] at hl;split at hl
    . cases hl
    . rename_i e1;obtain ⟨r1,r2,r3,r4,arr',el',us',r5,r6,r7,r8⟩:=hi.box b' cs' k' hl;exact ⟨r1,by show (if b' = bb then _ else g.wm b')=0; rw [if_neg (fun e2=>e1 e2.symm)]; exact r2,r3,r4,arr',el',us',r5,r6,zg hla _ _ r7,r8⟩
  . intro t ht b' cap' n' sz' hb';obtain ⟨r1,r2,r3,r4,r5,r6⟩:=hi.own t ht b' cap' n' sz' hb';have e1:b'≠bb:=fun e1=>by subst e1; rw [hb] at r5; cases r5
    exact ⟨r1,by show (if b' = bb then _ else g.wm b')=_; rw [if_neg e1]; exact r2,r3,r4,by rw [yr]; split <;> first | rfl | exact r5,r6⟩
  . show (if i=bb then _ else g.wm i)=0;rw [if_neg (by omega)];exact hi.fresh i hi'
 have hds:RCs g.bare w es (us.take (n * sz)):=by
  have h2:=(yL hone p7 (n * sz)).1;rw [hes] at h2;have h3:=zAE (zCq h1 h2) h1
  rwa [hu] at h3
 have hlst:RC ⟨fun i=>if i=bb then n * sz else g.wm i,g.tb,g.fr⟩ w (.lst .no es) [.slice (some ⟨bb,0,none⟩) n cap]:=by
  simp only [RC];refine .inr ⟨bb,0,cap,us.take (n * sz),by rw [hn],by omega,trivial,zg hla.bare _ _ hds,⟨sz,hsz,fun _ _ _ e1=>by cases e1⟩,?_⟩;intro i u hiu;rw [List.getElem?_take] at hiu;split at hiu
  . rename_i hlt2;refine ⟨?_,?_⟩
    . rw [Nat.zero_add,cell_of_row w bb i arr el (0,0) p5];rw [<- p8,List.getElem?_take] at hiu;split at hiu
      . simpa using hiu
      . cases hiu
    . show 0+i < if bb=bb then n * sz else g.wm bb
      rw [if_pos rfl]; omega
  . cases hiu
 refine ⟨_,hs,hi1,fun j=>?_,hr.size,hr.df,hr.gl.below (.refl _ _) hla.wm⟩;rw [Env.get_put];split
 . rename_i e1;subst e1;have h0:=hr.env t;rw [ht] at h0;rw [zh h0];exact xU hlst
 . exact (hr.env j).later hla
theorem zHs {g:Gh} {w:World} {x y:V} (hx:∀ u,RC g w x u->RC g w y u):∀ {cs:List V} {us:List Value} {j:Nat},cs[j]? = some x->RCs g w cs us->RCs g w (cs.set j y) us
 | [],us,j,hj,_=>by simp at hj
 | c::r,us,0,hj,h=>by
  simp only [RCs] at h;obtain ⟨u1,u2,rfl,h1,h2⟩:=h;simp only [List.getElem?_cons_zero,Option.some.injEq] at hj;subst hj;simp only [List.set_cons_zero,RCs];exact ⟨u1,u2,rfl,hx _ h1,h2⟩
 | c::r,us,j+1,hj,h=>by
  simp only [RCs] at h;obtain ⟨u1,u2,rfl,h1,h2⟩:=h;simp only [List.getElem?_cons_succ] at hj;simp only [List.set_cons_succ,RCs];exact ⟨u1,u2,rfl,h1,zHs hx hj h2⟩
theorem zQP {s:S} (b j sz:Nat) {cs:List V} {k:Nat} (h0:Al.look s.box b=some (cs,k)) (hj:cs[j]? = some (.lst .nil [])) :
 Gs s ⟨lay s.box b (cs.set j (.lst (.own s.nx true sz) []),k),s.nx::s.tg,s.nx+1,s.ob⟩:=by
 intro B g w hi;obtain ⟨i2,l2⟩:=hi.addTag rfl none (fun _ _ _ _ e=>by cases e);obtain ⟨p1,p2,p3,p4,arr,el,us,p5,p6,p7,p8⟩:=i2.box b cs k h0;refine ⟨⟨g.wm,fun j=>if j=s.nx then some none else g.tb j,g.fr⟩,⟨l2,.refl _ _,fun _ _=>⟨rfl,rfl⟩,fun _ _=>rfl,rfl⟩,?_⟩;have:=i2.addBox (b:=b) (arr:=arr) (el:=el) (cs:=cs.set j (.lst (.own s.nx true sz) [])) (us:=us) p1 p2 p5 (by simp; omega)
  (fun c hc=>by
   rcases List.mem_or_eq_of_mem_set hc with h2 | h2
   . exact p4 c h2
   . subst h2; rfl)
  (zHs (fun u hu=>by
   simp only [RC] at hu ⊢;rcases hu with ⟨_,hu,_⟩ | ⟨b,o,cap,ds,_,_,ht,_⟩
   . exact .inl ⟨trivial,hu,if_pos rfl,rfl⟩
   . exact ht.elim) hj p7) (by simpa using p8) (fun t ht d hd=>by
     obtain ⟨cap',n',sz'⟩:=d;obtain ⟨r1,r2,r3,r4,r5,r6⟩:=i2.own t ht b cap' n' sz' hd;have h0':Al.look (⟨s.box,s.nx::s.tg,s.nx+1,s.ob⟩:S).box b=some (cs,k):=h0;rw [h0'] at r5; cases r5) (hi.boxFr h0).1 (hi.boxFr h0).2
 rw [p6] at this;exact this
theorem zSK {s:S} (b m:Nat) {cs:List V} {k:Nat} (h0:Al.look s.box b=some (cs,k)):Gs s ⟨lay s.box b (cs.take m,k),s.tg,s.nx,s.ob⟩:=by
 intro B g w hi;obtain ⟨p1,p2,p3,p4,arr,el,us,p5,p6,p7,p8⟩:=hi.box b cs k h0;refine ⟨g,.refl _ _ _,?_⟩;have hone:zH cs:=by unfold zH; rw [List.all_eq_true]; exact p4
 have hul:=zy g w cs us p7;rw [yK hone] at hul;have:=hi.addBox (b:=b) (arr:=arr) (el:=el) (cs:=cs.take m) (us:=us.take m) p1 p2 p5 (by simp; omega)
  (fun c hc=>p4 c (List.mem_of_mem_take hc)) (yL hone p7 m).1 (by
   rw [<- p8,List.take_take,List.length_take]) (fun t ht d hd=>by
    obtain ⟨cap',n',sz'⟩:=d;obtain ⟨r1,r2,r3,r4,r5,r6⟩:=hi.own t ht b cap' n' sz' hd;rw [h0] at r5; cases r5) (hi.boxFr h0).1 (hi.boxFr h0).2
 rw [p6] at this;exact this
inductive SK (U:TyU) where
 | int (k:IntKind)
 | bool
 | str
 | dl (i:U.I)
 | bl (i:U.I)
 | ow (nb:Bool) (i:U.I)
 | arr (i:U.I)
 | box (cs:List (SK U))
 | st (i:U.I)
 | mc1 (i:U.I)
mutual
def denK {U:TyU}:SK U->Type
 | .int _=>Int
 | .bool=>Bool
 | .str=>List UInt8
 | .dl i=>List (U.den i)
 | .bl i=>Bool×List (U.den i)
 | .ow _ i=>List (U.den i)
 | .arr i=>Option (List (U.den i))
 | .box cs=>zA cs
 | .st i=>U.den i
 | .mc1 i=>List (List UInt8×U.den i)
def zA {U:TyU}:List (SK U)->Type
 | []=>Unit
 | k::r=>denK k×zA r
end
def zAC {α β:Type} (o:Option α) (a:β) (f:α->β):β:=
 match o with
 | none=>a
 | some x=>f x
def eqN (a b:Nat):Bool:=Nat.beq a b
section
variable {U:TyU} (C:Cod U) {R:Type}
mutual
def putK:(s:SK U)->denK s->St U->(T U->St U->Option R)->Option R
 | .int k,x,st,K=>K (.int k x) st
 | .bool,x,st,K=>K (.bool x) st
 | .str,x,st,K=>K (.str x) st
 | .dl i,x,st,K=>K (.lst .dl i x) st
 | .bl i,x,st,K=>K (.lst (.b x.1) i x.2) st
 | .ow nb i,x,st,K=>K (.lst (.ow st.nx nb) i x) ⟨st.bx,st.nx::st.tg,st.nl,st.nx+1,st.ob⟩
 | .arr i,x,st,K=>zAC x (K .nil st) fun ys=>K (.sl st.nl ys.length) ⟨(st.nl,some (.ar i ys))::st.bx,st.tg,st.nl+1,st.nx,st.ob⟩
 | .box cs,x,st,K=>kC cs x st fun vs st'=>bif yG vs then K (.ptr st'.nl 0) ⟨(st'.nl,some (.st vs))::st'.bx,st'.tg,st'.nl+1,st'.nx,st'.ob⟩ else none
 | .st i,x,st,K=>K (C.enc i x) st
 | .mc1 i,x,st,K=>K (.hd st.nl) ⟨st.bx,st.tg,st.nl+1,st.nx,(st.nl,some (.mc i x))::st.ob⟩
def kC:(l:List (SK U))->zA l->St U->(List (T U)->St U->Option R)->Option R
 | [],_,st,K=>K [] st
 | k::r,x,st,K=>putK k x.1 st fun v st'=>feS st' fun st'=>kC r x.2 st' fun vs st''=>K (v::vs) st''
end
def zHz:T U->Bool
 | .lst m _ _=>(match m with | .ow _ _=>false | _=>true)
 | _=>true
def zMF:T U->Bool
 | .agg fs=>fs.all zHz
 | x=>zHz x
mutual
def getK:(s:SK U)->T U->St U->(denK s->St U->Option R)->Option R
 | .int k,v,st,K=>(match v with | .int k' n=>bif decide (k' = k) then K n st else none | _=>none)
 | .bool,v,st,K=>(match v with | .bool b=>K b st | _=>none)
 | .str,v,st,K=>(match v with | .str s=>K s st | _=>none)
 | .dl i,v,st,K=>(match v with
  | .nil=>K [] st
  | .lst m j ys=>jz i j ys fun xs=>(match m with
   | .dl=>K xs st
   | .b n=>bif (bif n then xs.isEmpty else !xs.isEmpty) then K xs st else none
   | .ow _ _=>none)
  | _=>none)
 | .bl i,v,st,K=>(match v with
  | .nil=>K (true,[]) st
  | .lst m j ys=>jz i j ys fun xs=>(match m with
   | .dl=>K (xs.isEmpty,xs) st
   | .b n=>K (n,xs) st
   | .ow _ _=>none)
  | _=>none)
 | .ow nb i,v,st,K=>(match v with
  | .lst m j ys=>jz i j ys fun xs=>(match m with
   | .ow t nb'=>bif beqB nb' nb && hasN st.tg t then K xs ⟨st.bx,rmN st.tg t,st.nl,st.nx,st.ob⟩ else none
   | _=>none)
  | _=>none)
 | .arr i,v,st,K=>(match v with
  | .nil=>K none st
  | .sl l n=>(match lk st.bx l with
   | some (.ar j ys)=>jz i j ys fun xs=>bif eqN n xs.length then K (some xs) ⟨(l,none)::st.bx,st.tg,st.nl,st.nx,st.ob⟩ else none
   | _=>none)
  | _=>none)
 | .box cs,v,st,K=>(match v with
  | .ptr l o=>bif Nat.beq o 0 then (match lk st.bx l with
   | some (.st vs)=>feS ⟨(l,none)::st.bx,st.tg,st.nl,st.nx,st.ob⟩ fun st'=>xA cs vs st' K
   | _=>none) else none
  | _=>none)
 | .st i,v,st,K=>bif zMF v then C.dec i v fun x=>K x st else none
 | .mc1 i,v,st,K=>(match v with
  | .hd l=>(match lko st.ob l with
   | some o=>(match o with | .mc j c=>sameM i j c fun c=>K c ⟨st.bx,st.tg,st.nl,st.nx,(l,none)::st.ob⟩ | .sc _=>none | .lv _=>none | .l1 _=>none | .mp _=>none)
   | none=>none)
  | _=>none)
def xA:(l:List (SK U))->List (T U)->St U->(zA l->St U->Option R)->Option R
 | [],vs,st,K=>(match vs with | []=>K () st | _::_=>none)
 | k::r,vs,st,K=>(match vs with
  | []=>none
  | v::vs=>getK k v st fun x st'=>feS st' fun st'=>xA r vs st' fun xs st''=>K (x,xs) st'')
end
inductive Res where
 | inl (n:Nat)
 | inr (b:Nat)
 | ob (b:Nat)
mutual
/-- An abstract value is of a kind; what it holds alone. -/
def VK (s:S):(k:SK U)->denK k->V->List Res->Prop
 | .int k,x,v,rs=>v = .at (.int k x)/\rs=[]
 | .bool,x,v,rs=>v = .at (.bool x)/\rs=[]
 | .str,x,v,rs=>v=trT C ⟨id,id,id,id⟩ (.str x)/\rs=[]
 | .dl i,x,v,rs=>v = .lst (zz (x.map (C.encV i))) (x.map (C.encV i))/\rs=[]
 | .bl i,x,v,rs=>v = .lst (if x.1 then .nil else .no) (x.2.map (C.encV i))/\rs=[]
 | .ow nb i,x,v,rs=>∃ n,v = .lst (.own n nb (C.cells i)) (x.map (C.encV i))/\n ∈ s.tg/\n < s.nx/\rs=[.inl n]
 | .arr i,x,v,rs=>match x with
  | none=>v = .lst .nil []/\rs=[]
  | some xs=>∃ b cap,v = .at (.slice (some ⟨b,0,none⟩) xs.length cap)/\xs.length<=cap/\Al.look s.box b=some (zX (xs.map (C.encV i)),cap * C.cells i)/\rs=[.inr b]
 | .box cs,x,v,rs=>∃ b vs rs',v = .at (.pointer (some ⟨b,0,none⟩))/\Al.look s.box b=some (vs,vs.length)/\VKs s cs x vs rs'/\rs = .inr b::rs'
 | .st i,x,v,rs=>v=C.encV i x/\rs=[]
 | .mc1 i,x,v,rs=>∃ b fp,v = .at (.map (some b))/\zN s.ob b=some (.mp (x.map fun p=>(⟨p.1.toArray⟩,C.encV i p.2)),fp)/\rs=[.ob b]
def VKs (s:S):(l:List (SK U))->zA l->List V->List Res->Prop
 | [],_,vs,rs=>vs=[]/\rs=[]
 | k::r,x,vs,rs=>∃ v vs' r1 r2,vs=v::vs'/\rs=r1++r2/\VK s k x.1 v r1/\VKs s r x.2 vs' r2
end
def Has (N:NM) (st:St U):Res->Prop
 | .inl n=>∃ t ∈ st.tg,N.tk t=n
 | .inr b=>∃ l x,lk st.bx l=some x/\N.bl l=b
 | .ob b=>∃ l x,lko st.ob l=some x/\N.bl l=b
variable {C}
theorem SSim.addBox {N:NM} {st:St U} {s:S} (hs:SSim C N st s) {b c z:Nat} {bx:Bx U} (hno:¬ Has N st (.inr b)) (hl:Al.look s.box b=some (trB C (N.loc st.nl b c z) st.nl bx)) (hw:wfB C (N.loc st.nl b c z) (st.nl+1) st.nx st.nl bx) :
 SSim C (N.loc st.nl b c z) ⟨(st.nl,some bx)::st.bx,st.tg,st.nl+1,st.nx,st.ob⟩ s:=by
 have hext:=N.ext_loc st.nl st.nx b c z;have hbl:∀ l,l < st.nl->(N.loc st.nl b c z).bl l=N.bl l:=hext.bl;have hbn:(N.loc st.nl b c z).bl st.nl=b:=if_pos rfl;have hne:∀ l b',lk st.bx l=some b'->b≠N.bl l:=fun l b' hl e=>hno ⟨l,b',hl,e.symm⟩;refine ⟨?_,?_,?_,?_,hs.tgIn,hs.tgInj,hs.tgLt,hs.nm,hs.ob.ext hext (Nat.le_succ _)⟩
 . intro l b' hl';rw [xS] at hl';by_cases e:st.nl=l
   . rw [if_pos e] at hl';injection hl' with hl'
     subst hl'; subst e;rw [hbn]; exact hl
   . rw [if_neg e] at hl';rw [hbl l (hs.lt l b' hl'),hs.box l b' hl',zCh hs hext (Nat.le_refl _) (Nat.le_refl _) hl']
 . intro l b' hl';rw [xS] at hl';by_cases e:st.nl=l
   . show l < st.nl+1; omega
   . rw [if_neg e] at hl';have hlt:=hs.lt l b' hl';show l < st.nl+1; omega
 . intro l b' hl';rw [xS] at hl';by_cases e:st.nl=l
   . rw [if_pos e] at hl';injection hl' with hl'
     subst hl'; subst e;exact hw
   . rw [if_neg e] at hl';exact zCd hext (Nat.le_succ _) (Nat.le_refl _) (hs.lt l b' hl') (hs.wf l b' hl')
 . intro l l' b1 b2 h1 h2 he;rw [xS] at h1 h2;by_cases e:st.nl=l
   . by_cases e':st.nl=l'
     . omega
     . rw [if_neg e'] at h2;subst e;rw [hbn,hbl l' (hs.lt l' b2 h2)] at he;exact absurd he (hne l' b2 h2)
   . rw [if_neg e] at h1;by_cases e':st.nl=l'
     . subst e';rw [hbn,hbl l (hs.lt l b1 h1)] at he;exact absurd he.symm (hne l b1 h1)
     . rw [if_neg e'] at h2;rw [hbl l (hs.lt l b1 h1),hbl l' (hs.lt l' b2 h2)] at he;exact hs.inj l l' b1 b2 h1 h2 he
theorem SSim.addTok {N:NM} {st:St U} {s:S} (hs:SSim C N st s) {n:Nat} (hno:¬ Has N st (.inl n)) (h1:n ∈ s.tg) (h2:n < s.nx) :
 SSim C (N.tok st.nx n) ⟨st.bx,st.nx::st.tg,st.nl,st.nx+1,st.ob⟩ s:=by
 have hext:=N.ext_tok st.nl st.nx n;have htk:∀ t,t < st.nx->(N.tok st.nx n).tk t=N.tk t:=hext.tk;have htn:(N.tok st.nx n).tk st.nx=n:=if_pos rfl;have hne:∀ t ∈ st.tg,N.tk t≠n:=fun t ht e=>hno ⟨t,ht,e⟩;refine ⟨fun l b hl=>?_,hs.lt,fun l b hl=>?_,fun l l' b b' q1 q2 he=>hs.inj l l' b b' q1 q2 he,?_,?_,?_,?_,hs.ob.ext hext (Nat.le_refl _)⟩
 . rw [zCh hs hext (Nat.le_refl _) (Nat.le_refl _) hl];exact hs.box l b hl
 . exact zCd hext (Nat.le_refl _) (Nat.le_succ _) (hs.lt l b hl) (hs.wf l b hl)
 . intro t ht;rcases List.mem_cons.1 ht with rfl | ht
   . rw [htn]; exact h1
   . rw [htk t (hs.tgLt t ht)]; exact hs.tgIn t ht
 . intro t ht t' ht' he;rcases List.mem_cons.1 ht with rfl | ht
   . rcases List.mem_cons.1 ht' with rfl | ht'
     . rfl
     . rw [htn,htk t' (hs.tgLt t' ht')] at he;exact absurd he.symm (hne t' ht')
   . rcases List.mem_cons.1 ht' with rfl | ht'
     . rw [htn,htk t (hs.tgLt t ht)] at he;exact absurd he (hne t ht)
     . rw [htk t (hs.tgLt t ht),htk t' (hs.tgLt t' ht')] at he;exact hs.tgInj t ht t' ht' he
 . intro t ht;show t < st.nx+1;rcases List.mem_cons.1 ht with rfl | ht
   . omega
   . have:=hs.tgLt t ht; omega
 . intro t ht;rcases List.mem_cons.1 ht with rfl | ht
   . rw [htn]; exact h2
   . rw [htk t (hs.tgLt t ht)]; exact hs.nm t ht
theorem SSim.more {N N':NM} {st:St U} {s:S} (hs:SSim C N st s) {nl nx:Nat} (hext:Ext nl nx N N') (h1:st.nl<=nl) (h2:st.nx<=nx):SSim C N' ⟨st.bx,st.tg,nl,nx,st.ob⟩ s:=by
 have hbl:∀ l b,lk st.bx l=some b->N'.bl l=N.bl l:=fun l b hl=>hext.bl l (Nat.lt_of_lt_of_le (hs.lt l b hl) h1);have htk:∀ t ∈ st.tg,N'.tk t=N.tk t:=fun t ht=>hext.tk t (Nat.lt_of_lt_of_le (hs.tgLt t ht) h2);refine ⟨fun l b hl=>?_,fun l b hl=>Nat.lt_of_lt_of_le (hs.lt l b hl) h1,fun l b hl=>?_,fun l l' b b' q1 q2 he=>?_,fun t ht=>?_,fun t ht t' ht' he=>?_,fun t ht=>Nat.lt_of_lt_of_le (hs.tgLt t ht) h2,fun t ht=>?_,hs.ob.ext (hext.less h1 h2) h1⟩
 . rw [hbl l b hl,zCh hs hext h1 h2 hl]; exact hs.box l b hl
 . exact zCd (hext.less h1 h2) h1 h2 (hs.lt l b hl) (hs.wf l b hl)
 . rw [hbl l b q1,hbl l' b' q2] at he;exact hs.inj l l' b b' q1 q2 he
 . rw [htk t ht]; exact hs.tgIn t ht
 . rw [htk t ht,htk t' ht'] at he; exact hs.tgInj t ht t' ht' he
 . rw [htk t ht]; exact hs.nm t ht
theorem SSim.addOb {N:NM} {st:St U} {s:S} (hs:SSim C N st s) {b c z:Nat} {o:TO U} {fp:List Nat} (hno:¬ Has N st (.ob b)) (hl:zN s.ob b=some (trO C (N.loc st.nl b c z) st.nl o,fp)) (hw:wfO (N.loc st.nl b c z) st.nl o) :
 SSim C (N.loc st.nl b c z) ⟨st.bx,st.tg,st.nl+1,st.nx,(st.nl,some o)::st.ob⟩ s:=by
 have hext:=N.ext_loc st.nl st.nx b c z;have hbn:(N.loc st.nl b c z).bl st.nl=b:=if_pos rfl;have h1:SSim C (N.loc st.nl b c z) ⟨st.bx,st.tg,st.nl+1,st.nx,st.ob⟩ s:=by
  have:=hs.more (N':=N.loc st.nl b c z) (nl:=st.nl) (nx:=st.nx) hext (Nat.le_refl _) (Nat.le_refl _);exact this.more (N':=N.loc st.nl b c z) (nl:=st.nl+1) (nx:=st.nx) (.refl _ _ _) (Nat.le_succ _) (Nat.le_refl _)
 have hne:∀ l o',lko st.ob l=some o'->(N.loc st.nl b c z).bl l≠b:=fun l o' hl' e=>hno ⟨l,o',hl',(hext.bl l (hs.ob.lt l o' hl')).symm.trans e⟩;have key:∀ {l o'},lko ((st.nl,some o)::st.ob) l=some o'->(l=st.nl/\o' = o)\/(l≠st.nl/\lko st.ob l=some o'):=fun {l o'} h=>by
  rw [qf] at h;split at h
  . rename_i e; injection h with h; exact .inl ⟨e.symm,h.symm⟩
  . rename_i e; exact .inr ⟨fun e'=>e e'.symm,h⟩
 refine ⟨h1.box,h1.lt,h1.wf,h1.inj,h1.tgIn,h1.tgInj,h1.tgLt,h1.nm,⟨fun l o' h=>?_,fun l o' h=>?_,fun l o' h=>?_,fun l l' o1 o2 q1 q2 he=>?_⟩⟩
 . rcases key h with ⟨rfl,rfl⟩ | ⟨_,h⟩
   . rw [hbn]; exact ⟨fp,hl⟩
   . exact h1.ob.look l o' h
 . rcases key h with ⟨rfl,rfl⟩ | ⟨_,h⟩
   . exact Nat.lt_succ_self _
   . exact h1.ob.lt l o' h
 . rcases key h with ⟨rfl,rfl⟩ | ⟨_,h⟩
   . exact hw
   . exact h1.ob.wf l o' h
 . rcases key q1 with ⟨e1,e2⟩ | ⟨_,p1⟩ <;> rcases key q2 with ⟨e3,e4⟩ | ⟨_,p2⟩
   . rw [e1,e3]
   . subst e1; rw [hbn] at he; exact absurd he.symm (hne l' o2 p2)
   . subst e3; rw [hbn] at he; exact absurd he (hne l o1 p1)
   . exact h1.ob.inj l l' o1 o2 p1 p2 he
theorem zSG {N N':NM} {st:St U} {s:S} (hs:SSim C N st s) {nl nx:Nat} (hext:Ext nl nx N N') (h1:st.nl<=nl) (h2:st.nx<=nx) {a b:Nat} {x:Res} (h:Has N' ⟨st.bx,st.tg,a,b,st.ob⟩ x):Has N st x:=by
 cases x with
 | inl n=>obtain ⟨t,ht,he⟩:=h; exact ⟨t,ht,(hext.tk t (Nat.lt_of_lt_of_le (hs.tgLt t ht) h2)).symm.trans he⟩
 | inr b=>obtain ⟨l,y,hl,he⟩:=h; exact ⟨l,y,hl,(hext.bl l (Nat.lt_of_lt_of_le (hs.lt l y hl) h1)).symm.trans he⟩
 | ob b=>obtain ⟨l,y,hl,he⟩:=h; exact ⟨l,y,hl,(hext.bl l (Nat.lt_of_lt_of_le (hs.ob.lt l y hl) h1)).symm.trans he⟩
theorem has_ob {N:NM} {st:St U} {s:S} (hs:SSim C N st s) {b c z:Nat} {o:Option (TO U)} {x:Res} (h:Has (N.loc st.nl b c z) ⟨st.bx,st.tg,st.nl+1,st.nx,(st.nl,o)::st.ob⟩ x):x = .ob b\/Has N st x:=by
 have hext:=N.ext_loc st.nl st.nx b c z;cases x with
 | inl n=>exact .inr h
 | inr b'=>exact .inr (zSG hs hext (Nat.le_refl _) (Nat.le_refl _) (x:=.inr b') (a:=0) (b:=0) h)
 | ob b'=>
  obtain ⟨l,y,hl,he⟩:=h;have hl':lko ((st.nl,o)::st.ob) l=some y:=hl;rw [qf] at hl';by_cases e:st.nl=l
  . subst e;have:(N.loc st.nl b c z).bl st.nl=b:=if_pos rfl;rw [this] at he;exact .inl (by rw [he])
  . rw [if_neg e] at hl';rw [hext.bl l (hs.ob.lt l y hl')] at he;exact .inr ⟨l,y,hl',he⟩
theorem zN4 {N:NM} {st:St U} {s:S} (hs:SSim C N st s) {b c z:Nat} {bx:Option (Bx U)} {x:Res} (h:Has (N.loc st.nl b c z) ⟨(st.nl,bx)::st.bx,st.tg,st.nl+1,st.nx,st.ob⟩ x):x = .inr b\/Has N st x:=by
 have hext:=N.ext_loc st.nl st.nx b c z;cases x with
 | inl n=>exact .inr h
 | inr b'=>
  obtain ⟨l,y,hl,he⟩:=h;have hl':lk ((st.nl,bx)::st.bx) l=some y:=hl;rw [xS] at hl';by_cases e:st.nl=l
  . subst e;have:(N.loc st.nl b c z).bl st.nl=b:=if_pos rfl;rw [this] at he;exact .inl (by rw [he])
  . rw [if_neg e] at hl';rw [hext.bl l (hs.lt l y hl')] at he;exact .inr ⟨l,y,hl',he⟩
 | ob b'=>
  obtain ⟨l,y,hl,he⟩:=h;exact .inr ⟨l,y,hl,(hext.bl l (hs.ob.lt l y hl)).symm.trans he⟩
theorem zTo {N:NM} {st:St U} {s:S} (hs:SSim C N st s) {n:Nat} {x:Res} (h:Has (N.tok st.nx n) ⟨st.bx,st.nx::st.tg,st.nl,st.nx+1,st.ob⟩ x):x = .inl n\/Has N st x:=by
 have hext:=N.ext_tok st.nl st.nx n;cases x with
 | inr b=>exact .inr h
 | ob b=>exact .inr h
 | inl n'=>
  obtain ⟨t,ht,he⟩:=h;rcases List.mem_cons.1 ht with rfl | ht
  . have:(N.tok st.nx n).tk st.nx=n:=if_pos rfl;rw [this] at he;exact .inl (by rw [he])
  . rw [hext.tk t (hs.tgLt t ht)] at he;exact .inr ⟨t,ht,he⟩
mutual
/-- LAID DOWN. -/
theorem zFv (hC:CodOk C) {r:R}:∀ (k:SK U) (x:denK k) {N:NM} {st:St U} {s:S} {v:V} {rs:List Res} {K:T U->St U->Option R},SSim C N st s->VK C s k x v rs->rs.Nodup->(∀ y ∈ rs,¬ Has N st y)->putK C k x st K=some r ->
 ∃ N' v' st',K v' st' = some r/\Turn N st N' st'/\SSim C N' st' s/\trT C N' v' = v/\bdd st'.nl st'.nx v' = true/\(∀ y,Has N' st' y->Has N st y\/y ∈ rs)
 | .int k,x,N,st,s,v,rs,K,hs,hv,_,_,h=>by
  simp only [VK] at hv; simp only [putK] at h;exact ⟨N,_,st,h,.refl _ _,hs,hv.1.symm,rfl,fun y hy=>.inl hy⟩
 | .bool,x,N,st,s,v,rs,K,hs,hv,_,_,h=>by
  simp only [VK] at hv; simp only [putK] at h;exact ⟨N,_,st,h,.refl _ _,hs,hv.1.symm,rfl,fun y hy=>.inl hy⟩
 | .str,x,N,st,s,v,rs,K,hs,hv,_,_,h=>by
  simp only [VK] at hv; simp only [putK] at h;exact ⟨N,_,st,h,.refl _ _,hs,hv.1.symm,rfl,fun y hy=>.inl hy⟩
 | .dl i,x,N,st,s,v,rs,K,hs,hv,_,_,h=>by
  simp only [VK] at hv; simp only [putK] at h;exact ⟨N,_,st,h,.refl _ _,hs,by rw [hv.1]; rfl,rfl,fun y hy=>.inl hy⟩
 | .bl i,x,N,st,s,v,rs,K,hs,hv,_,_,h=>by
  simp only [VK] at hv; simp only [putK] at h;exact ⟨N,_,st,h,.refl _ _,hs,by rw [hv.1]; rfl,rfl,fun y hy=>.inl hy⟩
 | .st i,x,N,st,s,v,rs,K,hs,hv,_,_,h=>by
  simp only [VK] at hv; simp only [putK] at h;exact ⟨N,_,st,h,.refl _ _,hs,(hC.enc N i x).trans hv.1.symm,zBd (Nat.zero_le _) (Nat.zero_le _) _ (hC.bd i x),fun y hy=>.inl hy⟩
 | .ow nb i,x,N,st,s,v,rs,K,hs,hv,_,hd,h=>by
  simp only [VK] at hv; simp only [putK] at h;obtain ⟨n,rfl,h1,h2,rfl⟩:=hv;refine ⟨_,_,_,h,⟨N.ext_tok st.nl st.nx n,Nat.le_refl _,Nat.le_succ _⟩,hs.addTok (hd _ (by simp)) h1 h2,?_,?_,fun y hy=>?_⟩
  . have e:(N.tok st.nx n).tk st.nx=n:=if_pos rfl;simp only [trT,trM,e]
  . simp [bdd,Nat.blt_eq]
  . rcases zTo hs hy with rfl | hy
    . exact .inr (by simp)
    . exact .inl hy
 | .arr i,x,N,st,s,v,rs,K,hs,hv,_,hd,h=>by
  cases x with
  | none=>
   simp only [VK] at hv; simp only [putK,zAC] at h;exact ⟨N,_,st,h,.refl _ _,hs,by rw [hv.1]; rfl,rfl,fun y hy=>.inl hy⟩
  | some xs=>
   simp only [VK] at hv; simp only [putK,zAC] at h;obtain ⟨b,cap,rfl,h1,h2,rfl⟩:=hv;have ec:(N.loc st.nl b cap (C.cells i)).cp st.nl=cap:=if_pos rfl;have eb:(N.loc st.nl b cap (C.cells i)).bl st.nl=b:=if_pos rfl;refine ⟨_,_,_,h,⟨N.ext_loc st.nl st.nx b cap (C.cells i),Nat.le_succ _,Nat.le_refl _⟩,hs.addBox (bx:=.ar i xs) (hd _ (by simp)) (by simp only [trB,ec]; exact h2) ⟨if_pos rfl,by rw [ec]; exact h1⟩,?_,?_,fun y hy=>?_⟩
   . simp only [trT,ec,eb]
   . simp [bdd,Nat.blt_eq]
   . rcases zN4 hs hy with rfl | hy
     . exact .inr (by simp)
     . exact .inl hy
 | .box cs,x,N,st,s,v,rs,K,hs,hv,hn,hd,h=>by
  simp only [VK] at hv; simp only [putK] at h;obtain ⟨b,vs,rs',rfl,h1,h2,rfl⟩:=hv;obtain ⟨hn1,hn2⟩:=List.nodup_cons.1 hn;obtain ⟨N1,vs',st1,h3,h4,h5,h6,h7,h8⟩:=jH hC cs x hs h2 hn2 (fun y hy=>hd y (by simp [hy])) h;obtain ⟨h9,h10⟩:=zJ h3;have ext:=N1.ext_loc st1.nl st1.nx b 0 0;have eb:(N1.loc st1.nl b 0 0).bl st1.nl=b:=if_pos rfl;have hlen:vs'.length=vs.length:=by have:=congrArg List.length h6; simpa using this
  refine ⟨_,_,_,h10,h4.trans ⟨ext,Nat.le_succ _,Nat.le_refl _⟩,h5.addBox (bx:=.st vs') (fun hh=>?_) (by simp only [trB]; rw [yn ext h7,h6,hlen]; exact h1) ⟨yj (Nat.le_succ _) (Nat.le_refl _) _ h7,h9⟩,?_,?_,fun y hy=>?_⟩
  . rcases h8 _ hh with q | q
    . exact hd _ (by simp) q
    . exact hn1 q
  . simp only [trT,eb]
  . simp [bdd,Nat.blt_eq]
  . rcases zN4 h5 hy with rfl | hy
    . exact .inr (by simp)
    . rcases h8 _ hy with q | q
      . exact .inl q
      . exact .inr (by simp [q])
 | .mc1 i,xs,N,st,s,v,rs,K,hs,hv,_,hd,h=>by
  simp only [VK] at hv; simp only [putK] at h;obtain ⟨b,fp,rfl,h1,rfl⟩:=hv;have ec:(N.loc st.nl b 1 0).cp st.nl=1:=if_pos rfl;have eb:(N.loc st.nl b 1 0).bl st.nl=b:=if_pos rfl;refine ⟨_,_,_,h,⟨N.ext_loc st.nl st.nx b 1 0,Nat.le_succ _,Nat.le_refl _⟩,hs.addOb (o:=.mc i xs) (hd _ (by simp)) (by simp only [trO]; exact h1) (by simp only [wfO,ec]; decide),?_,?_,fun y hy=>?_⟩
  . simp only [trT,ec,eb]; rfl
  . simp [bdd,Nat.blt_eq]
  . rcases has_ob hs hy with rfl | hy
    . exact .inr (by simp)
    . exact .inl hy
theorem jH (hC:CodOk C) {r:R}:∀ (l:List (SK U)) (x:zA l) {N:NM} {st:St U} {s:S} {vs:List V} {rs:List Res} {K:List (T U)->St U->Option R},SSim C N st s->VKs C s l x vs rs->rs.Nodup->(∀ y ∈ rs,¬ Has N st y)->kC C l x st K=some r ->
 ∃ N' vs' st',K vs' st' = some r/\Turn N st N' st'/\SSim C N' st' s/\vs'.map (trT C N')=vs/\bdds st'.nl st'.nx vs' = true/\(∀ y,Has N' st' y->Has N st y\/y ∈ rs)
 | [],x,N,st,s,vs,rs,K,hs,hv,_,_,h=>by
  simp only [VKs] at hv; simp only [kC] at h;exact ⟨N,_,st,h,.refl _ _,hs,by rw [hv.1]; rfl,rfl,fun y hy=>.inl hy⟩
 | k::rest,x,N,st,s,vs,rs,K,hs,hv,hn,hd,h=>by
  simp only [VKs] at hv; simp only [kC,yy] at h;obtain ⟨v,vs',r1,r2,rfl,rfl,h1,h2⟩:=hv;obtain ⟨hn1,hn2,hn3⟩:=List.nodup_append.1 hn;obtain ⟨N1,v1,st1,h3,h4,h5,h6,h7,h8⟩:=zFv hC k x.1 hs h1 hn1 (fun y hy=>hd y (by simp [hy])) h;obtain ⟨N2,vs2,st2,q3,q4,q5,q6,q7,q8⟩:=jH hC rest x.2 h5 h2 hn2 (fun y hy hh=>by
   rcases h8 y hh with q | q
   . exact hd y (by simp [hy]) q
   . exact hn3 y q y hy rfl) h3
  refine ⟨N2,_,st2,q3,h4.trans q4,q5,?_,?_,fun y hy=>?_⟩
  . rw [List.map_cons,q6,zCi C q4.ext _ h7,h6]
  . simp only [bdds,q7,zBd q4.nl q4.nx _ h7,Bool.and_self]
  . rcases q8 y hy with q | q
    . rcases h8 y q with q' | q'
      . exact .inl q'
      . exact .inr (by simp [q'])
    . exact .inr (by simp [q])
end
end
open Go.Al
section
variable {U:TyU} {C:Cod U} {R:Type}
theorem SSim.less {N:NM} {st:St U} {s:S} (hs:SSim C N st s) (l0:Nat):SSim C N ⟨(l0,none)::st.bx,st.tg,st.nl,st.nx,st.ob⟩ s:=by
 have key:∀ l b,lk ((l0,none)::st.bx) l=some b->lk st.bx l=some b:=fun l b hl=>by
  rw [xS] at hl;by_cases e:l0=l
  . rw [if_pos e] at hl; cases hl
  . rw [if_neg e] at hl; exact hl
 exact ⟨fun l b hl=>hs.box l b (key l b hl),fun l b hl=>hs.lt l b (key l b hl),fun l b hl=>hs.wf l b (key l b hl),fun l l' b b' h1 h2 he=>hs.inj l l' b b' (key l b h1) (key l' b' h2) he,hs.tgIn,hs.tgInj,hs.tgLt,hs.nm,hs.ob⟩
theorem SSim.lessO {N:NM} {st:St U} {s:S} (hs:SSim C N st s) (l0:Nat):SSim C N ⟨st.bx,st.tg,st.nl,st.nx,(l0,none)::st.ob⟩ s:=by
 have key:∀ l b,lko ((l0,none)::st.ob) l=some b->lko st.ob l=some b:=fun l b hl=>by
  rw [qf] at hl;by_cases e:l0=l
  . rw [if_pos e] at hl; cases hl
  . rw [if_neg e] at hl; exact hl
 exact ⟨hs.box,hs.lt,hs.wf,hs.inj,hs.tgIn,hs.tgInj,hs.tgLt,hs.nm,⟨fun l b hl=>hs.ob.look l b (key l b hl),fun l b hl=>hs.ob.lt l b (key l b hl),fun l b hl=>hs.ob.wf l b (key l b hl),fun l l' b b' h1 h2 he=>hs.ob.inj l l' b b' (key l b h1) (key l' b' h2) he⟩⟩
theorem zQo {N:NM} {st:St U} {l0:Nat} {y:Res} (h:Has N ⟨st.bx,st.tg,st.nl,st.nx,(l0,none)::st.ob⟩ y):Has N st y:=by
 cases y with
 | inl n=>exact h
 | inr b=>exact h
 | ob b=>
  obtain ⟨l,x,hl,he⟩:=h;have hl':lko ((l0,none)::st.ob) l=some x:=hl;rw [qf] at hl';by_cases e:l0=l
  . rw [if_pos e] at hl'; cases hl'
  . rw [if_neg e] at hl'; exact ⟨l,x,hl',he⟩
theorem zQz {N:NM} {st:St U} {s:S} (hs:SSim C N st s) {l0:Nat} {x0:TO U} (h0:lko st.ob l0=some x0):¬ Has N ⟨st.bx,st.tg,st.nl,st.nx,(l0,none)::st.ob⟩ (.ob (N.bl l0)):=by
 rintro ⟨l,x,hl,he⟩;have hl':lko ((l0,none)::st.ob) l=some x:=hl;rw [qf] at hl';by_cases e:l0=l
 . rw [if_pos e] at hl'; cases hl'
 . rw [if_neg e] at hl'; exact e (hs.ob.inj l0 l x0 x h0 hl' he.symm)
theorem SSim.lessT {N:NM} {st:St U} {s:S} (hs:SSim C N st s) (t:Nat):SSim C N ⟨st.bx,rmN st.tg t,st.nl,st.nx,st.ob⟩ s:=
 ⟨hs.box,hs.lt,hs.wf,hs.inj,fun t ht=>hs.tgIn t (qu ht).1,fun t ht t' ht'=>hs.tgInj t (qu ht).1 t' (qu ht').1,fun t ht=>hs.tgLt t (qu ht).1,fun t ht=>hs.nm t (qu ht).1,hs.ob⟩
theorem zHO {N:NM} {st:St U} {l0:Nat} {y:Res} (h:Has N ⟨(l0,none)::st.bx,st.tg,st.nl,st.nx,st.ob⟩ y):Has N st y:=by
 cases y with
 | inl n=>exact h
 | ob b=>exact h
 | inr b=>
  obtain ⟨l,x,hl,he⟩:=h;have hl':lk ((l0,none)::st.bx) l=some x:=hl;rw [xS] at hl';by_cases e:l0=l
  . rw [if_pos e] at hl'; cases hl'
  . rw [if_neg e] at hl'; exact ⟨l,x,hl',he⟩
theorem zGy {N:NM} {st:St U} {s:S} (hs:SSim C N st s) {l0:Nat} {x0:Bx U} (h0:lk st.bx l0=some x0):¬ Has N ⟨(l0,none)::st.bx,st.tg,st.nl,st.nx,st.ob⟩ (.inr (N.bl l0)):=by
 rintro ⟨l,x,hl,he⟩;have hl':lk ((l0,none)::st.bx) l=some x:=hl;rw [xS] at hl';by_cases e:l0=l
 . rw [if_pos e] at hl'; cases hl'
 . rw [if_neg e] at hl'; exact e (hs.inj l0 l x0 x h0 hl' he.symm)
theorem zPr {N:NM} {st:St U} {t:Nat} {y:Res} (h:Has N ⟨st.bx,rmN st.tg t,st.nl,st.nx,st.ob⟩ y):Has N st y:=by
 cases y with
 | inl n=>obtain ⟨t',ht,he⟩:=h; exact ⟨t',(qu ht).1,he⟩
 | inr b=>exact h
 | ob b=>exact h
theorem zPu {N:NM} {st:St U} {s:S} (hs:SSim C N st s) {t:Nat} (h0:t ∈ st.tg):¬ Has N ⟨st.bx,rmN st.tg t,st.nl,st.nx,st.ob⟩ (.inl (N.tk t)):=by
 rintro ⟨t',ht,he⟩;obtain ⟨h1,h2⟩:=qu ht;exact h2 (hs.tgInj t' h1 t h0 he)
theorem zJX {N:NM} {x:T U} (h:zHz x=true):zn (trT C N x)=trT C N x:=by
 cases x with
 | lst m i xs=>
  cases m with
  | b n=>cases n <;> rfl
  | dl=>simp only [trT,trM]; exact zBC _
  | ow t nb=>simp [zHz] at h
 | _=>rfl
theorem zPe {N:NM} {x:T U} (h:zMF x=true):(trT C N x).untag=trT C N x:=by
 cases x with
 | agg fs=>
  simp only [zMF,List.all_eq_true] at h;simp only [trT,yX,V.untag,List.map_map];congr 1;exact List.map_congr_left fun x hx=>zJX (h x hx)
 | lst m i xs=>exact zJX (x:=.lst m i xs) h
 | _=>rfl
theorem zTS {a b:Bool} (h:beqB a b=true):a=b:=by simpa [beqB] using h
mutual
/-- READ OUT. -/
theorem zJF (hC:CodOk C) {r:R}:∀ (k:SK U) {N:NM} {st:St U} {s:S} {v:T U} {v':V} {K:denK k->St U->Option R},SSim C N st s->VR C N v v'->getK C k v st K=some r ->
 ∃ x st' rs,K x st' = some r/\SSim C N st' s/\st'.nl=st.nl/\st'.nx=st.nx/\VK C s k x v' rs/\rs.Nodup/\(∀ y ∈ rs,Has N st y/\¬ Has N st' y)/\(∀ y,Has N st' y->Has N st y)
 | .int k,N,st,s,v,v',K,hs,hv,h=>by
  simp only [getK] at h;split at h
  . obtain ⟨h1,h2⟩:=zJ h;simp only [decide_eq_true_eq] at h1;subst h1;exact ⟨_,st,[],h2,hs,rfl,rfl,by simp only [VK]; exact ⟨hv.get (by simp),trivial⟩,List.nodup_nil,(by simp),fun y hy=>hy⟩
  . cases h
 | .bool,N,st,s,v,v',K,hs,hv,h=>by
  simp only [getK] at h;split at h
  . exact ⟨_,st,[],h,hs,rfl,rfl,by simp only [VK]; exact ⟨hv.get (by simp),trivial⟩,List.nodup_nil,(by simp),fun y hy=>hy⟩
  . cases h
 | .str,N,st,s,v,v',K,hs,hv,h=>by
  simp only [getK] at h;split at h
  . exact ⟨_,st,[],h,hs,rfl,rfl,by simp only [VK]; exact ⟨hv.get (by simp),trivial⟩,List.nodup_nil,(by simp),fun y hy=>hy⟩
  . cases h
 | .dl i,N,st,s,v,v',K,hs,hv,h=>by
  simp only [getK] at h;split at h
  . exact ⟨_,st,[],h,hs,rfl,rfl,by simp only [VK]; exact ⟨hv.get (by simp),trivial⟩,List.nodup_nil,(by simp),fun y hy=>hy⟩
  . rename_i m j ys;have hq:=xh h; clear h; obtain ⟨rfl,h⟩:=hq;simp only [kH] at h;split at h
    . exact ⟨_,st,[],h,hs,rfl,rfl,by simp only [VK]; exact ⟨hv.get (by simp),trivial⟩,List.nodup_nil,(by simp),fun y hy=>hy⟩
    . rename_i n;obtain ⟨h1,h2⟩:=zJ h;refine ⟨_,st,[],h2,hs,rfl,rfl,?_,List.nodup_nil,(by simp),fun y hy=>hy⟩;simp only [VK];refine ⟨(hv.get (by simp)).trans ?_,trivial⟩;simp only [trT,trM];cases n <;> cases ys <;> simp at h1 <;> rfl
    . cases h
  . cases h
 | .bl i,N,st,s,v,v',K,hs,hv,h=>by
  simp only [getK] at h;split at h
  . exact ⟨_,st,[],h,hs,rfl,rfl,by simp only [VK]; exact ⟨hv.get (by simp),trivial⟩,List.nodup_nil,(by simp),fun y hy=>hy⟩
  . rename_i m j ys;have hq:=xh h; clear h; obtain ⟨rfl,h⟩:=hq;simp only [kH] at h;split at h
    . refine ⟨_,st,[],h,hs,rfl,rfl,?_,List.nodup_nil,(by simp),fun y hy=>hy⟩;simp only [VK];refine ⟨(hv.get (by simp)).trans ?_,trivial⟩;simp only [trT,trM];cases ys <;> rfl
    . exact ⟨_,st,[],h,hs,rfl,rfl,by simp only [VK]; exact ⟨hv.get (by simp),trivial⟩,List.nodup_nil,(by simp),fun y hy=>hy⟩
    . cases h
  . cases h
 | .ow nb i,N,st,s,v,v',K,hs,hv,h=>by
  simp only [getK] at h;split at h
  . rename_i m j ys;have hq:=xh h; clear h; obtain ⟨rfl,h⟩:=hq;simp only [kH] at h;split at h
    . rename_i t nb';obtain ⟨h1,h2⟩:=zJ h;simp only [Bool.and_eq_true] at h1;have hnb:=zTS h1.1;subst hnb;have hm:=zC1 h1.2;refine ⟨_,_,[.inl (N.tk t)],h2,hs.lessT t,rfl,rfl,?_,by simp,?_,fun y hy=>zPr hy⟩
      . simp only [VK];exact ⟨_,hv.get (by simp),hs.tgIn t hm,hs.nm t hm,rfl⟩
      . intro y hy;simp only [List.mem_singleton] at hy;subst hy;exact ⟨⟨t,hm,rfl⟩,zPu hs hm⟩
    . cases h
  . cases h
 | .arr i,N,st,s,v,v',K,hs,hv,h=>by
  simp only [getK] at h;split at h
  . exact ⟨_,st,[],h,hs,rfl,rfl,by simp only [VK]; exact ⟨hv.get (by simp),trivial⟩,List.nodup_nil,(by simp),fun y hy=>hy⟩
  . rename_i l n;split at h
    . rename_i j ys hl;have hq:=xh h; clear h; obtain ⟨rfl,h⟩:=hq;simp only [kH] at h;obtain ⟨h1,h2⟩:=zJ h;simp only [eqN,Nat.beq_eq] at h1;have hw:=hs.wf l _ hl;refine ⟨_,_,[.inr (N.bl l)],h2,hs.less l,rfl,rfl,?_,by simp,?_,fun y hy=>zHO hy⟩
      . simp only [VK];exact ⟨N.bl l,N.cp l,by rw [hv.get (by simp)]; simp only [trT,h1],hw.2,by rw [hs.box l _ hl]; rfl,rfl⟩
      . intro y hy;simp only [List.mem_singleton] at hy;subst hy;exact ⟨⟨l,_,hl,rfl⟩,zGy hs hl⟩
    . cases h
  . cases h
 | .box cs,N,st,s,v,v',K,hs,hv,h=>by
  simp only [getK] at h;split at h
  . rename_i l o;obtain ⟨h1,h2⟩:=zJ h;clear h;simp only [Nat.beq_eq] at h1;subst h1;split at h2
    . rename_i vs hl;rw [yy] at h2;obtain ⟨x,st',rs,q1,q2,q3,q4,q5,q6,q7,q8⟩:=jL hC cs (vs:=vs) (vs':=vs.map (trT C N)) (hs.less l) (by simp) (fun j x v a b=>by
       rw [List.getElem?_map,a] at b;injection b with b
       exact .inr b.symm) h2
      have hbox:=hs.box l _ hl;refine ⟨x,st',.inr (N.bl l)::rs,q1,q2,q3,q4,?_,?_,?_,fun y hy=>zHO (q8 y hy)⟩
      . simp only [VK];exact ⟨N.bl l,vs.map (trT C N),rs,hv.get (by simp),by rw [hbox]; simp [trB],q5,rfl⟩
      . exact List.nodup_cons.2 ⟨fun hh=>zGy hs hl (q7 _ hh).1,q6⟩
      . intro y hy;rcases List.mem_cons.1 hy with rfl | hy
        . exact ⟨⟨l,_,hl,rfl⟩,fun hh=>zGy hs hl (q8 _ hh)⟩
        . exact ⟨zHO (q7 y hy).1,(q7 y hy).2⟩
    . cases h2
  . cases h
 | .st i,N,st,s,v,v',K,hs,hv,h=>by
  simp only [getK] at h;obtain ⟨h1,h2⟩:=zJ h;obtain ⟨x,h3,h4⟩:=hC.dec i _ _ _ h2;refine ⟨x,st,[],h3,hs,rfl,rfl,?_,List.nodup_nil,(by simp),fun y hy=>hy⟩;simp only [VK];have hne:v≠.any:=fun e=>by
   subst e;have:=h4 N;have h5:=hC.size i x;have h6:=hC.ones i x;simp only [trT,V.untag,zn] at this;rw [<- this] at h6;simp [zH,V.flat,V.isOne] at h6
  exact ⟨by rw [hv.get hne,<- h4 N,zPe h1],trivial⟩
 | .mc1 i,N,st,s,v,v',K,hs,hv,h=>by
  simp only [getK] at h;split at h
  . rename_i l;split at h
    . rename_i o hl;split at h
      . rename_i j c;unfold sameM at h;split at h
        case isFalse=>cases h
        rename_i he;subst he;have hw:=hs.ob.wf l _ hl;obtain ⟨fp,h1⟩:=hs.ob.look l _ hl;refine ⟨c,_,[.ob (N.bl l)],h,hs.lessO l,rfl,rfl,?_,by simp,?_,fun y hy=>zQo hy⟩
        . simp only [VK];exact ⟨N.bl l,fp,by rw [hv.get (by simp)]; simp only [wfO] at hw; simp only [trT,if_neg hw],h1,rfl⟩
        . intro y hy;simp only [List.mem_singleton] at hy;subst hy;exact ⟨⟨l,_,hl,rfl⟩,zQz hs hl⟩
      . cases h
      . cases h
      . cases h
      . cases h
    . cases h
  . cases h
theorem jL (hC:CodOk C) {r:R}:∀ (l:List (SK U)) {N:NM} {st:St U} {s:S} {vs:List (T U)} {vs':List V} {K:zA l->St U->Option R},SSim C N st s->vs'.length=vs.length->(∀ (j:Nat) (x:T U) (v:V),vs[j]? = some x->vs'[j]? = some v->VR C N x v)->xA C l vs st K=some r ->
 ∃ x st' rs,K x st' = some r/\SSim C N st' s/\st'.nl=st.nl/\st'.nx=st.nx/\VKs C s l x vs' rs/\rs.Nodup/\(∀ y ∈ rs,Has N st y/\¬ Has N st' y)/\(∀ y,Has N st' y->Has N st y)
 | [],N,st,s,vs,vs',K,hs,hl,hv,h=>by
  simp only [xA] at h;cases vs with
  | cons _ _=>cases h
  | nil=>
   have:vs' = []:=by cases vs' <;> simp at hl ⊢
   exact ⟨_,st,[],h,hs,rfl,rfl,by simp only [VKs]; exact ⟨this,trivial⟩,List.nodup_nil,(by simp),fun y hy=>hy⟩
 | k::rest,N,st,s,vs,vs',K,hs,hl,hv,h=>by
  simp only [xA,yy] at h;cases vs with
  | nil=>cases h
  | cons v vs=>
   cases vs' with
   | nil=>simp at hl
   | cons v' vs'=>
    simp only at h;obtain ⟨x,st1,r1,q1,q2,q3,q4,q5,q6,q7,q8⟩:=zJF hC k hs (hv 0 v v' rfl rfl) h;obtain ⟨xs,st2,r2,p1,p2,p3,p4,p5,p6,p7,p8⟩:=jL hC rest (vs:=vs) (vs':=vs') q2 (by simpa using hl) (fun j x v a b=>hv (j+1) x v (by simpa using a) (by simpa using b)) q1;refine ⟨_,st2,r1++r2,p1,p2,p3.trans q3,p4.trans q4,?_,?_,?_,fun y hy=>q8 y (p8 y hy)⟩
    . simp only [VKs];exact ⟨v',vs',r1,r2,rfl,rfl,q5,p5⟩
    . refine List.nodup_append.2 ⟨q6,p6,fun a ha b hb e=>?_⟩;subst e;exact (q7 a ha).2 (p7 a hb).1
    . intro y hy;rcases List.mem_append.1 hy with hy | hy
      . exact ⟨(q7 y hy).1,fun hh=>(q7 y hy).2 (p8 y hh)⟩
      . exact ⟨q8 y (p7 y hy).1,(p7 y hy).2⟩
end
def xZ (l:Nat):List (SK U)->Nat->St U->(St U->Option R)->Option R
 | [],_,st,K=>K st
 | k::r,j,st,K=>
  match lk st.bx l with
  | some (.st vs)=>
   (match k with
   | .ow nb i=>bif nb then (match vs.getD j .any with
    | .nil=>feL (vs.set j (.lst (.ow st.nx true) i [])) fun vs'=>bif yG vs' && bdds st.nl (st.nx+1) vs' && Nat.blt j vs.length then (feS ⟨(l,some (.st vs'))::st.bx,st.nx::st.tg,st.nl,st.nx+1,st.ob⟩ fun st'=>xZ l r (j+1) st' K) else none
    | _=>xZ l r (j+1) st K) else xZ l r (j+1) st K
   | .arr _=>(match vs.getD j .any with
    | .sl l2 n=>(match lk st.bx l2 with
     | some (.ar i' xs)=>(feS ⟨(l2,some (.ar i' (yY n xs)))::st.bx,st.tg,st.nl,st.nx,st.ob⟩ fun st'=>xZ l r (j+1) st' K)
     | _=>xZ l r (j+1) st K)
    | _=>xZ l r (j+1) st K)
   | _=>xZ l r (j+1) st K)
  | _=>none
def xi:List (Nat×SK U)->En U->St U->(En U->St U->Option R)->Option R
 | [],e,st,K=>K e st
 | p::r,e,st,K=>
  match p.2 with
  | .ow nb i=>bif nb then (match eget e p.1 with
   | .nil=>feS ⟨st.bx,st.nx::st.tg,st.nl,st.nx+1,st.ob⟩ fun st'=>xi r ((p.1,.lst (.ow st.nx true) i [])::e) st' K
   | _=>xi r e st K) else xi r e st K
  | .arr _=>(match eget e p.1 with
   | .sl l n=>(match lk st.bx l with
    | some (.ar i' xs)=>feS ⟨(l,some (.ar i' (yY n xs)))::st.bx,st.tg,st.nl,st.nx,st.ob⟩ fun st'=>xi r e st' K
    | _=>xi r e st K)
   | _=>xi r e st K)
  | .box cs=>(match eget e p.1 with
   | .ptr l _=>xZ l cs 0 st fun st'=>feS st' fun st'=>xi r e st' K
   | _=>xi r e st K)
  | _=>xi r e st K
theorem zG1 (hC:CodOk C) {N:NM} {st:St U} {s:S} (hs:SSim C N st s) {l n:Nat} {i:U.I} {xs:List (U.den i)} (hl:lk st.bx l=some (.ar i xs)) :
 ∃ s',Gs s s'/\SSim C N ⟨(l,some (.ar i (yY n xs)))::st.bx,st.tg,st.nl,st.nx,st.ob⟩ s':=by
 have hw:=hs.wf l _ hl;have h1:=hs.setBox (b1:=.ar i (yY n xs)) hl ⟨hw.1,by unfold yY; rw [List.length_take]; have:=hw.2; omega⟩;refine ⟨_,?_,h1⟩;simp only [trB,yY,<- jo hC];exact zSK _ _ (hs.box l _ hl)
theorem zSV (hC:CodOk C) {X:Cx} {N:NM} {st:St U} {s:S} (hs:SSim C N st s) {e:En U} {E:Env} (he:ESim C N st e E) (k:Nat) (i:U.I) (hk:eget e k = .nil) :
 ∃ N' E' s',Gst X E s E' s'/\Turn N st N' ⟨st.bx,st.nx::st.tg,st.nl,st.nx+1,st.ob⟩/\SSim C N' ⟨st.bx,st.nx::st.tg,st.nl,st.nx+1,st.ob⟩ s'/\ESim C N' ⟨st.bx,st.nx::st.tg,st.nl,st.nx+1,st.ob⟩ (eput e (some k) (.lst (.ow st.nx true) i [])) E':=by
 have h1:=(he k).1;rw [hk] at h1;have h2:E.get k = .lst .nil []:=h1.get (by simp);have ht:Turn N st (N.tok st.nx s.nx) ⟨st.bx,st.nx::st.tg,st.nl,st.nx+1,st.ob⟩:=⟨N.ext_tok st.nl st.nx s.nx,Nat.le_refl _,Nat.le_succ _⟩;refine ⟨N.tok st.nx s.nx,_,_,zRX k (C.cells i) h2,ht,hs.newTok (n:=s.nx) (tg:=st.tg) (tg':=s.tg) (x:=s.nx+1) (fun _ h=>h) hs.tgIn (fun t ht=>Nat.ne_of_lt (hs.nm t ht)) (Nat.le_succ _) (Nat.lt_succ_self _),?_⟩;refine (he.turn ht).put (.inr ?_) (by simp [bdd,Nat.blt_eq]) (some k);have e1:(N.tok st.nx s.nx).tk st.nx=s.nx:=if_pos rfl;simp [trT,trM,e1]
theorem zQk (hC:CodOk C) {N:NM} {st:St U} {s:S} (hs:SSim C N st s) {e:En U} {E:Env} (he:ESim C N st e E) {l j:Nat} {i:U.I} {vs:List (T U)} (hl:lk st.bx l=some (.st vs)) (hj:vs.getD j .any = .nil) (hjl:j < vs.length)
 (h1:yG (vs.set j (.lst (.ow st.nx true) i []))=true) (h2:bdds st.nl (st.nx+1) (vs.set j (.lst (.ow st.nx true) i []))=true) :
 ∃ N' s',Gs s s'/\Turn N st N' ⟨(l,some (.st (vs.set j (.lst (.ow st.nx true) i []))))::st.bx,st.nx::st.tg,st.nl,st.nx+1,st.ob⟩ /\
  SSim C N' ⟨(l,some (.st (vs.set j (.lst (.ow st.nx true) i []))))::st.bx,st.nx::st.tg,st.nl,st.nx+1,st.ob⟩ s'/\ESim C N' ⟨(l,some (.st (vs.set j (.lst (.ow st.nx true) i []))))::st.bx,st.nx::st.tg,st.nl,st.nx+1,st.ob⟩ e E:=by
 have hb:=hs.box l _ hl;have hw:=hs.wf l _ hl;have hj':vs[j]? = some .nil:=by
  rw [List.getD_eq_getElem?_getD,List.getElem?_eq_getElem hjl] at hj;rw [List.getElem?_eq_getElem hjl];exact congrArg some hj
 have ht:Turn N st (N.tok st.nx s.nx) ⟨(l,some (.st (vs.set j (.lst (.ow st.nx true) i []))))::st.bx,st.nx::st.tg,st.nl,st.nx+1,st.ob⟩:=⟨N.ext_tok st.nl st.nx s.nx,Nat.le_refl _,Nat.le_succ _⟩;have hn:=hs.newTok (n:=s.nx) (tg:=st.tg) (tg':=s.tg) (x:=s.nx+1) (fun _ h=>h) hs.tgIn (fun t ht=>Nat.ne_of_lt (hs.nm t ht)) (Nat.le_succ _) (Nat.lt_succ_self _);have hn2:=hn.setBox (l0:=l) (b1:=.st (vs.set j (.lst (.ow st.nx true) i []))) hl ⟨h2,h1⟩;refine ⟨N.tok st.nx s.nx,_,?_,ht,hn2,he.turn ht⟩;have e1:(N.tok st.nx s.nx).tk st.nx=s.nx:=if_pos rfl;have e2:(vs.set j (.lst (.ow st.nx true) i [])).map (trT C (N.tok st.nx s.nx))=(vs.map (trT C N)).set j (.lst (.own s.nx true (C.cells i)) []):=by
  rw [List.map_set,yn ht.ext hw.1];simp [trT,trM,e1]
 simp only [trB,e2,List.length_set];exact zQP _ j (C.cells i) hb (by rw [List.getElem?_map,hj']; rfl)
end
open Go.Al
section
variable {U:TyU} {C:Cod U} {R:Type} {r:R}
theorem kP (hC:CodOk C) {l:Nat} {e:En U} {E:Env}:∀ (ks:List (SK U)) (j:Nat) {N:NM} {st:St U} {s:S} {K:St U->Option R},SSim C N st s->ESim C N st e E->xZ l ks j st K=some r ->
 ∃ N' st' s',K st' = some r/\Gs s s'/\Turn N st N' st'/\SSim C N' st' s'/\ESim C N' st' e E
 | [],j,N,st,s,K,hs,he,h=>⟨N,st,s,h,.refl _,.refl _ _,hs,he⟩
 | k::rest,j,N,st,s,K,hs,he,h=>by
  simp only [xZ,yy] at h;have go:xZ l rest (j+1) st K=some r->∃ N' st' s',K st' = some r/\Gs s s'/\Turn N st N' st'/\SSim C N' st' s'/\ESim C N' st' e E:=fun hh=>kP hC rest (j+1) hs he hh;split at h
  . rename_i vs hl;split at h
    . rename_i nb i;cases nb with
      | false=>exact go h
      | true=>
       simp only [cond_true] at h;split at h
       . rename_i hj;rw [zAy] at h;obtain ⟨h1,h2⟩:=zJ h;simp only [Bool.and_eq_true] at h1;obtain ⟨N1,s1,q1,q2,q3,q4⟩:=zQk hC hs he hl hj (yT h1.2) h1.1.1 h1.1.2;obtain ⟨N2,st2,s2,p1,p2,p3,p4,p5⟩:=kP hC rest (j+1) q3 q4 h2;exact ⟨N2,st2,s2,p1,q1.trans p2,q2.trans p3,p4,p5⟩
       . exact go h
    . split at h
      . rename_i l2 n _;split at h
        . rename_i i' xs hl2;obtain ⟨s1,q1,q2⟩:=zG1 hC hs (n:=n) hl2;have ht:Turn N st N ⟨(l2,some (.ar i' (yY n xs)))::st.bx,st.tg,st.nl,st.nx,st.ob⟩:=⟨.refl _ _ _,Nat.le_refl _,Nat.le_refl _⟩;obtain ⟨N2,st2,s2,p1,p2,p3,p4,p5⟩:=kP hC rest (j+1) q2 (he.turn ht) h;exact ⟨N2,st2,s2,p1,q1.trans p2,ht.trans p3,p4,p5⟩
        . exact go h
      . exact go h
    . exact go h
  . cases h
theorem zAQ (hC:CodOk C) {X:Cx}:∀ (vars:List (Nat×SK U)) {e:En U} {E:Env} {N:NM} {st:St U} {s:S} {K:En U->St U->Option R},SSim C N st s->ESim C N st e E->xi vars e st K=some r ->
 ∃ N' e' st' E' s',K e' st' = some r/\Gst X E s E' s'/\Turn N st N' st'/\SSim C N' st' s'/\ESim C N' st' e' E'/\∀ j,(∀ p ∈ vars,p.1≠j)->eget e' j=eget e j
 | [],e,E,N,st,s,K,hs,he,h=>⟨N,e,st,E,s,h,.refl _ _ _,.refl _ _,hs,he,fun _ _=>rfl⟩
 | p::rest,e,E,N,st,s,K,hs,he,h=>by
  simp only [xi,yy] at h;have go:xi rest e st K=some r->∃ N' e' st' E' s',K e' st' = some r/\Gst X E s E' s'/\Turn N st N' st'/\SSim C N' st' s'/\ESim C N' st' e' E'/\∀ j,(∀ q ∈ p::rest,q.1≠j)->eget e' j=eget e j:=fun hh=>by
   obtain ⟨N',e',st',E',s',q1,q2,q3,q4,q5,q6⟩:=zAQ hC rest hs he hh;exact ⟨N',e',st',E',s',q1,q2,q3,q4,q5,fun j hj=>q6 j fun q hq=>hj q (by simp [hq])⟩
  split at h
  . rename_i nb i _;cases nb with
    | false=>exact go h
    | true=>
     simp only [cond_true] at h;split at h
     . rename_i hk;obtain ⟨N1,E1,s1,q1,q2,q3,q4⟩:=zSV (X:=X) hC hs he p.1 i hk;obtain ⟨N2,e2,st2,E2,s2,p1,p2,p3,p4,p5,p6⟩:=zAQ hC rest q3 q4 h;refine ⟨N2,e2,st2,E2,s2,p1,q1.trans p2,q2.trans p3,p4,p5,fun j hj=>?_⟩;rw [p6 j fun q hq=>hj q (by simp [hq])];have hne:=hj p (by simp);simp [eput,eget,ym hne]
     . exact go h
  . split at h
    . rename_i l n _;split at h
      . rename_i i' xs hl;obtain ⟨s1,q0,q2⟩:=zG1 hC hs (n:=n) hl;have q1:Gst X E s E s1:=q0.gst;have ht:Turn N st N ⟨(l,some (.ar i' (yY n xs)))::st.bx,st.tg,st.nl,st.nx,st.ob⟩:=⟨.refl _ _ _,Nat.le_refl _,Nat.le_refl _⟩;obtain ⟨N2,e2,st2,E2,s2,p1,p2,p3,p4,p5,p6⟩:=zAQ hC rest q2 (he.turn ht) h;exact ⟨N2,e2,st2,E2,s2,p1,q1.trans p2,ht.trans p3,p4,p5,fun j hj=>p6 j fun q hq=>hj q (by simp [hq])⟩
      . exact go h
    . exact go h
  . split at h
    . rename_i cs _ _ l _ _;obtain ⟨N1,st1,s1,q1,q0,q3,q4,q5⟩:=kP hC cs 0 hs he h;have q2:Gst X E s E s1:=q0.gst;obtain ⟨N2,e2,st2,E2,s2,p1,p2,p3,p4,p5,p6⟩:=zAQ hC rest q4 q5 q1;exact ⟨N2,e2,st2,E2,s2,p1,q2.trans p2,q3.trans p3,p4,p5,fun j hj=>p6 j fun q hq=>hj q (by simp [hq])⟩
    . exact go h
  . exact go h
variable (C)
def zC5 {R:Type}:List (SK U)->List (T U)->St U->(St U->Option R)->Option R
 | [],_,st,K=>K st
 | k::r,ts,st,K=>(match ts with
  | []=>none
  | t::ts=>(match k with
   | .box cs=>(match t with
    | .ptr l _=>xZ l cs 0 st fun st'=>feS st' fun st'=>zC5 r ts st' K
    | _=>none)
   | .arr _=>(match t with
    | .nil=>zC5 r ts st K
    | .sl l n=>(match lk st.bx l with
     | some (.ar i' xs)=>feS ⟨(l,some (.ar i' (yY n xs)))::st.bx,st.tg,st.nl,st.nx,st.ob⟩ fun st'=>zC5 r ts st' K
     | _=>none)
    | _=>none)
   | _=>none))
def putB {R:Type}:(k:SK U)->denK k->T U->St U->(St U->Option R)->Option R
 | .box cs,x,t,st,K=>(match t with
  | .ptr l o=>kC C cs x st fun vs st'=>bif yG vs && Nat.beq o 0 && Nat.blt l st.nl then feS ⟨(l,some (.st vs))::st'.bx,st'.tg,st'.nl,st'.nx,st'.ob⟩ K else none
  | _=>none)
 | _,_,_,_,_=>none
def zIH {R:Type}:(l:List (SK U))->zA l->List (T U)->St U->(St U->Option R)->Option R
 | [],_,ts,st,K=>(match ts with | []=>K st | _::_=>none)
 | k::r,x,ts,st,K=>(match ts with
  | []=>none
  | t::ts=>putB C k x.1 t st fun st'=>zIH r x.2 ts st' K)
def putP {R:Type}:(k:SK U)->denK k->T U->St U->(St U->Option R)->Option R
 | .box cs,x,t,st,K=>putB C (.box cs) x t st K
 | .arr i,x,t,st,K=>(match t with
  | .nil=>zAC x (K st) fun _=>none
  | .sl l _=>zAC x none fun ys=>bif Nat.blt l st.nl then feS ⟨(l,some (.ar i ys))::st.bx,st.tg,st.nl,st.nx,st.ob⟩ K else none
  | _=>none)
 | _,_,_,_,_=>none
def zKg {R:Type}:(l:List (SK U))->zA l->List (T U)->St U->(St U->Option R)->Option R
 | [],_,ts,st,K=>(match ts with | []=>K st | _::_=>none)
 | k::r,x,ts,st,K=>(match ts with
  | []=>none
  | t::ts=>putP C k x.1 t st fun st'=>zKg r x.2 ts st' K)
structure Head (U:TyU) where
 fixed:List Nat
 vars:List (Nat×SK U)
 ptrs:List (Nat×SK U):=[]
structure FI (U:TyU) where
 wr:Nat->Bool
 own:Nat->Bool
 kf:Nat->List Nat
 hd:Nat->Option (Head U)
 jn:Nat->Option (Head U)
 kl:Nat->List (Nat×Nat×Nat):=fun _=>[]
 fz:Nat->List Nat:=fun _=>[]
def hid:Code->Nat
 | .region id _ _=>id
 | .seq a _=>hid a
 | .cond _ a _=>hid a
 | .block _ b=>hid b
 | .loop b=>hid b
 | .scope b=>hid b
 | _=>0
def dsts (fi:FI U):Code->List Nat
 | .region id ops _=>fi.fz id++dstL ops.toList
 | .seq a b=>dsts fi a++((match fi.jn (hid b) with | some h=>h.vars.map (·.1) | none=>[])++dsts fi b)
 | .cond _ a b=>dsts fi a++dsts fi b
 | .block _ b=>dsts fi b
 | .scope b=>dsts fi b
 | .loop b=>(match fi.hd (hid b) with | some h=>h.vars.map (·.1) | none=>[])++dsts fi b
 | _=>[]
def zEs {R:Type}:List Nat->En U->(En U->Option R)->Option R
 | [],_,K=>K []
 | k::r,e,K=>fe (eget e k) fun v=>zEs r e fun l=>K ((k,v)::l)
theorem zEV {R:Type}:∀ (ks:List Nat) (e:En U) (K:En U->Option R),zEs ks e K=K (ks.map fun k=>(k,eget e k))
 | [],_,_=>rfl
 | k::r,e,K=>by simp only [zEs,zBh,zEV r,List.map_cons]
def isAny:T U->Bool
 | .any=>true
 | _=>false
def kV:List Nat->En U->Bool
 | [],_=>true
 | k::r,e=>!(isAny (eget e k)) && kV r e
def zAP:List Nat->List Nat->Bool
 | [],_=>true
 | k::r,l=>!(hasN l k) && zAP r l
def zipV:List (Nat×SK U)->List (T U)->En U
 | p::r,v::vs=>(p.1,v)::zipV r vs
 | _,_=>[]
def qw:List (Nat×SK U)->En U->List (T U)
 | [],_=>[]
 | p::r,e=>eget e p.1::qw r e
def yM:List (Nat×SK U)->List (SK U)
 | []=>[]
 | p::r=>p.2::yM r
def iter {σ R:Type}:Nat->((σ->Option R)->σ->Option R)->σ->Option R
 | 0,_,_=>none
 | n+1,F,s=>F (iter n F) s
def zCG {σ R:Type} (F:(σ->Option R)->Option R) (j:σ->Option R):Option R:=F j
def zKd (a b:List Nat):Bool:=a.all fun k=>hasN b k
def qE (fi:FI U):Code->Bool
 | .seq a b=>(match fi.jn (hid b) with | some h=>zAP h.fixed (h.vars.map (·.1)++dsts fi a) && zKd (h.ptrs.map (·.1)) h.fixed | none=>true) && (qE fi a && qE fi b)
 | .cond _ a b=>qE fi a && qE fi b
 | .block _ b=>qE fi b
 | .scope b=>qE fi b
 | .loop b=>(match fi.hd (hid b) with | some h=>zAP h.fixed (h.vars.map (·.1)++dsts fi b) && zKd (h.ptrs.map (·.1)) h.fixed | none=>true) && qE fi b
 | _=>true
def zDd {R:Type} (h:Head U) (e:En U) (st:St U) (j:zA (yM h.vars)×zA (yM h.ptrs)->Option R):Option R:=
 xi h.vars e st fun e1 st1=>feS st1 fun st1=>feA (qw h.ptrs e1) fun ps=>zC5 (yM h.ptrs) ps st1 fun st2=>feA (qw h.vars e1) fun vs=>xA C (yM h.vars) vs st2 fun x st3=>feS st3 fun st3=>xA C (yM h.ptrs) ps st3 fun y _=>j (x,y)
def zFG {R:Type} (h:Head U) (p:zA (yM h.vars)×zA (yM h.ptrs)) (e:En U) (st:St U) (K:List (T U)->St U->Option R):Option R:=
 kC C (yM h.vars) p.1 ⟨[],[],st.nl,st.nx,[]⟩ fun vs st2=>feS st2 fun st2=>feA (qw h.ptrs e) fun ps=>zKg C (yM h.ptrs) p.2 ps st2 fun st3=>K vs st3
variable (Tb:TypeId->TD U)
def feE {R:Type}:En U->(En U->Option R)->Option R
 | [],k=>k []
 | p::r,k=>match p with | (i,x)=>fN i fun i=>feE r fun r'=>k ((i,x)::r')
theorem zKj {R:Type}:∀ (l:En U) (k:En U->Option R),feE l k=k l
 | [],_=>rfl
 | (i,x)::r,k=>by simp only [feE,zo,zKj r]
def told (e:En U) (c:Operand) (t:Bool):En U:=
 match c with
 | .tmp d=>eput e (some d) (.bool t)
 | _=>e
def frzL:List Nat->En U->St U->(En U->St U->Option R)->Option R
 | [],e,st,K=>K e st
 | t::r,e,st,K=>match eget e t with
  | .sl l n=>(match lk st.bx l with
   | some (.ar i xs)=>bif Nat.ble n xs.length then frzL r ((t,.lst (.b false) i (yY n xs))::e) ⟨(l,none)::st.bx,st.tg,st.nl,st.nx,st.ob⟩ K else none
   | _=>none)
  | _=>frzL r e st K
def drun (fu:Nat) (call:Call U R) (fi:FI U):Code->En U->St U->(Exit->En U->St U->Option R)->Option R
 | .skip,e,st,k=>k .normal e st
 | .region id ops d,e,st,k=>frzL (fi.fz id) e st fun e st=>kdOf (bif d then fi.kl id else []) e fun kd=>dops C Tb call fi.wr fi.own kd (ops.toList.map (·.dst)) ops.toList e st fun e' st'=>zEs (fi.kf id) e' fun e''=>k .normal e'' st'
 | .seq a b,e,st,k=>
  match fi.jn (hid b) with
  | none=>drun fu call fi a e st fun ex e' st'=>match ex with | .normal=>drun fu call fi b e' st' k | ex=>k ex e' st'
  | some h=>
   zEs h.fixed e fun fx=>bif kV h.fixed fx then
    zCG (fun j=>drun fu call fi a e st fun ex e' st'=>match ex with
     | .normal=>bif kV h.fixed e' then zDd C h e' st' fun x=>j x else none
     | ex=>k ex e' st')
     fun x=>zFG C h x e st fun vs st2=>feE (fx++zipV h.vars vs) fun e0=>drun fu call fi b e0 st2 k
   else none
 | .cond c a b,e,st,k=>match evT e c with
  | .bool t=>bif t then drun fu call fi a (told e c true) st k else drun fu call fi b (told e c false) st k
  | _=>none
 | .block id b,e,st,k=>drun fu call fi b e st fun ex e' st'=>match ex with
  | .exit id'=>bif Nat.beq id' id then k .normal e' st' else k (.exit id') e' st'
  | ex=>k ex e' st'
 | .loop b,e,st,k=>
  match fi.hd (hid b) with
  | none=>none
  | some h=>
   zEs h.fixed e fun fx=>bif kV h.fixed fx then
    zDd C h e st fun x0=>
    iter fu (fun rec x=>zFG C h x e st fun vs st2=>
     feE (fx++zipV h.vars vs) fun e0=>drun fu call fi b e0 st2 fun ex e' st'=>match ex with
      | .normal=>bif kV h.fixed e' then zDd C h e' st' fun x=>rec x else none
      | ex=>k ex e' st') x0
   else none
 | .exit id,e,st,k=>k (.exit id) e st
 | .ret,e,st,k=>k .ret e st
 | .scope b,e,st,k=>drun fu call fi b e st fun ex e' st'=>match ex with | .goto _=>none | ex=>k ex e' st'
 | .label _,e,st,k=>k .normal e st
 | _,_,_,_=>none
end
open Go.Al
section
variable {U:TyU} {C:Cod U} {P:Program} {Tb:TypeId->TD U} {R:Type} {r:R}
theorem zP3 {X:Cx} {Q:Exit->Env->S->Prop} {c:Code} {α:Type} (I:α->Env->S->Prop) (μ:α->Nat) {x₀:α} {E E0:Env} {s s0:S} (h0:I x₀ E0 s0) (hg:Gst X E s E0 s0)
 (round:∀ x E s,I x E s->awp P X c (zDP (fun E' s'=>∃ x' E2 s2,I x' E2 s2/\μ x' < μ x/\Gst X E' s' E2 s2) Q) E s):awp P X (.loop c) Q E s:=by
 refine zI2 hg ?_;intro g a w hr;refine wpIn_loop_ghost (fun n a' w'=>∃ x E s g',μ x=n/\I x E s/\Step X.B g w g' w'/\Rel X g' E s a' w') (μ x₀) ⟨x₀,E0,s0,g,rfl,h0,.refl _ _ _,hr⟩ ?_;rintro n a1 w1 ⟨x,E1,s1,g1,rfl,p1,p2,p3⟩;refine wpIn_mono (round x E1 s1 p1 g1 a1 w1 p3) ?_;rintro ex a2 w2 ⟨g2,e2,st2,q1,q2,q3⟩;cases ex with
 | normal=>
  obtain ⟨x2,E2,s2,r1,r2,r3⟩:=q3;obtain ⟨g3,r4,r5⟩:=r3 g2 a2 w2 q2;exact ⟨μ x2,r2,x2,E2,s2,g3,rfl,r1,(p2.trans q1).trans r4,r5⟩
 | exit id=>exact ⟨g2,e2,st2,p2.trans q1,q2,q3⟩
 | goto l=>exact ⟨g2,e2,st2,p2.trans q1,q2,q3⟩
 | ret=>exact ⟨g2,e2,st2,p2.trans q1,q2,q3⟩
 | panic c=>exact ⟨g2,e2,st2,p2.trans q1,q2,q3⟩
 | outgrown=>exact ⟨g2,e2,st2,p2.trans q1,q2,q3⟩
theorem hasN_iff {l:List Nat} {t:Nat}:hasN l t=true↔t ∈ l:=by
 refine ⟨zC1,fun h=>?_⟩
 induction l with
 | nil=>simp at h
 | cons k r ih=>
  simp only [hasN];by_cases e:k=t
  . have:Nat.beq k t=true:=by simpa using e
    simp [this]
  . simp only [ym e,cond_false];rcases List.mem_cons.1 h with h | h
    . exact absurd h.symm e
    . exact ih h
theorem zAR:∀ {a l:List Nat},zAP a l=true->∀ k ∈ a,k ∉ l
 | [],_,_,k,hk=>by simp at hk
 | x::r,l,h,k,hk=>by
  simp only [zAP,Bool.and_eq_true,Bool.not_eq_true'] at h;rcases List.mem_cons.1 hk with rfl | hk
  . intro hh;have:=hasN_iff.2 hh;rw [this] at h;simp at h
  . exact zAR h.2 k hk
theorem zDX:∀ {f v w:List Nat},zAP f (v++w)=true->zAP f v=true
 | [],_,_,_=>rfl
 | a::r,v,w,h=>by
  simp only [zAP,Bool.and_eq_true,Bool.not_eq_true'] at h ⊢;refine ⟨?_,zDX h.2⟩;cases hh:hasN v a with
  | false=>rfl
  | true=>
   have:=hasN_iff.2 (List.mem_append_left w (hasN_iff.1 hh));rw [this] at h; simp at h
theorem zAV:∀ {a:List Nat} {e:En U},kV a e=true->∀ k ∈ a,eget e k≠.any
 | [],_,_,k,hk=>by simp at hk
 | x::r,e,h,k,hk=>by
  simp only [kV,Bool.and_eq_true,Bool.not_eq_true'] at h;rcases List.mem_cons.1 hk with rfl | hk
  . intro hh;rw [hh] at h;simp [isAny] at h
  . exact zAV h.2 k hk
theorem qQ (ks:List Nat) (e:En U) (k:Nat):eget (ks.map fun k=>(k,eget e k)) k=if k ∈ ks then eget e k else .any:=by
 induction ks with
 | nil=>rfl
 | cons x r ih=>
  simp only [List.map_cons,eget];by_cases hx:x=k
  . subst hx;have:Nat.beq x x=true:=by simp
    simp [this]
  . simp only [ym hx,cond_false,ih,List.mem_cons];have:¬ k=x:=fun e=>hx e.symm;simp [this]
theorem zQg (ks:List Nat) (E:Env) (k:Nat):(jP ks E).get k=if k ∈ ks then E.get k else .any:=by
 induction ks with
 | nil=>rfl
 | cons x r ih=>
  simp only [jP,List.map_cons,Env.get];by_cases hx:x=k
  . subst hx; simp
  . have h2:¬ k=x:=fun e=>hx e.symm;simp only [if_neg hx,List.mem_cons,h2,false_or];exact ih
theorem ESim.keep {N:NM} {st:St U} {e:En U} {E:Env} (h:ESim C N st e E) (ks:List Nat):ESim C N st (ks.map fun k=>(k,eget e k)) (jP ks E):=fun k=>by
 rw [qQ,zQg];split
 . exact h k
 . exact ⟨.inl rfl,rfl⟩
theorem zDY (a b:En U) (k:Nat):eget (a++b) k=if k ∈ a.map (·.1) then eget a k else eget b k:=by
 induction a with
 | nil=>simp
 | cons p r ih=>
  simp only [List.cons_append,eget,List.map_cons,List.mem_cons];by_cases hx:p.1=k
  . have:Nat.beq p.1 k=true:=by simpa using hx
    simp [this,hx]
  . have h2:¬ k=p.1:=fun e=>hx e.symm;simp only [ym hx,cond_false,ih,h2,false_or]
theorem SSim.reBox {N:NM} {st:St U} {s:S} (hs:SSim C N st s) {l:Nat} {bx:Bx U} (hlt:l < st.nl) (hno:¬ Has N st (.inr (N.bl l))) (hl:Al.look s.box (N.bl l)=some (trB C N l bx)) (hw:wfB C N st.nl st.nx l bx) :
 SSim C N ⟨(l,some bx)::st.bx,st.tg,st.nl,st.nx,st.ob⟩ s:=by
 have key:∀ {j b},lk ((l,some bx)::st.bx) j=some b->(j=l/\b=bx)\/(j≠l/\lk st.bx j=some b):=fun {j b} h=>by
  rw [xS] at h;split at h
  . rename_i e; injection h with h; exact .inl ⟨e.symm,h.symm⟩
  . rename_i e; exact .inr ⟨fun e'=>e e'.symm,h⟩
 have hne:∀ j b,lk st.bx j=some b->N.bl j≠N.bl l:=fun j b h e=>hno ⟨j,b,h,e⟩;refine ⟨fun j b h=>?_,fun j b h=>?_,fun j b h=>?_,fun j j' b b' h1 h2 he=>?_,hs.tgIn,hs.tgInj,hs.tgLt,hs.nm,hs.ob⟩
 . rcases key h with ⟨rfl,rfl⟩ | ⟨_,h⟩
   . exact hl
   . exact hs.box j b h
 . rcases key h with ⟨rfl,rfl⟩ | ⟨_,h⟩
   . exact hlt
   . exact hs.lt j b h
 . rcases key h with ⟨rfl,rfl⟩ | ⟨_,h⟩
   . exact hw
   . exact hs.wf j b h
 . rcases key h1 with ⟨e1,e2⟩ | ⟨_,p1⟩ <;> rcases key h2 with ⟨e3,e4⟩ | ⟨_,p2⟩
   . rw [e1,e3]
   . subst e1; exact absurd he.symm (hne j' b' p2)
   . subst e3; exact absurd he (hne j b p1)
   . exact hs.inj j j' b b' p1 p2 he
theorem zQM {N:NM} {st:St U} {l:Nat} {bx:Bx U} {y:Res} (h:Has N ⟨(l,some bx)::st.bx,st.tg,st.nl,st.nx,st.ob⟩ y):y = .inr (N.bl l)\/Has N st y:=by
 cases y with
 | inl n=>exact .inr h
 | ob b=>exact .inr h
 | inr b=>
  obtain ⟨j,x,hj,he⟩:=h;have hj':lk ((l,some bx)::st.bx) j=some x:=hj;rw [xS] at hj';split at hj'
  . rename_i e; subst e; exact .inl (by rw [he])
  . exact .inr ⟨j,x,hj',he⟩
theorem zOJ (hC:CodOk C) {r:R}:∀ (k:SK U) (x:denK k) (t:T U) {N:NM} {st:St U} {s:S} {rs:List Res} {K:St U->Option R},SSim C N st s->VK C s k x (trT C N t) rs->rs.Nodup->(∀ y ∈ rs,¬ Has N st y)->bdd st.nl st.nx t=true->putB C k x t st K=some r ->
 ∃ N' st',K st' = some r/\Turn N st N' st'/\SSim C N' st' s/\(∀ y,Has N' st' y->Has N st y\/y ∈ rs)
 | .box cs,x,t,N,st,s,rs,K,hs,hv,hn,hd,hb,h=>by
  simp only [putB] at h;cases t with
  | ptr l o=>
   simp only at h;simp only [VK] at hv;obtain ⟨b,vs,rs',hbv,h1,h2,rfl⟩:=hv;obtain ⟨hn1,hn2⟩:=List.nodup_cons.1 hn;obtain ⟨N1,vs',st1,h3,h4,h5,h6,h7,h8⟩:=jH hC cs x hs h2 hn2 (fun y hy=>hd y (by simp [hy])) h;obtain ⟨h9,h10⟩:=zJ h3;rw [yy] at h10;simp only [Bool.and_eq_true] at h9;obtain ⟨⟨h11,h12⟩,h13⟩:=h9;have hlt:=yT h13;simp only [trT] at hbv;injection hbv with hbv
   injection hbv with hbv
   injection hbv with hbv
   injection hbv with e1 _ _
   have hbl:N1.bl l=b:=(h4.ext.bl l hlt).trans e1;have hlen:vs'.length=vs.length:=by have:=congrArg List.length h6; simpa using this
   refine ⟨N1,_,h10,⟨h4.ext,h4.nl,h4.nx⟩,h5.reBox (Nat.lt_of_lt_of_le hlt h4.nl) (fun hh=>?_) (by rw [hbl]; simp only [trB]; rw [h6,hlen]; exact h1) ⟨h7,h11⟩,fun y hy=>?_⟩
   . rw [hbl] at hh;rcases h8 _ hh with q | q
     . exact hd _ (by simp) q
     . exact hn1 q
   . rcases zQM hy with q | q
     . rw [hbl] at q; exact .inr (by rw [q]; simp)
     . rcases h8 _ q with q | q
       . exact .inl q
       . exact .inr (by simp [q])
  | _=>simp at h
 | .int _,x,t,N,st,s,rs,K,hs,hv,hn,hd,hb,h=>by simp [putB] at h
 | .bool,x,t,N,st,s,rs,K,hs,hv,hn,hd,hb,h=>by simp [putB] at h
 | .str,x,t,N,st,s,rs,K,hs,hv,hn,hd,hb,h=>by simp [putB] at h
 | .dl _,x,t,N,st,s,rs,K,hs,hv,hn,hd,hb,h=>by simp [putB] at h
 | .bl _,x,t,N,st,s,rs,K,hs,hv,hn,hd,hb,h=>by simp [putB] at h
 | .ow _ _,x,t,N,st,s,rs,K,hs,hv,hn,hd,hb,h=>by simp [putB] at h
 | .arr _,x,t,N,st,s,rs,K,hs,hv,hn,hd,hb,h=>by simp [putB] at h
 | .st _,x,t,N,st,s,rs,K,hs,hv,hn,hd,hb,h=>by simp [putB] at h
 | .mc1 _,x,t,N,st,s,rs,K,hs,hv,hn,hd,hb,h=>by simp [putB] at h
theorem zLh (hC:CodOk C) {r:R}:∀ (l:List (SK U)) (x:zA l) (ts:List (T U)) {N:NM} {st:St U} {s:S} {rs:List Res} {K:St U->Option R},SSim C N st s->VKs C s l x (ts.map (trT C N)) rs->rs.Nodup->(∀ y ∈ rs,¬ Has N st y)->bdds st.nl st.nx ts=true->zIH C l x ts st K=some r ->
 ∃ N' st',K st' = some r/\Turn N st N' st'/\SSim C N' st' s/\(∀ y,Has N' st' y->Has N st y\/y ∈ rs)
 | [],x,ts,N,st,s,rs,K,hs,hv,hn,hd,hb,h=>by
  cases ts with
  | nil=>exact ⟨N,st,h,.refl _ _,hs,fun y hy=>.inl hy⟩
  | cons t ts=>cases h
 | k::rest,x,ts,N,st,s,rs,K,hs,hv,hn,hd,hb,h=>by
  cases ts with
  | nil=>cases h
  | cons t ts=>
   simp only [zIH] at h;simp only [VKs,List.map_cons] at hv;obtain ⟨v,vs',r1,r2,he,rfl,h1,h2⟩:=hv;injection he with e1 e2
   subst e1;simp only [bdds,Bool.and_eq_true] at hb;obtain ⟨hn1,hn2,hn3⟩:=List.nodup_append.1 hn;obtain ⟨N1,st1,h3,h4,h5,h6⟩:=zOJ hC k x.1 t hs h1 hn1 (fun y hy=>hd y (by simp [hy])) hb.1 h;have e3:ts.map (trT C N1)=ts.map (trT C N):=yn h4.ext hb.2;obtain ⟨N2,st2,q3,q4,q5,q6⟩:=zLh hC rest x.2 ts h5 (by rw [e3,e2]; exact h2) hn2 (fun y hy hh=>by
    rcases h6 y hh with q | q
    . exact hd y (by simp [hy]) q
    . exact hn3 y q y hy rfl) (yj h4.nl h4.nx _ hb.2) h3
   refine ⟨N2,st2,q3,h4.trans q4,q5,fun y hy=>?_⟩;rcases q6 y hy with q | q
   . rcases h6 y q with q' | q'
     . exact .inl q'
     . exact .inr (by simp [q'])
   . exact .inr (by simp [q])
theorem zLu {nl nx:Nat}:∀ {vs:List (T U)},bdds nl nx vs=true->∀ v ∈ vs,bdd nl nx v=true
 | [],_,v,hv=>by simp at hv
 | x::r,h,v,hv=>by
  simp only [bdds,Bool.and_eq_true] at h;rcases List.mem_cons.1 hv with rfl | hv
  . exact h.1
  . exact zLu h.2 v hv
def szOk (C:Cod U) (N:NM):SK U->T U->Prop
 | .arr i,.sl l _=>N.sz l=C.cells i
 | _,_=>True
theorem zSz {N N':NM} {nl nx:Nat} (h:Ext nl nx N N'):∀ (k:SK U) (t:T U),bdd nl nx t=true->szOk C N' k t->szOk C N k t:=fun k t hb hz=>by
 unfold szOk at hz ⊢;split
 . simp only [bdd] at hb;simp only at hz;rw [<- h.sz _ (yT hb)];exact hz
 . trivial
theorem zOD {N N':NM} {nl nx:Nat} (h:Ext nl nx N N'):∀ (k:SK U) (t:T U),bdd nl nx t=true->szOk C N k t->szOk C N' k t:=fun k t hb hz=>by
 unfold szOk at hz ⊢;split
 . simp only [bdd] at hb;simp only at hz;rw [h.sz _ (yT hb)];exact hz
 . trivial
theorem zTr (hC:CodOk C) {N:NM} {st:St U} {s:S} (hs:SSim C N st s):∀ (k:SK U) (v:T U) {K:denK k->St U->Option R},getK C k v st K=some r->szOk C N k v:=fun k v K h=>by
 unfold szOk;split
 . simp only [getK] at h;split at h
   . rename_i hl;have hq:=xh h;obtain ⟨rfl,_⟩:=hq;exact (hs.wf _ _ hl).1
   . cases h
 . trivial
theorem zMR (hC:CodOk C):∀ (l:List (SK U)) {N:NM} {st:St U} {s:S} {vs:List (T U)} {vs':List V} {K:zA l->St U->Option R},SSim C N st s->vs'.length=vs.length->(∀ (j:Nat) (x:T U) (v:V),vs[j]? = some x->vs'[j]? = some v->VR C N x v)->xA C l vs st K=some r ->
 ∀ (j:Nat) (k:SK U) (v:T U),l[j]? = some k->vs[j]? = some v->szOk C N k v
 | [],N,st,s,vs,vs',K,hs,hl,hv,h,j,k,v,hk,_=>by simp at hk
 | k0::rest,N,st,s,vs,vs',K,hs,hl,hv,h,j,k,v,hk,hj=>by
  simp only [xA,yy] at h;cases vs with
  | nil=>cases h
  | cons v0 vs=>
   cases vs' with
   | nil=>simp at hl
   | cons v0' vs'=>
    simp only at h;cases j with
    | zero=>
     injection hk with hk
     injection hj with hj
     subst hk hj;exact zTr hC hs k0 v0 h
    | succ j=>
     obtain ⟨x,st1,r1,q1,q2,q3,q4,q5,q6,q7,q8⟩:=zJF hC k0 hs (hv 0 v0 v0' rfl rfl) h;exact zMR hC rest (vs:=vs) (vs':=vs') q2 (by simpa using hl) (fun j x v a b=>hv (j+1) x v (by simpa using a) (by simpa using b)) q1 j k v (by simpa using hk) (by simpa using hj)
theorem zTn (hC:CodOk C) {r:R}:∀ (k:SK U) (x:denK k) (t:T U) {N:NM} {st:St U} {s:S} {rs:List Res} {K:St U->Option R},SSim C N st s->VK C s k x (trT C N t) rs->rs.Nodup->(∀ y ∈ rs,¬ Has N st y)->bdd st.nl st.nx t=true->szOk C N k t->putP C k x t st K=some r ->
 ∃ N' st',K st' = some r/\Turn N st N' st'/\SSim C N' st' s/\(∀ y,Has N' st' y->Has N st y\/y ∈ rs)
 | .box cs,x,t,N,st,s,rs,K,hs,hv,hn,hd,hb,_,h=>zOJ hC (.box cs) x t hs hv hn hd hb h
 | .arr i,x,t,N,st,s,rs,K,hs,hv,hn,hd,hb,hz,h=>by
  simp only [putP] at h;cases t with
  | nil=>
   cases x with
   | none=>exact ⟨N,st,h,.refl _ _,hs,fun y hy=>.inl hy⟩
   | some ys=>simp [zAC] at h
  | sl l n=>
   cases x with
   | none=>simp [zAC] at h
   | some ys=>
    simp only [zAC] at h;obtain ⟨h1,h2⟩:=zJ h;rw [yy] at h2;have hlt:=yT h1;simp only [VK] at hv;obtain ⟨b,cap,hbv,h3,h4,rfl⟩:=hv;simp only [trT] at hbv;injection hbv with hbv
    injection hbv with e1 e2 e3
    injection e1 with e1
    injection e1 with e1 _ _
    refine ⟨N,_,h2,⟨.refl _ _ _,Nat.le_refl _,Nat.le_refl _⟩,hs.reBox hlt (fun hh=>hd (.inr b) (by simp) (by rw [<- e1]; exact hh)) (by rw [e1]; simp only [trB]; rw [e3]; exact h4) ⟨hz,by rw [e3]; exact h3⟩,fun y hy=>?_⟩;rcases zQM hy with q | q
    . rw [e1] at q; exact .inr (by rw [q]; simp)
    . exact .inl q
  | _=>simp at h
 | .int _,x,t,N,st,s,rs,K,hs,hv,hn,hd,hb,_,h=>by simp [putP] at h
 | .bool,x,t,N,st,s,rs,K,hs,hv,hn,hd,hb,_,h=>by simp [putP] at h
 | .str,x,t,N,st,s,rs,K,hs,hv,hn,hd,hb,_,h=>by simp [putP] at h
 | .dl _,x,t,N,st,s,rs,K,hs,hv,hn,hd,hb,_,h=>by simp [putP] at h
 | .bl _,x,t,N,st,s,rs,K,hs,hv,hn,hd,hb,_,h=>by simp [putP] at h
 | .ow _ _,x,t,N,st,s,rs,K,hs,hv,hn,hd,hb,_,h=>by simp [putP] at h
 | .st _,x,t,N,st,s,rs,K,hs,hv,hn,hd,hb,_,h=>by simp [putP] at h
 | .mc1 _,x,t,N,st,s,rs,K,hs,hv,hn,hd,hb,_,h=>by simp [putP] at h
theorem zMO (hC:CodOk C) {r:R}:∀ (l:List (SK U)) (x:zA l) (ts:List (T U)) {N:NM} {st:St U} {s:S} {rs:List Res} {K:St U->Option R},SSim C N st s->VKs C s l x (ts.map (trT C N)) rs->rs.Nodup->(∀ y ∈ rs,¬ Has N st y)->bdds st.nl st.nx ts=true->(∀ (j:Nat) (k:SK U) (v:T U),l[j]? = some k->ts[j]? = some v->szOk C N k v)->zKg C l x ts st K=some r ->
 ∃ N' st',K st' = some r/\Turn N st N' st'/\SSim C N' st' s/\(∀ y,Has N' st' y->Has N st y\/y ∈ rs)
 | [],x,ts,N,st,s,rs,K,hs,hv,hn,hd,hb,_,h=>by
  cases ts with
  | nil=>exact ⟨N,st,h,.refl _ _,hs,fun y hy=>.inl hy⟩
  | cons t ts=>cases h
 | k::rest,x,ts,N,st,s,rs,K,hs,hv,hn,hd,hb,hz,h=>by
  cases ts with
  | nil=>cases h
  | cons t ts=>
   simp only [zKg] at h;simp only [VKs,List.map_cons] at hv;obtain ⟨v,vs',r1,r2,he,rfl,h1,h2⟩:=hv;injection he with e1 e2
   subst e1;simp only [bdds,Bool.and_eq_true] at hb;obtain ⟨hn1,hn2,hn3⟩:=List.nodup_append.1 hn;obtain ⟨N1,st1,h3,h4,h5,h6⟩:=zTn hC k x.1 t hs h1 hn1 (fun y hy=>hd y (by simp [hy])) hb.1 (hz 0 k t rfl rfl) h;have e3:ts.map (trT C N1)=ts.map (trT C N):=yn h4.ext hb.2;obtain ⟨N2,st2,q3,q4,q5,q6⟩:=zMO hC rest x.2 ts h5 (by rw [e3,e2]; exact h2) hn2 (fun y hy hh=>by
    rcases h6 y hh with q | q
    . exact hd y (by simp [hy]) q
    . exact hn3 y q y hy rfl) (yj h4.nl h4.nx _ hb.2) (fun j k' v' hk hv'=>by
      have hb':bdd st.nl st.nx v' = true:=zLu hb.2 v' (List.mem_of_getElem? hv');exact zOD h4.ext _ _ hb' (hz (j+1) k' v' (by simpa using hk) (by simpa using hv'))) h3
   refine ⟨N2,st2,q3,h4.trans q4,q5,fun y hy=>?_⟩;rcases q6 y hy with q | q
   . rcases h6 y q with q' | q'
     . exact .inl q'
     . exact .inr (by simp [q'])
   . exact .inr (by simp [q])
theorem zBs (hC:CodOk C):∀ (ks:List (SK U)) (ts:List (T U)) {N:NM} {st:St U} {s:S} {K:St U->Option R},SSim C N st s->zC5 ks ts st K=some r ->
 ∃ N' st' s',K st' = some r/\Gs s s'/\Turn N st N' st'/\SSim C N' st' s'
 | [],ts,N,st,s,K,hs,h=>⟨N,st,s,h,.refl _,.refl _ _,hs⟩
 | k::rest,ts,N,st,s,K,hs,h=>by
  simp only [zC5] at h;split at h
  . cases h
  . split at h
    . split at h
      . simp only [yy] at h;obtain ⟨N1,st1,s1,h1,h2,h3,h4,_⟩:=kP (e:=[]) (E:=[]) hC _ 0 hs (fun k=>⟨.inl rfl,rfl⟩) h;obtain ⟨N2,st2,s2,q1,q2,q3,q4⟩:=zBs hC rest _ h4 h1;exact ⟨N2,st2,s2,q1,h2.trans q2,h3.trans q3,q4⟩
      . cases h
    . split at h
      . exact zBs hC rest _ hs h
      . rename_i l n;split at h
        . rename_i i' xs hl;rw [yy] at h;obtain ⟨s1,q1,q2⟩:=zG1 hC hs (n:=n) hl;have ht:Turn N st N ⟨(l,some (.ar i' (yY n xs)))::st.bx,st.tg,st.nl,st.nx,st.ob⟩:=⟨.refl _ _ _,Nat.le_refl _,Nat.le_refl _⟩;obtain ⟨N2,st2,s2,p1,p2,p3,p4⟩:=zBs hC rest _ q2 h;exact ⟨N2,st2,s2,p1,q1.trans p2,ht.trans p3,p4⟩
        . cases h
      . cases h
    . cases h
theorem zOy {a b:List Nat} (h:zKd a b=true):∀ k ∈ a,k ∈ b:=fun k hk=>zC1 (List.all_eq_true.1 h k hk)
def HI (C:Cod U) (N0:NM) (h:Head U) (fx:En U) (x:zA (yM h.vars)×zA (yM h.ptrs)) (E:Env) (s:S):Prop:=
 (∃ r1 r2,VKs C s (yM h.vars) x.1 (h.vars.map fun p=>E.get p.1) r1/\VKs C s (yM h.ptrs) x.2 (h.ptrs.map fun p=>E.get p.1) r2/\(r1++r2).Nodup)/\(∀ k ∈ h.fixed,E.get k=trT C N0 (eget fx k))/\∀ p ∈ h.ptrs,szOk C N0 p.2 (eget fx p.1)
theorem qz:∀ (vars:List (Nat×SK U)) (e:En U),qw vars e=vars.map fun p=>eget e p.1
 | [],_=>rfl
 | p::r,e=>by simp [qw,qz r]
theorem zFm:∀ (vars:List (Nat×SK U)),yM vars=vars.map fun p=>p.2
 | []=>rfl
 | p::r=>by simp [yM,zFm r]
theorem zHG {N:NM} {st:St U} {e:En U} {E:Env} (he:ESim C N st e E) (vars:List (Nat×SK U)):∀ (i:Nat) (x:T U) (v:V),(qw vars e)[i]? = some x->(vars.map fun p=>E.get p.1)[i]? = some v->VR C N x v:=fun i x v a b=>by
 rw [qz,List.getElem?_map] at a;rw [List.getElem?_map] at b;cases hv:vars[i]? with
 | none=>rw [hv] at a; cases a
 | some p=>
  rw [hv] at a b;injection a with a
  injection b with b
  subst a; subst b;exact (he p.1).1
theorem zHD (hC:CodOk C) {X:Cx} {N0 N:NM} {st0 st:St U} {e0 e:En U} {E:Env} {s:S} {h:Head U} (ht:Turn N0 st0 N st) (hs:SSim C N st s) (he:ESim C N st e E)
 (hb:∀ k ∈ h.fixed,bdd st0.nl st0.nx (eget e0 k)=true) (hne:∀ k ∈ h.fixed,eget e k≠.any) (hfx:∀ k ∈ h.fixed,eget e k=eget e0 k) (hno:zAP h.fixed (h.vars.map (·.1))=true) {j:zA (yM h.vars)×zA (yM h.ptrs)->Option R}
 (hh:zDd C h e st j=some r) :
 ∃ x E2 s2,j x=some r/\Gst X E s E2 s2/\HI C N0 h (h.fixed.map fun k=>(k,eget e0 k)) x E2 s2:=by
 unfold zDd at hh;obtain ⟨N1,e1,st1,E1,s1,q1,q2,q3,q4,q5,q6⟩:=zAQ (X:=X) hC h.vars hs he hh;simp only [zBn,yy] at q1;obtain ⟨N1',st1',s1',n1,n2,n3,n4⟩:=zBs hC _ _ q4 q1;have q5':=q5.turn n3;obtain ⟨x,st2,r1,p1,p2,p3,p4,p5,p6,p7,p8⟩:=jL hC (yM h.vars) (vs:=qw h.vars e1) (vs':=h.vars.map fun p=>E1.get p.1) n4 (by simp [qz]) (zHG q5' _) n1;obtain ⟨y,st3,r2,k1,k2,k3,k4,k5,k6,k7,k8⟩:=jL hC (yM h.ptrs) (vs:=qw h.ptrs e1) (vs':=h.ptrs.map fun p=>E1.get p.1) p2 (by simp [qz]) (zHG q5' _) p1;have hsz:=zMR hC (yM h.ptrs) (vs:=qw h.ptrs e1) (vs':=h.ptrs.map fun p=>E1.get p.1) p2 (by simp [qz]) (zHG q5' _) p1;refine ⟨(x,y),E1,s1',k1,q2.trans n2.gst,⟨r1,r2,p5,k5,List.nodup_append.2 ⟨p6,k6,fun a ha b hb e=>by subst e; exact (p7 a ha).2 (k7 a hb).1⟩⟩,fun k hk=>?_,fun p hp=>?_⟩
 rotate_left
 . rw [qQ];split
   . rename_i hk;have h1:eget e1 p.1=eget e p.1:=q6 p.1 fun p' hp e'=>zAR hno p.1 hk (List.mem_map.2 ⟨p',hp,e'⟩);obtain ⟨j,hj⟩:=List.getElem?_of_mem hp;have h2:=hsz j p.2 (eget e1 p.1) (by rw [zFm,List.getElem?_map,hj]; rfl) (by rw [qz,List.getElem?_map,hj]; rfl);rw [h1,hfx p.1 hk] at h2;exact zSz (ht.trans (q3.trans n3)).ext _ _ (hb p.1 hk) h2
   . unfold szOk;split
     . rename_i h; cases h
     . trivial
 have h1:eget e1 k=eget e k:=q6 k fun p hp e'=>zAR hno k hk (List.mem_map.2 ⟨p,hp,e'⟩);rw [qQ,if_pos hk,<- zCi C ((ht.trans (q3.trans n3)).ext) _ (hb k hk),<- hfx k hk,<- h1];exact (q5' k).1.get (by rw [h1]; exact hne k hk)
theorem zOE {N:NM} {E:Env}:∀ {vars:List (Nat×SK U)} {vs:List (T U)},vs.map (trT C N)=vars.map (fun p=>E.get p.1)->∀ k,VR C N (eget (zipV vars vs) k) (E.get k)
 | [],vs,h,k=>by cases vs <;> exact .inl rfl
 | p::rest,[],h,k=>.inl rfl
 | p::rest,v::vs,h,k=>by
  simp only [List.map_cons,List.cons.injEq] at h;simp only [zipV,eget];by_cases hp:p.1=k
  . have:Nat.beq p.1 k=true:=by simpa using hp
    simp only [this,cond_true];exact .inr (by rw [<- hp,h.1])
  . simp only [ym hp,cond_false];exact zOE h.2 k
theorem zML {nl nx:Nat}:∀ {vars:List (Nat×SK U)} {vs:List (T U)},bdds nl nx vs=true->∀ k,bdd nl nx (eget (zipV vars vs) k)=true
 | [],vs,h,k=>by cases vs <;> rfl
 | p::rest,[],h,k=>rfl
 | p::rest,v::vs,h,k=>by
  simp only [bdds,Bool.and_eq_true] at h;simp only [zipV,eget];by_cases hp:p.1=k
  . have:Nat.beq p.1 k=true:=by simpa using hp
    simp only [this,cond_true];exact h.1
  . simp only [ym hp,cond_false];exact zML h.2 k
theorem SSim.empty (N:NM) (nl nx:Nat) (s:S):SSim C N (⟨[],[],nl,nx,[]⟩:St U) s:=
 ⟨fun l b h=>by simp [lk] at h,fun l b h=>by simp [lk] at h,fun l b h=>by simp [lk] at h,fun l l' b b' h=>by simp [lk] at h,fun t h=>by simp at h,fun t h=>by simp at h,fun t h=>by simp at h,fun t h=>by simp at h,⟨fun l o h=>by simp [lko] at h,fun l o h=>by simp [lko] at h,fun l o h=>by simp [lko] at h,fun l l' o o' h=>by simp [lko] at h⟩⟩
theorem zK6 (hC:CodOk C) {N0:NM} {st0:St U} {e0:En U} {E:Env} {s:S} {h:Head U} {x:zA (yM h.vars)×zA (yM h.ptrs)} (hi:HI C N0 h (h.fixed.map fun k=>(k,eget e0 k)) x E s)
 (hb:∀ k ∈ h.fixed,bdd st0.nl st0.nx (eget e0 k)=true) (hp:zKd (h.ptrs.map (·.1)) h.fixed=true) {K:List (T U)->St U->Option R} (hh:zFG C h x e0 st0 K=some r) :
 ∃ N vs st,K vs st=some r/\Turn N0 st0 N st/\SSim C N st s/\ESim C N st ((h.fixed.map fun k=>(k,eget e0 k))++zipV h.vars vs) E:=by
 obtain ⟨⟨r1,r2,h1,h1p,h2⟩,h3,h4⟩:=hi;obtain ⟨hn1,hn2,hn3⟩:=List.nodup_append.1 h2;unfold zFG at hh;have hno:∀ y,¬ Has N0 (⟨[],[],st0.nl,st0.nx,[]⟩:St U) y:=fun y hh=>by
  cases y with
  | inl n=>obtain ⟨t,ht,_⟩:=hh; simp at ht
  | inr b=>obtain ⟨l,b,hl,_⟩:=hh; simp [lk] at hl
  | ob b=>obtain ⟨l,b,hl,_⟩:=hh; simp [lko] at hl
 obtain ⟨N1,vs,st1,q1,q2,q3,q4,q5,q6⟩:=jH hC (yM h.vars) x.1 (SSim.empty N0 st0.nl st0.nx s) h1 hn1 (fun y hy hh=>hno y hh) hh;simp only [zBn,yy] at q1;have hps:∀ p ∈ h.ptrs,p.1 ∈ h.fixed:=fun p hp'=>zOy hp _ (List.mem_map.2 ⟨p,hp',rfl⟩);have hbp:bdds st0.nl st0.nx (qw h.ptrs e0)=true:=by
  rw [qz];have key:∀ l:List (Nat×SK U),(∀ p ∈ l,bdd st0.nl st0.nx (eget e0 p.1)=true)->bdds st0.nl st0.nx (l.map fun p=>eget e0 p.1)=true:=fun l=>by
   induction l with
   | nil=>intro _; rfl
   | cons a l ih=>intro hl; simp only [List.map_cons,bdds,hl a (by simp),ih fun p hp=>hl p (by simp [hp]),Bool.and_self]
  exact key _ fun p hp'=>hb _ (hps p hp')
 have hbp1:bdds st1.nl st1.nx (qw h.ptrs e0)=true:=yj q2.nl q2.nx _ hbp;have ev:(qw h.ptrs e0).map (trT C N1)=h.ptrs.map fun p=>E.get p.1:=by
  rw [yn q2.ext hbp,qz,List.map_map];exact List.map_congr_left fun p hp'=>by
   have:=h3 p.1 (hps p hp');rw [qQ,if_pos (hps p hp')] at this;exact this.symm
 obtain ⟨N,st,p1,p2,p3,p4⟩:=zMO hC (yM h.ptrs) x.2 (qw h.ptrs e0) q3 (by rw [ev]; exact h1p) hn2 (fun y hy hh=>by
  rcases q6 y hh with q | q
  . exact hno y q
  . exact hn3 y q y hy rfl) hbp1 (fun j k v hk hv=>by
    rw [zFm,List.getElem?_map] at hk;rw [qz,List.getElem?_map] at hv;cases hp0:h.ptrs[j]? with
    | none=>rw [hp0] at hk; cases hk
    | some p=>
     rw [hp0] at hk hv;injection hk with hk
     injection hv with hv
     subst hk hv;have hm:=List.mem_of_getElem? hp0;have h5:=h4 p hm;rw [qQ,if_pos (hps p hm)] at h5;exact zOD q2.ext _ _ (hb _ (hps p hm)) h5) q1
 have ht:Turn N0 st0 N st:=(⟨q2.ext,q2.nl,q2.nx⟩:Turn N0 st0 N1 st1).trans p2;refine ⟨N,vs,st,p1,ht,p3,fun k=>?_⟩;rw [zDY];split
 . rename_i hk;have hk':k ∈ h.fixed:=by
    obtain ⟨p,hp,rfl⟩:=List.mem_map.1 hk;obtain ⟨k',hk',rfl⟩:=List.mem_map.1 hp;exact hk'
   have h4:=h3 k hk';rw [qQ,if_pos hk'] at h4 ⊢;exact ⟨.inr (by rw [h4,zCi C ht.ext _ (hb k hk')]),zBd ht.nl ht.nx _ (hb k hk')⟩
 . exact ⟨zOE (by rw [yn p2.ext q5]; exact q4) k,zML (yj p2.nl p2.nx _ q5) k⟩
def Fr (ds:List Nat) (e e':En U):Prop:=∀ j,j ∉ ds->eget e' j=eget e j\/eget e' j = .any
theorem Fr.refl (ds:List Nat) (e:En U):Fr ds e e:=fun _ _=>.inl rfl
theorem Fr.trans {ds:List Nat} {e e1 e2:En U} (h:Fr ds e e1) (h':Fr ds e1 e2):Fr ds e e2:=fun j hj=>by
 rcases h' j hj with q | q
 . rw [q]; exact h j hj
 . exact .inr q
theorem Fr.mono {ds ds':List Nat} {e e':En U} (h:Fr ds e e') (hd:∀ j ∈ ds,j ∈ ds'):Fr ds' e e':=fun j hj=>h j fun hh=>hj (hd j hh)
def xr (pf rf:FuncId->Bool) (fi:FI U) (n:NF):Code->Bool
 | .region id ops d=>zDZ n ops.toList && (!d || (Region.lexB .any ops && zFd ⟨pf,fi.wr,fi.own,rf,(fi.kl id).map fun p=>(p.1,p.2.1),fun _=>[]⟩ ops.toList))
 | .seq a b=>xr pf rf fi n a && xr pf rf fi n b
 | .cond _ a b=>xr pf rf fi n a && xr pf rf fi n b
 | .block _ b=>xr pf rf fi n b
 | .loop b=>xr pf rf fi n b
 | .scope b=>xr pf rf fi n b
 | _=>true
theorem zNt {N:NM} {st:St U} {e:En U} {E:Env} (he:ESim C N st e E):∀ (l:List (Nat×Nat×Nat)) {K:KD->Option R},kdOf l e K=some r->∃ kd,K kd=some r/\(∀ p ∈ l,∃ q,(p.1,p.2.1,q) ∈ kd)/\∀ d u q,(d,u,q) ∈ kd->q < st.nl
 | [],K,h=>⟨[],h,fun p hp=>(by cases hp),fun d u q hm=>(by cases hm)⟩
 | p::l,K,h=>by
  simp only [kdOf] at h;split at h
  . rename_i q o hq;obtain ⟨kd,h1,h2,h3⟩:=zNt he l h;refine ⟨_,h1,fun p' hp'=>?_,fun d u q' hm=>?_⟩
    . rcases List.mem_cons.1 hp' with rfl | hp'
      . exact ⟨q,List.mem_cons_self ..⟩
      . obtain ⟨q',hq'⟩:=h2 p' hp'; exact ⟨q',List.mem_cons_of_mem _ hq'⟩
    . rcases List.mem_cons.1 hm with e1 | hm
      . injection e1 with _ e1
        injection e1 with _ e1
        subst e1;have:=(he p.2.2).2;rw [hq] at this;exact yT this
      . exact h3 d u q' hm
  . cases h
theorem zN8 {h:Head U} {e0:En U} {vs:List (T U)} {k:Nat} (hv:k ∉ h.vars.map (·.1)):eget ((h.fixed.map fun k=>(k,eget e0 k))++zipV h.vars vs) k=eget e0 k\/eget ((h.fixed.map fun k=>(k,eget e0 k))++zipV h.vars vs) k = .any:=by
 rw [zDY];split
 . rename_i hk;have hk':k ∈ h.fixed:=by
    obtain ⟨p,hp,rfl⟩:=List.mem_map.1 hk;obtain ⟨k',hk',rfl⟩:=List.mem_map.1 hp;exact hk'
   rw [qQ,if_pos hk'];exact .inl rfl
 . right;have:∀ (vars:List (Nat×SK U)) (vs:List (T U)),k ∉ vars.map (·.1)->eget (zipV vars vs) k = .any:=fun vars=>by
    induction vars with
    | nil=>intro vs _; cases vs <;> rfl
    | cons p rest ih=>
     intro vs hv;simp only [List.map_cons,List.mem_cons,not_or] at hv;cases vs with
     | nil=>rfl
     | cons v vs=>
      simp only [zipV,eget,ym (fun e=>hv.1 e.symm),cond_false];exact ih vs hv.2
   exact this _ _ hv
theorem zNq {N:NM} {st:St U} {e:En U} {E:Env} (he:ESim C N st e E) {c:Operand} {t:Bool} (ht:evT e c = .bool t):ESim C N st (told e c t) E/\∀ j,eget (told e c t) j=eget e j:=by
 cases c with
 | tmp d=>
  have h:∀ j,eget (told e (.tmp d) t) j=eget e j:=fun j=>by
   simp only [told,eput,eget];by_cases hj:d=j
   . subst hj;have:Nat.beq d d=true:=by simp
     simp only [this,cond_true];exact ht.symm
   . simp only [ym hj,cond_false]
  exact ⟨fun j=>by rw [h j]; exact he j,h⟩
 | const v=>exact ⟨he,fun _=>rfl⟩
 | global g=>exact ⟨he,fun _=>rfl⟩
 | func f=>exact ⟨he,fun _=>rfl⟩
theorem zJB (hC:CodOk C) {X:Cx} {N:NM}:∀ (rs:List Nat) {e:En U} {E:Env} {st:St U} {s:S} {K:En U->St U->Option R},SSim C N st s->ESim C N st e E->frzL rs e st K=some r ->
 ∃ e' E' st' s',K e' st' = some r/\Gst X E s E' s'/\Turn N st N st'/\SSim C N st' s'/\ESim C N st' e' E'/\Fr rs e e'
 | [],e,E,st,s,K,hs,he,h=>⟨e,E,st,s,h,.refl _ _ _,.refl _ _,hs,he,.refl _ _⟩
 | t::rs,e,E,st,s,K,hs,he,h=>by
  have go:frzL rs e st K=some r->∃ e' E' st' s',K e' st' = some r/\Gst X E s E' s'/\Turn N st N st'/\SSim C N st' s'/\ESim C N st' e' E'/\Fr (t::rs) e e':=fun hh=>by
   obtain ⟨e',E',st',s',q1,q2,q3,q4,q5,q6⟩:=zJB hC rs hs he hh;exact ⟨e',E',st',s',q1,q2,q3,q4,q5,q6.mono fun j hj=>List.mem_cons_of_mem _ hj⟩
  simp only [frzL] at h;split at h
  . rename_i l n ht;split at h
    . rename_i i xs hl;obtain ⟨h1,h2⟩:=zJ h;have h1:n<=xs.length:=by simpa [Nat.ble_eq] using h1
      have hw:=hs.wf l _ hl;have hE:=((he t).1).get (by rw [ht]; simp);rw [ht] at hE;have hlen:=xM hC i xs;have htk:(yY n xs).length=n:=by unfold yY; rw [List.length_take]; omega
      have hg:Gst X E s (E.put t (.lst .no ((yY n xs).map (C.encV i)))) ⟨wipe s.box (N.bl l),s.tg,s.nx,s.ob⟩:=by
       refine zGo t (N.bl l) n (N.cp l) (C.cells i) _ hE (hs.box l _ hl) (by rw [List.length_map,htk]) (by have:=hw.2; omega) (jo hC i xs n) ?_ (kY hC i _) ?_ ?_
       . rw [hlen]; exact Nat.mul_le_mul_right _ h1
       . intro x hx;obtain ⟨y,_,rfl⟩:=List.mem_map.1 hx;exact hC.ones i y
       . rw [List.map_map];exact List.map_congr_left fun y _=>hC.untag i y
      have hs2:=hs.drop l hl;have hb:bdd st.nl st.nx (T.lst (.b false) i (yY n xs):T U)=true:=rfl;have he2:ESim C N ⟨(l,none)::st.bx,st.tg,st.nl,st.nx,st.ob⟩ ((t,.lst (.b false) i (yY n xs))::e) (E.put t (.lst .no ((yY n xs).map (C.encV i)))):=by
       have:=ESim.put (st:=⟨(l,none)::st.bx,st.tg,st.nl,st.nx,st.ob⟩) (e:=e) (E:=E) (v:=.lst (.b false) i (yY n xs)) (v':=.lst .no ((yY n xs).map (C.encV i))) he (.inr rfl) hb (some t);exact this
      obtain ⟨e',E',st',s',q1,q2,q3,q4,q5,q6⟩:=zJB hC rs hs2 he2 h2;refine ⟨e',E',st',s',q1,hg.trans q2,⟨q3.ext,q3.nl,q3.nx⟩,q4,q5,fun j hj=>?_⟩;rcases q6 j (fun hh=>hj (List.mem_cons_of_mem _ hh)) with q | q
      . refine .inl (q.trans ?_);have hne:t≠j:=fun e1=>hj (by rw [e1]; exact List.mem_cons_self ..);simp only [eget,ym hne,cond_false]
      . exact .inr q
    . cases h
  . exact go h
theorem qm (hT:TbOk C P Tb) (hC:CodOk C) (hm:P.follows .mixedOrders=true) {X:Cx} {pf rf:FuncId->Bool} {fi:FI U} {call:Call U R} {PP:List PanicEntry->Prop} (hcall:∀ kl kb,zD0 C P ⟨pf,fi.wr,fi.own,rf,kl,kb⟩ call r PP) {fu:Nat} :
 ∀ (c:Code) {N:NM} {e:En U} {st:St U} {E:Env} {s:S} {k:Exit->En U->St U->Option R} {Q:Exit->Env->S->Prop},SSim C N st s->ESim C N st e E->drun C Tb fu call fi c e st k=some r->xr pf rf fi X.N c=true->qE fi c=true->(∀ c s,PP c->Q (.panic c) [] s) ->
  (∀ ex N' e' st' E' s',k ex e' st' = some r->Turn N st N' st'->SSim C N' st' s'->ESim C N' st' e' E'->Fr (dsts fi c) e e'->Q ex E' s')->awp P X c Q E s
 | .skip,N,e,st,E,s,k,Q,hs,he,h,_,_,_,hK=>zW (hK _ _ _ _ _ _ h (.refl _ _) hs he (.refl _ _))
 | .exit id,N,e,st,E,s,k,Q,hs,he,h,_,_,_,hK=>ya (hK _ _ _ _ _ _ h (.refl _ _) hs he (.refl _ _))
 | .ret,N,e,st,E,s,k,Q,hs,he,h,_,_,_,hK=>zd (hK _ _ _ _ _ _ h (.refl _ _) hs he (.refl _ _))
 | .region id ops d,N,e,st,E,s,k,Q,hs,he,h,hok,_,hKP,hK=>by
  simp only [drun] at h;obtain ⟨e0,E0,st0,s0,h,hgz,hz1,hs,he,hz2⟩:=zJB (X:=X) hC (fi.fz id) hs he h;refine zI2 hgz ?_;replace hK:∀ ex N' e' st' E' s',k ex e' st' = some r->Turn N st0 N' st'->SSim C N' st' s'->ESim C N' st' e' E'->Fr (dstL ops.toList) e0 e'->Q ex E' s':=fun ex N' e' st' E' s' a1 a2 a3 a4 a5=>
   hK ex N' e' st' E' s' a1 (hz1.trans a2) a3 a4 ((hz2.mono fun j hj=>List.mem_append_left _ hj).trans (a5.mono fun j hj=>List.mem_append_right _ hj))
  clear hgz hz1 hz2;simp only [xr,Bool.and_eq_true] at hok;obtain ⟨ops⟩:=ops;have key:∀ (kd:KD) kl kb,dops C Tb call fi.wr fi.own kd (ops.map (·.dst)) ops e0 st0 (fun e' st'=>zEs (fi.kf id) e' fun e''=>k .normal e'' st')=some r->(∀ d u q,(d,u,q) ∈ kd->q < st0.nl)->(∀ p ∈ kl,∃ q,(p.1,p.2,q) ∈ kd)->(∀ d b,b ∈ kb d↔∃ u q,(d,u,q) ∈ kd/\N.bl q=b)->AL P ⟨pf,fi.wr,fi.own,rf,kl,kb⟩ (ops.map (·.dst)) (fun c s=>Q (.panic c) [] s) ops (fun E' s'=>Q .normal (jP (fi.kf id) E') s') E0 s0:=fun kd kl kb h0 h02 q1 q2=>by
   refine zNx (L:=⟨pf,fi.wr,fi.own,rf,kl,kb⟩) hT hC (hcall kl kb) hKP hs he ⟨q1,fun d b hb=>(q2 d b).1 hb,fun d u q hm=>⟨(q2 d _).2 ⟨u,q,hm,rfl⟩,h02 d u q hm⟩⟩ h0 ?_;intro N' e' st' E' s' h1 h2 h3 h4 h5;simp only [zEV] at h1;refine hK _ _ _ _ _ _ h1 h2 h3 (h4.keep _) fun j hj=>?_;rw [qQ];split
   . exact .inl (h5 j hj)
   . exact .inr rfl
  cases d with
  | false=>
   exact ze ⟨pf,fi.wr,fi.own,rf,[],fun _=>[]⟩ fi.kf _ rfl hok.1 (key [] [] (fun _=>[]) h (fun d u q hm=>by cases hm) (fun p hp=>by cases hp) (fun d b=>⟨fun hb=>(by cases hb),fun ⟨u,q,hm,_⟩=>(by cases hm)⟩))
  | true=>
   obtain ⟨kd,h0,h01,h02⟩:=zNt he _ h;have h2:=hok.2;simp only [Bool.not_true,Bool.false_or,Bool.and_eq_true] at h2;have hk1:∀ p ∈ (fi.kl id).map (fun p=>(p.1,p.2.1)),∃ q,(p.1,p.2,q) ∈ kd:=fun p hp=>by
    obtain ⟨p',hp',rfl⟩:=List.mem_map.1 hp;exact h01 p' hp'
   have hd1:=h2.2;generalize (fi.kl id).map (fun p=>(p.1,p.2.1))=klp at hk1 hd1;obtain ⟨kbf,hkb⟩:∃ kbf:Nat->List Nat,∀ d b,b ∈ kbf d↔∃ u q,(d,u,q) ∈ kd/\N.bl q=b:=by
    refine ⟨fun d=>kd.filterMap fun p=>if p.1=d then some (N.bl p.2.2) else none,fun d b=>?_⟩;show b ∈ (kd.filterMap fun p=>if p.1=d then some (N.bl p.2.2) else none)↔_;rw [List.mem_filterMap];constructor
    . rintro ⟨⟨d',u,q⟩,h3,h4⟩;simp only at h4;split at h4
      . rename_i e1; subst e1; injection h4 with h4; exact ⟨u,q,h3,h4⟩
      . cases h4
    . rintro ⟨u,q,h3,h4⟩;exact ⟨_,h3,by simp [h4]⟩
   have hd2:zFd ⟨pf,fi.wr,fi.own,rf,klp,kbf⟩ ops=true:=hd1;exact jk ⟨pf,fi.wr,fi.own,rf,klp,kbf⟩ hm fi.kf _ rfl hok.1 h2.1 hd2 (key kd klp kbf h0 h02 hk1 hkb)
 | .seq a b,N,e,st,E,s,k,Q,hs,he,h,hok,hho,hKP,hK=>by
  simp only [drun] at h;simp only [xr,Bool.and_eq_true] at hok;simp only [qE,Bool.and_eq_true] at hho;refine zc ?_;split at h
  . rename_i hj;refine qm hT hC hm hcall a hs he h hok.1 hho.2.1 (fun c s hp=>hKP c s hp) ?_;intro ex N' e' st' E' s' h1 h2 h3 h4 h5;have h5':Fr (dsts fi (.seq a b)) e e':=h5.mono fun j hj=>by simp only [dsts]; simp [hj]
    cases ex <;> simp only at h1 <;> first | exact hK _ _ _ _ _ _ h1 h2 h3 h4 h5' | skip
    show awp P X b Q E' s';refine qm hT hC hm hcall b h3 h4 h1 hok.2 hho.2.2 (fun c s hp=>hKP c s hp) ?_;intro ex N2 e2 st2 E2 s2 q1 q2 q3 q4 q5;exact hK _ _ _ _ _ _ q1 (h2.trans q2) q3 q4 (h5'.trans (q5.mono fun j hj=>by simp only [dsts]; simp [hj]))
  . rename_i hd hj;have h1:=hho.1;rw [hj] at h1;simp only [Bool.and_eq_true] at h1;obtain ⟨h1,hpt⟩:=h1;rw [zEV] at h;obtain ⟨h3,h4⟩:=zJ h;clear h;unfold zCG at h4;have hin:=zAR h1;have hbd:∀ k ∈ hd.fixed,bdd st.nl st.nx (eget e k)=true:=fun k _=>(he k).2;refine qm hT hC hm hcall a hs he h4 hok.1 hho.2.1 (fun c s hp=>hKP c s hp) ?_;intro ex N' e' st' E' s' h5 h6 h7 h8 h9;have h9':Fr (dsts fi (.seq a b)) e e':=h9.mono fun j hj=>by simp only [dsts]; simp [hj]
    cases ex <;> simp only at h5 <;> first | exact hK _ _ _ _ _ _ h5 h6 h7 h8 h9' | skip
    show awp P X b Q E' s';obtain ⟨h10,h11⟩:=zJ h5;have hne:=zAV h10;obtain ⟨x,E2,s2,q1,q2,q3⟩:=zHD (X:=X) (N0:=N) (st0:=st) (e0:=e) (h:=hd) hC h6 h7 h8 hbd hne (fun k hk=>by
     rcases h9 k (fun hh=>hin k hk (by simp [hh])) with q | q
     . exact q
     . exact absurd q (hne k hk)) (zDX h1) h11
    refine zI2 q2 ?_;obtain ⟨N2,vs,st2,p1,p2,p3,p4⟩:=zK6 hC q3 hbd hpt q1;rw [zKj] at p1;refine qm hT hC hm hcall b p3 p4 p1 hok.2 hho.2.2 (fun c s hp=>hKP c s hp) ?_;intro ex N3 e3 st3 E3 s3 r1 r2 r3 r4 r5;refine hK _ _ _ _ _ _ r1 (p2.trans r2) r3 r4 fun j hj'=>?_;have hv:j ∉ hd.vars.map (·.1):=fun hh=>hj' (by simp only [dsts,hj]; simp only [List.mem_append]; exact .inr (.inl hh));rcases r5 j (fun hh=>hj' (by simp only [dsts]; simp [hh])) with q | q
    . rw [q]; exact zN8 hv
    . exact .inr q
 | .cond c a b,N,e,st,E,s,k,Q,hs,he,h,hok,hho,hKP,hK=>by
  simp only [drun] at h;simp only [xr,Bool.and_eq_true] at hok;simp only [qE,Bool.and_eq_true] at hho;split at h
  . rename_i t ht;have h1:=he.ev c;rw [ht] at h1;refine x9 (h1.get (by simp)) (fun e1=>?_) (fun e1=>?_)
    . subst e1;obtain ⟨t1,t2⟩:=zNq he ht;exact qm hT hC hm hcall a hs t1 h hok.1 hho.1 (fun c s hp=>hKP c s hp) fun ex N' e' st' E' s' q1 q2 q3 q4 q5=>hK _ _ _ _ _ _ q1 q2 q3 q4 fun j hj=>by
       rw [<- t2 j];exact (q5.mono fun j hj=>by simp only [dsts]; simp [hj]) j hj
    . subst e1;obtain ⟨t1,t2⟩:=zNq he ht;exact qm hT hC hm hcall b hs t1 h hok.2 hho.2 (fun c s hp=>hKP c s hp) fun ex N' e' st' E' s' q1 q2 q3 q4 q5=>hK _ _ _ _ _ _ q1 q2 q3 q4 fun j hj=>by
       rw [<- t2 j];exact (q5.mono fun j hj=>by simp only [dsts]; simp [hj]) j hj
  . cases h
 | .block id b,N,e,st,E,s,k,Q,hs,he,h,hok,hho,hKP,hK=>by
  simp only [drun] at h;refine z7 (qm hT hC hm hcall b hs he h (by simpa only [xr] using hok) (by simpa only [qE] using hho) (fun c s hp=>hKP c s hp) ?_);intro ex N' e' st' E' s' q1 q2 q3 q4 q5;cases ex <;> simp only at q1 <;> first | exact hK _ _ _ _ _ _ q1 q2 q3 q4 q5 | skip
  rename_i id';simp only [zCv];by_cases e1:id' = id
  . have:Nat.beq id' id=true:=by simpa using e1
    rw [if_pos e1];simp only [this,cond_true] at q1;exact hK _ _ _ _ _ _ q1 q2 q3 q4 q5
  . rw [if_neg e1];simp only [ym e1,cond_false] at q1;exact hK _ _ _ _ _ _ q1 q2 q3 q4 q5
 | .loop b,N,e,st,E,s,k,Q,hs,he,h,hok,hho,hKP,hK=>by
  simp only [drun] at h;simp only [xr] at hok;simp only [qE,Bool.and_eq_true] at hho;split at h
  . cases h
  . rename_i hd hj;have h1:=hho.1;rw [hj] at h1;simp only [Bool.and_eq_true] at h1;obtain ⟨h1,hpt⟩:=h1;rw [zEV] at h;obtain ⟨h3,h4⟩:=zJ h;clear h;have hin:=zAR h1;have hbd:∀ k ∈ hd.fixed,bdd st.nl st.nx (eget e k)=true:=fun k _=>(he k).2;have hne0:∀ k ∈ hd.fixed,eget e k≠.any:=fun k hk=>by
     have:=zAV h3 k hk
     rwa [qQ,if_pos hk] at this
    have hno:zAP hd.fixed (hd.vars.map (·.1))=true:=zDX h1;obtain ⟨x,E2,s2,q1,q2,q3⟩:=zHD (X:=X) (N0:=N) (st0:=st) (e0:=e) (h:=hd) hC (.refl _ _) hs he hbd hne0 (fun _ _=>rfl) hno h4;generalize hF:(fun (rec:zA (yM hd.vars)×zA (yM hd.ptrs)->Option R) (x:zA (yM hd.vars)×zA (yM hd.ptrs))=>zFG C hd x e st fun vs st2=>
     feE ((hd.fixed.map fun k=>(k,eget e k))++zipV hd.vars vs) fun e0=>drun C Tb fu call fi b e0 st2 fun ex e' st'=>match ex with
      | .normal=>bif kV hd.fixed e' then zDd C hd e' st' fun x=>rec x else none
      | ex=>k ex e' st')=F at q1
    refine zP3 (fun (p:Nat×(zA (yM hd.vars)×zA (yM hd.ptrs))) E' s'=>HI C N hd (hd.fixed.map fun k=>(k,eget e k)) p.2 E' s'/\iter p.1 F p.2=some r) (fun p=>p.1) (x₀:=(fu,x)) ⟨q3,q1⟩ q2 ?_;rintro ⟨n,x1⟩ E1 s1 ⟨hi,hr⟩;simp only at hi hr;cases n with
    | zero=>simp [iter] at hr
    | succ n=>
     simp only [iter] at hr;rw [<- hF] at hr;obtain ⟨N2,vs,st2,p1,p2,p3,p4⟩:=zK6 hC hi hbd hpt hr;rw [zKj] at p1;refine qm hT hC hm hcall b p3 p4 p1 hok hho.2 (fun c s hp=>hKP c s hp) ?_;intro ex N3 e3 st3 E3 s3 r1 r2 r3 r4 r5;have hfr:Fr (dsts fi (.loop b)) e e3:=fun j hj'=>by
      have hv:j ∉ hd.vars.map (·.1):=fun hh=>hj' (by simp only [dsts,hj]; simp only [List.mem_append]; exact .inl hh);rcases r5 j (fun hh=>hj' (by simp only [dsts]; simp [hh])) with q | q
      . rw [q]; exact zN8 hv
      . exact .inr q
     cases ex <;> simp only at r1 <;> first | exact hK _ _ _ _ _ _ r1 (p2.trans r2) r3 r4 hfr | skip
     obtain ⟨t1,t2⟩:=zJ r1;have hne:=zAV t1;obtain ⟨x3,E4,s4,u1,u2,u3⟩:=zHD (X:=X) (N0:=N) (st0:=st) (e0:=e) (h:=hd) hC (p2.trans r2) r3 r4 hbd hne (fun k hk=>by
      rcases r5 k (fun hh=>hin k hk (by simp [hh])) with q | q
      . rw [q,zDY,if_pos (by simp [hk]),qQ,if_pos hk]
      . exact absurd q (hne k hk)) hno t2
     show ∃ x' E2 s2,_/\_/\_;exact ⟨(n,x3),E4,s4,⟨u3,by rw [hF] at u1; exact u1⟩,Nat.lt_succ_self _,u2⟩
 | .rangeFunc _ _ _ _,N,e,st,E,s,k,Q,hs,he,h,_,_,_,_=>by simp [drun] at h
 | .scope b,N,e,st,E,s,k,Q,hs,he,h,hok,hho,hKP,hK=>by
  simp only [drun] at h;refine zRP (qm hT hC hm hcall b hs he h (by simpa only [xr] using hok) (by simpa only [qE] using hho) (fun c s hp=>hKP c s hp) ?_);intro ex N' e' st' E' s' q1 q2 q3 q4 q5;cases ex <;> simp only at q1 <;> first | exact hK _ _ _ _ _ _ q1 q2 q3 q4 q5 | cases q1
 | .label _,N,e,st,E,s,k,Q,hs,he,h,_,_,_,hK=>by
  simp only [drun] at h;exact zRY (hK _ _ _ _ _ _ h (.refl _ _) hs he (.refl _ _))
 | .goto _,N,e,st,E,s,k,Q,hs,he,h,_,_,_,_=>by simp [drun] at h
 | .refuse _,N,e,st,E,s,k,Q,hs,he,h,_,_,_,_=>by simp [drun] at h
end
open Go.Al
inductive AK (U:TyU) where
 | int (k:IntKind)
 | bool
 | str
 | ls (i:U.I)
 | dl (i:U.I)
 | bl (i:U.I)
 | st (i:U.I)
 | err
def denA {U:TyU}:AK U->Type
 | .int _=>Int
 | .bool=>Bool
 | .str=>List UInt8
 | .ls i=>List (U.den i)
 | .dl i=>List (U.den i)
 | .bl i=>Bool×List (U.den i)
 | .st i=>U.den i
 | .err=>Bool
def zf {U:TyU}:List (AK U)->Type
 | []=>Unit
 | a::r=>denA a×zf r
structure Con (U:TyU) where
 as:List (AK U)
 rs:List (AK U)
 fn:zf as->Option (zf rs)
structure FD (U:TyU) where
 fi:FI U
 body:Code
 n:Nat
 rs:List ResultVar
section
variable {U:TyU} (C:Cod U) (Tb:TypeId->TD U) {R:Type}
def argT:(a:AK U)->Bool->denA a->T U
 | .int k,_,x=>.int k x
 | .bool,_,x=>.bool x
 | .str,_,x=>.str x
 | .ls i,n,x=>.lst (.b n) i x
 | .dl i,_,x=>.lst .dl i x
 | .bl i,_,x=>.lst (.b x.1) i x.2
 | .st i,_,x=>C.enc i x
 | .err,_,x=>bif x then .ifx else .con .nilIface
def xN:(as:List (AK U))->(Nat->Bool)->Nat->zf as->List (T U)
 | [],_,_,_=>[]
 | a::r,nf,j,x=>argT C a (nf j) x.1::xN r nf (j+1) x.2
def argK {R:Type}:(as:List (AK U))->zf as->(List (T U)->Option R)->Option R
 | [],_,K=>K []
 | a::r,x,K=>match a,x with
  | .err,x=>bif x.1 then argK r x.2 fun vs=>K (.ifx::vs) else argK r x.2 fun vs=>K (.con .nilIface::vs)
  | .int k,x=>argK r x.2 fun vs=>K (.int k x.1::vs)
  | .bool,x=>argK r x.2 fun vs=>K (.bool x.1::vs)
  | .str,x=>argK r x.2 fun vs=>K (.str x.1::vs)
  | .ls i,x=>argK r x.2 fun vs=>K (.lst (.b false) i x.1::vs)
  | .dl i,x=>argK r x.2 fun vs=>K (.lst .dl i x.1::vs)
  | .bl i,x=>argK r x.2 fun vs=>K (.lst (.b x.1.1) i x.1.2::vs)
  | .st i,x=>argK r x.2 fun vs=>K (C.enc i x.1::vs)
theorem zDb {R:Type}:∀ (as:List (AK U)) (x:zf as) (j:Nat) (K:List (T U)->Option R),argK C as x K=K (xN C as (fun _=>false) j x)
 | [],_,_,_=>rfl
 | a::r,x,j,K=>by
  cases a with
  | err=>
   obtain ⟨b,xs⟩:=x;cases b with
   | true=>simp only [argK,cond_true,xN,argT,zDb r _ (j+1)]
   | false=>simp only [argK,cond_false,xN,argT,zDb r _ (j+1)]
  | _=>simp only [argK,xN,argT,zDb r _ (j+1)]
def ArgV:(a:AK U)->denA a->V->Prop
 | .ls i,x,v=>∃ n:Bool,v = .lst (if n then .nil else .no) (x.map (C.encV i))
 | a,x,v=>v=trT C ⟨id,id,id,id⟩ (argT C a false x)
def zDK:(as:List (AK U))->zf as->List V->Prop
 | [],_,vs=>vs=[]
 | a::r,x,vs=>∃ v vs',vs=v::vs'/\ArgV C a x.1 v/\zDK r x.2 vs'
def decA:(a:AK U)->T U->(denA a->Option R)->Option R
 | .int k,v,K=>(match v with | .int k' n=>bif decide (k' = k) then K n else none | _=>none)
 | .bool,v,K=>(match v with | .bool b=>K b | _=>none)
 | .str,v,K=>(match v with | .str s=>K s | _=>none)
 | .ls i,v,K=>(match v with
  | .nil=>K []
  | .lst m j ys=>jz i j ys K
  | _=>none)
 | .dl i,v,K=>(match v with
  | .nil=>K []
  | .lst m j ys=>jz i j ys fun xs=>(match m with
   | .dl=>K xs
   | .b n=>bif (bif n then xs.isEmpty else !xs.isEmpty) then K xs else none
   | .ow _ nb=>bif nb then K xs else bif !xs.isEmpty then K xs else none)
  | _=>none)
 | .bl i,v,K=>(match v with
  | .nil=>K (true,[])
  | .lst m j ys=>jz i j ys fun xs=>(match m with
   | .dl=>K (xs.isEmpty,xs)
   | .b n=>K (n,xs)
   | .ow _ nb=>bif nb then K (xs.isEmpty,xs) else K (false,xs))
  | _=>none)
 | .st i,v,K=>C.dec i v K
 | .err,v,K=>(match v with
  | .ifx=>K true
  | .con v=>bif zD6 v then K false else none
  | _=>none)
def zDC:(as:List (AK U))->List (T U)->(zf as->Option R)->Option R
 | [],vs,K=>(match vs with | []=>K () | _::_=>none)
 | a::r,vs,K=>(match vs with
  | []=>none
  | v::vs=>decA C a v fun x=>zDC r vs fun xs=>K (x,xs))
def finT:List (T U)->T U
 | []=>.tup []
 | x::r=>match r with
  | []=>x
  | _::_=>.tup (x::r)
def dres (e:En U) (st:St U):List ResultVar->(List (T U)->Option R)->Option R
 | [],K=>K []
 | v::r,K=>match v with
  | .tmp t=>fe (eget e t) fun v=>bif yG v.flat then dres e st r fun vs=>K (v::vs) else none
  | .cell p t=>zKY C Tb st t (eget e p) fun v=>fe v fun v=>bif yG v.flat then dres e st r fun vs=>K (v::vs) else none
def zC9:Nat->List (T U)->En U
 | _,[]=>[]
 | n,x::xs=>(n,x)::zC9 (n+1) xs
def getR {R:Type}:(k:SK U)->T U->(denK k->Option R)->Option R
 | .int k,v,K=>decA C (.int k) v K
 | .bool,v,K=>decA C .bool v K
 | .str,v,K=>decA C .str v K
 | .dl i,v,K=>decA C (.dl i) v K
 | .bl i,v,K=>decA C (.bl i) v K
 | .st i,v,K=>decA C (.st i) v K
 | .ow _ _,_,_=>none
 | .arr _,_,_=>none
 | .box _,_,_=>none
 | .mc1 _,_,_=>none
def zF3 {R:Type}:(l:List (SK U))->List (T U)->(zA l->Option R)->Option R
 | [],vs,K=>(match vs with | []=>K () | _::_=>none)
 | k::r,vs,K=>(match vs with
  | []=>none
  | v::vs=>getR C k v fun x=>zF3 r vs fun xs=>K (x,xs))
def zBl {R:Type}:(l:List (SK U))->zA l->(List (T U)->Option R)->Option R
 | [],_,K=>K []
 | k::r,x,K=>match k,x with
  | .int k,x=>zBl r x.2 fun vs=>K (.int k x.1::vs)
  | .bool,x=>zBl r x.2 fun vs=>K (.bool x.1::vs)
  | .str,x=>zBl r x.2 fun vs=>K (.str x.1::vs)
  | .dl i,x=>zBl r x.2 fun vs=>K (.lst .dl i x.1::vs)
  | .bl i,x=>zBl r x.2 fun vs=>K (.lst (.b x.1.1) i x.1.2::vs)
  | .st i,x=>zBl r x.2 fun vs=>K (C.enc i x.1::vs)
  | _,_=>none
structure CP (U:TyU) where
 io:List (SK U)
 oo:List (SK U)
 as:List (SK U)
 rs:List (SK U)
 fn:{R:Type}->zA io->zA as->Option R->(zA oo->zA rs->Option R)->Option R
structure CR (U:TyU) where
 as:List (SK U)
 rs:List (SK U)
 fn:{R:Type}->zA as->(zA rs->Option R)->Option R
def zIT (st:St U):List Nat->Bool
 | []=>true
 | l::r=>(match lk st.bx l with | some _=>true | none=>false) && zIT st r
def zOm (c:CP U) (args:List (T U)) (ks:List Nat) (st:St U) (pan:Option R) (k:T U->St U->Option R):Option R:=
 feL (args.take c.io.length) fun a1=>feL (args.drop c.io.length) fun a2=>
 (bif ks.isEmpty then zC5 c.io a1 st else fun K=>K st) fun st0=>
 xA C c.io a1 st0 fun x st1=>feS st1 fun st1=>xA C c.as a2 st1 fun a st2=>feS st2 fun st2=>
 bif zIT st2 ks then c.fn x a pan fun y z=>zIH C c.oo y a1 st2 fun st3=>kC C c.rs z st3 fun vs st4=>k (finT vs) st4 else none
def zOw (c:CR U) (args:List (T U)) (st:St U) (k:T U->St U->Option R):Option R:=
 xA C c.as args st fun x _=>c.fn x fun y=>zBl C c.rs y fun vs=>k (finT vs) st
def zCN (fu:Nat) (inl:Nat->Option (FD U)) (orc:Nat->Option (Con U)) (orr:Nat->Option (CR U)) (orp:Nat->Option (CP U)) (pan:Option R):Nat->Call U R
 | 0,_,_,_,_,_=>none
 | d+1,f,args,ks,st,k=>
  bif Nat.ble 1000000 f then bif Nat.ble 2000000 f then (match orc (f - 2000000) with
   | some _=>none
   | none=>match orr (f - 2000000) with
    | some _=>none
    | none=>match inl (f - 2000000) with
     | some fd=>bif Nat.ble args.length fd.n && ks.isEmpty then
      drun C Tb fu (zCN fu inl orc orr orp pan d) fd.fi fd.body (zC9 0 args) st fun ex e' st'=>match ex with
       | .normal=>dres C Tb e' st' fd.rs fun vs=>k (finT vs) st'
       | .ret=>dres C Tb e' st' fd.rs fun vs=>k (finT vs) st'
       | _=>none
      else none
     | none=>none) else (match orc f with
   | some c=>zDC C c.as args fun x=>Option.bind (c.fn x) fun y=>argK C c.rs y fun vs=>k (finT vs) st
   | none=>none) else
  match orc f with
  | some c=>zDC C c.as args fun x=>Option.bind (c.fn x) fun y=>argK C c.rs y fun vs=>k (finT vs) st
  | none=>
   match orr f with
   | some c=>zOw C c args st k
   | none=>
    match orp f with
    | some c=>zOm C c args ks st pan k
    | none=>
     match inl f with
     | some fd=>bif Nat.ble args.length fd.n && ks.isEmpty then
      drun C Tb fu (zCN fu inl orc orr orp pan d) fd.fi fd.body (zC9 0 args) st fun ex e' st'=>match ex with
       | .normal=>dres C Tb e' st' fd.rs fun vs=>k (finT vs) st'
       | .ret=>dres C Tb e' st' fd.rs fun vs=>k (finT vs) st'
       | _=>none
      else none
     | none=>none
def runP (fu d:Nat) (inl:Nat->Option (FD U)) (orc:Nat->Option (Con U)) (orr:Nat->Option (CR U)) (orp:Nat->Option (CP U)) (fd:FD U) (io oo as rs:List (SK U)) (x:zA io) (a:zA as):Option (Option (zA oo×zA rs)):=
 kC C io x ⟨[],[],0,0,[]⟩ fun vs st=>feS st fun st=>kC C as a st fun ws st=>feS st fun st=>feA (vs++ws) fun ts=>
 drun C Tb fu (zCN C Tb fu inl orc orr orp (some none) d) fd.fi fd.body (zC9 0 ts) st fun ex e' st'=>match ex with
  | .normal=>dres C Tb e' st' fd.rs fun us=>zF3 C rs us fun z=>xA C oo vs st' fun y _=>some (some (y,z))
  | .ret=>dres C Tb e' st' fd.rs fun us=>zF3 C rs us fun z=>xA C oo vs st' fun y _=>some (some (y,z))
  | _=>none
variable {C Tb} {P:Program} {r:R}
structure FDOk (P:Program) (pf rf:FuncId->Bool) (f:Nat) (fd:FD U):Prop where
 fn:∃ fn,P.funcs[f]? = some fn/\fn.body=some fd.body/\fn.ntmps=fd.n/\fn.results=fd.rs.toArray
 code:zZ P f=true
 ok:xr pf rf fd.fi ⟨fd.n,[]⟩ fd.body=true
 hok:qE fd.fi fd.body=true
def ConOk (C:Cod U) (P:Program) (f:Nat) (c:Con U):Prop:=∀ x y,c.fn x=some y->∀ vs,zDK C c.as x vs->PureF P f vs (finV ((xN C c.rs (fun _=>false) 0 y).map (trT C ⟨id,id,id,id⟩)))
def MOk (C:Cod U) (P:Program) (m:String) (c:Con U):Prop:=∀ x y,c.fn x=some y->∀ v vs,zDK C c.as x (v::vs)->∃ t u g,v = .at (.iface t u)/\resM P t m=some g/\zZ P g=true/\okV u=true/\PureF P g (cV u::vs) (finV ((xN C c.rs (fun _=>false) 0 y).map (trT C ⟨id,id,id,id⟩)))
def OrcOk (C:Cod U) (P:Program) (f:Nat) (c:Con U):Prop:=(f < 1000000->zZ P f=true/\ConOk C P f c)/\∀ m,mIx m=f->MOk C P m c
theorem OrcOk.of {P:Program} {f:Nat} {c:Con U} (h:zZ P f=true/\ConOk C P f c) (hf:Nat.blt f 1000000=true):OrcOk C P f c:=
 ⟨fun _=>h,fun m hm=>absurd (zPx m) (by have:=yT hf; omega)⟩
theorem zTB (hC:CodOk C) (a:AK U) (n:Bool) (x:denA a):bdd 0 0 (argT C a n x)=true:=by
 cases a <;> first | rfl | exact hC.bd _ _ | (cases x <;> rfl)
theorem zC8 (hC:CodOk C):∀ (as:List (AK U)) (nf:Nat->Bool) (j:Nat) (x:zf as),bdds 0 0 (xN C as nf j x)=true
 | [],_,_,_=>rfl
 | a::r,nf,j,x=>by simp only [xN,bdds,zTB hC,zC8 hC r,Bool.and_self]
theorem zPp (hC:CodOk C) (N N':NM) {l:List (T U)} (h:bdds 0 0 l=true):l.map (trT C N')=l.map (trT C N):=
 yn (nl:=0) (nx:=0) ⟨fun _ h=>by omega,fun _ h=>by omega,fun _ h=>by omega,fun _ h=>by omega⟩ h
theorem zBc (hC:CodOk C):∀ (a:AK U) {v:T U} {K:denA a->Option R},decA C a v K=some r->∃ x,K x=some r/\∀ N,ArgV C a x ((trT C N v).untag)
 | .int k,v,K,h=>by
  simp only [decA] at h;split at h
  . obtain ⟨h1,h2⟩:=zJ h;simp only [decide_eq_true_eq] at h1;subst h1;exact ⟨_,h2,fun N=>rfl⟩
  . cases h
 | .bool,v,K,h=>by
  simp only [decA] at h;split at h
  . exact ⟨_,h,fun N=>rfl⟩
  . cases h
 | .str,v,K,h=>by
  simp only [decA] at h;split at h
  . exact ⟨_,h,fun N=>rfl⟩
  . cases h
 | .ls i,v,K,h=>by
  simp only [decA] at h;split at h
  . exact ⟨_,h,fun N=>⟨true,rfl⟩⟩
  . rename_i m j ys;have hq:=xh h; clear h; obtain ⟨rfl,h⟩:=hq;simp only [kH] at h;refine ⟨_,h,fun N=>?_⟩;cases m with
    | b n=>cases n with
     | false=>exact ⟨false,rfl⟩
     | true=>exact ⟨true,rfl⟩
    | dl=>cases ys with
     | nil=>exact ⟨true,rfl⟩
     | cons y ys=>exact ⟨false,rfl⟩
    | ow t nb=>cases nb with
     | false=>exact ⟨false,rfl⟩
     | true=>cases ys with
      | nil=>exact ⟨true,rfl⟩
      | cons y ys=>exact ⟨false,rfl⟩
  . cases h
 | .dl i,v,K,h=>by
  simp only [decA] at h;split at h
  . exact ⟨_,h,fun N=>rfl⟩
  . rename_i m j ys;have hq:=xh h; clear h; obtain ⟨rfl,h⟩:=hq;simp only [kH] at h;split at h
    . refine ⟨_,h,fun N=>?_⟩;cases ys <;> rfl
    . rename_i n;obtain ⟨h1,h2⟩:=zJ h;refine ⟨_,h2,fun N=>?_⟩;cases n <;> cases ys <;> simp at h1 <;> rfl
    . rename_i t nb;cases nb with
      | true=>exact ⟨_,h,fun N=>rfl⟩
      | false=>
       simp only [cond_false] at h;obtain ⟨h1,h2⟩:=zJ h;refine ⟨_,h2,fun N=>?_⟩;cases ys <;> simp at h1
       rfl
  . cases h
 | .bl i,v,K,h=>by
  simp only [decA] at h;split at h
  . exact ⟨_,h,fun N=>rfl⟩
  . rename_i m j ys;have hq:=xh h; clear h; obtain ⟨rfl,h⟩:=hq;simp only [kH] at h;split at h
    . refine ⟨_,h,fun N=>?_⟩;cases ys <;> rfl
    . rename_i n;refine ⟨_,h,fun N=>?_⟩;cases n <;> rfl
    . rename_i t nb;cases nb with
      | true=>refine ⟨_,h,fun N=>?_⟩; cases ys <;> rfl
      | false=>exact ⟨_,h,fun N=>rfl⟩
  . cases h
 | .st i,v,K,h=>by
  simp only [decA] at h;obtain ⟨x,h1,h2⟩:=hC.dec i _ _ _ h;exact ⟨x,h1,fun N=>by show _=trT C _ (C.enc i x); rw [hC.enc,h2]⟩
 | .err,v,K,h=>by
  simp only [decA] at h;split at h
  . exact ⟨true,h,fun N=>rfl⟩
  . obtain ⟨h1,h2⟩:=zJ h;have e1:=zBg h1;subst e1;exact ⟨false,h2,fun N=>rfl⟩
  . cases h
theorem zEm (hC:CodOk C):∀ (as:List (AK U)) {vs:List (T U)} {K:zf as->Option R},zDC C as vs K=some r->∃ x,K x=some r/\∀ N,zDK C as x ((vs.map (trT C N)).map V.untag)
 | [],vs,K,h=>by
  cases vs with
  | nil=>exact ⟨_,h,fun N=>rfl⟩
  | cons _ _=>cases h
 | a::rest,vs,K,h=>by
  cases vs with
  | nil=>cases h
  | cons v vs=>
   simp only [zDC] at h;obtain ⟨x,h1,h2⟩:=zBc hC a h;obtain ⟨xs,h3,h4⟩:=zEm hC rest h1;exact ⟨_,h3,fun N=>⟨_,_,rfl,h2 N,h4 N⟩⟩
theorem zCa (N:NM) (vs:List (T U)):finV (vs.map (trT C N))=trT C N (finT vs):=by
 match vs with
 | []=>rfl
 | [x]=>rfl
 | x::y::r=>simp [finV,finT,trT,yX]
theorem zAm {st:St U} {N:NM}:∀ (args:List (T U)) (n:Nat),bdds st.nl st.nx args=true->ESim C N st (zC9 n args) (jT n (args.map (trT C N)))
 | [],n,_,k=>⟨.inl rfl,rfl⟩
 | x::xs,n,h,k=>by
  simp only [bdds,Bool.and_eq_true] at h;simp only [zC9,eget,List.map_cons,jT,Env.get];by_cases e:n=k
  . subst e;have:Nat.beq n n=true:=by simp
    simp only [this,cond_true,if_true];exact ⟨.inr rfl,h.1⟩
  . simp only [ym e,cond_false,if_neg e];exact zAm xs (n+1) h.2 k
theorem zEP (hT:TbOk C P Tb) (hC:CodOk C) {N:NM} {st:St U} {s:S} {e:En U} {E:Env} (hs:SSim C N st s) (he:ESim C N st e E):∀ (rs:List ResultVar) {K:List (T U)->Option R} {G:List V->Prop},dres C Tb e st rs K=some r ->
 (∀ vs,K vs=some r->G (vs.map (trT C N)))->xY P rs E s G
 | [],K,G,h,hG=>hG [] h
 | v::rest,K,G,h,hG=>by
  cases v with
  | tmp t=>
   simp only [dres,zBh] at h;obtain ⟨h1,h2⟩:=zJ h;have hne:eget e t≠.any:=fun e'=>by rw [e'] at h1; simp [T.flat,yG,T.isOne] at h1
   simp only [xY];rw [((he t).1).get hne,xu];exact ⟨(yq C N _).2 h1,zEP hT hC hs he rest h2 fun vs hv=>hG (_::vs) hv⟩
  | cell p t=>
   simp only [dres,zBh] at h;simp only [xY];refine zGu hT hC hs (he p).1 h fun v hv=>?_;obtain ⟨h1,h2⟩:=zJ hv;rw [xu];exact ⟨(yq C N _).2 h1,zEP hT hC hs he rest h2 fun vs hv=>hG (_::vs) hv⟩
theorem zDo (hT:TbOk C P Tb) (hC:CodOk C) {N:NM} {st:St U} {s:S} {e:En U} {E:Env} (hs:SSim C N st s) (he:ESim C N st e E):∀ (rs:List ResultVar) {K:List (T U)->Option R} {G:List V->Prop},dres C Tb e st rs K=some r ->
 (∀ vs,K vs=some r->G ((vs.map (trT C N)).map V.untag))->yb P rs E s G
 | [],K,G,h,hG=>hG [] h
 | v::rest,K,G,h,hG=>by
  cases v with
  | tmp t=>
   simp only [dres,zBh] at h;obtain ⟨h1,h2⟩:=zJ h;have hne:eget e t≠.any:=fun e'=>by rw [e'] at h1; simp [T.flat,yG,T.isOne] at h1
   simp only [yb];rw [((he t).1).get hne,xu];exact ⟨(yq C N _).2 h1,zDo hT hC hs he rest h2 fun vs hv=>hG (_::vs) hv⟩
  | cell p t=>
   simp only [dres,zBh] at h;simp only [yb];refine zGu hT hC hs (he p).1 h fun v hv=>?_;obtain ⟨h1,h2⟩:=zJ hv;rw [xu];exact ⟨(yq C N _).2 h1,zDo hT hC hs he rest h2 fun vs hv=>hG (_::vs) hv⟩
theorem Sub.refl:∀ l:List V,Sub l l
 | []=>.nil
 | _::r=>.keep (Sub.refl r)
theorem zAc (N:NM):∀ {l:List (T U)},xt l=true->((l.map (trT C N)).all fun x=>x.flat.all V.isOne)=true
 | [],_=>rfl
 | x::r,h=>by
  simp only [xt,Bool.and_eq_true] at h;simp only [List.map_cons,List.all_cons,Bool.and_eq_true];refine ⟨?_,zAc N h.2⟩;have:=(yq C N x.flat).2 h.1;rw [<- xu] at this;exact this
theorem zJ5 {nl nx:Nat}:∀ {l:List (T U)},bdds nl nx l=true->∀ n,bdds nl nx (l.take n)=true
 | [],_,n=>by simp [bdds]
 | x::r,h,0=>rfl
 | x::r,h,n+1=>by
  simp only [bdds,Bool.and_eq_true,List.take_succ_cons] at h ⊢;exact ⟨h.1,zJ5 h.2 n⟩
theorem zDT {nl nx:Nat}:∀ {l l':List (T U)},bdds nl nx l=true->bdds nl nx l' = true->bdds nl nx (l++l')=true
 | [],_,_,h=>h
 | x::r,l',h,h'=>by
  simp only [bdds,Bool.and_eq_true,List.cons_append] at h ⊢;exact ⟨h.1,zDT h.2 h'⟩
theorem zBG {s:S}:∀ (l:List (SK U)) (x:zA l) {vs:List V} {rs:List Res},VKs C s l x vs rs->vs.length=l.length
 | [],x,vs,rs,h=>by simp only [VKs] at h; rw [h.1]; rfl
 | k::r,x,vs,rs,h=>by
  simp only [VKs] at h;obtain ⟨v,vs',r1,r2,rfl,rfl,h1,h2⟩:=h;simp [zBG r x.2 h2]
def resB (s:S):Res->Option (Nat×List V×Nat)
 | .inr b=>(Al.look s.box b).map fun c=>(b,c)
 | _=>none
def resT:Res->Option Nat
 | .inl n=>some n
 | _=>none
def resO (s:S):Res->Option (Nat×OV×List Nat)
 | .ob b=>(zN s.ob b).map fun c=>(b,c)
 | _=>none
def subS (s:S) (rs:List Res):S:=⟨rs.filterMap (resB s),rs.filterMap resT,s.nx,rs.filterMap (resO s)⟩
theorem xV (s:S):∀ (rs:List Res) (b:Nat),(.inr b ∈ rs->Al.look (subS s rs).box b=Al.look s.box b)/\(.inr b ∉ rs->Al.look (subS s rs).box b=none)
 | [],b=>⟨fun h=>(by cases h),fun _=>rfl⟩
 | y::r,b=>by
  obtain ⟨h1,h2⟩:=xV s r b;have hh:∀ c,Al.look (subS s (.inr c::r)).box b=if c=b then (match Al.look s.box c with | some x=>some x | none=>Al.look (subS s r).box b) else Al.look (subS s r).box b:=fun c=>by
   show Al.look (List.filterMap (resB s) (Res.inr c::r)) b=_;rw [List.filterMap_cons];simp only [resB];cases e:Al.look s.box c with
   | none=>simp only [Option.map_none]; split <;> rfl
   | some x=>simp only [Option.map_some]; rfl
  cases y with
  | inr c=>
   constructor
   . intro hm;rw [hh];by_cases e:c=b
     . subst e;rw [if_pos rfl];cases e2:Al.look s.box c with
       | some x=>rfl
       | none=>
        by_cases hr:Res.inr c ∈ r
        . simp only; rw [h1 hr,e2]
        . simp only; rw [h2 hr]
     . rw [if_neg e];rcases List.mem_cons.1 hm with q | q
       . injection q with q; exact absurd q.symm e
       . exact h1 q
   . intro hm;have hr:Res.inr b ∉ r:=fun q=>hm (List.mem_cons_of_mem _ q);rw [hh,if_neg (fun e=>hm (by rw [e]; exact List.mem_cons_self ..))];exact h2 hr
  | inl n=>exact ⟨fun hm=>h1 ((List.mem_cons.1 hm).resolve_left (fun q=>by cases q)),fun hm=>h2 fun q=>hm (List.mem_cons_of_mem _ q)⟩
  | ob n=>exact ⟨fun hm=>h1 ((List.mem_cons.1 hm).resolve_left (fun q=>by cases q)),fun hm=>h2 fun q=>hm (List.mem_cons_of_mem _ q)⟩
theorem qy (s:S):∀ (rs:List Res) (b:Nat),(.ob b ∈ rs->zN (subS s rs).ob b=zN s.ob b)/\(.ob b ∉ rs->zN (subS s rs).ob b=none)
 | [],b=>⟨fun h=>(by cases h),fun _=>rfl⟩
 | y::r,b=>by
  obtain ⟨h1,h2⟩:=qy s r b;have hh:∀ c,zN (subS s (.ob c::r)).ob b=if c=b then (match zN s.ob c with | some x=>some x | none=>zN (subS s r).ob b) else zN (subS s r).ob b:=fun c=>by
   show zN (List.filterMap (resO s) (Res.ob c::r)) b=_;rw [List.filterMap_cons];simp only [resO];cases e:zN s.ob c with
   | none=>simp only [Option.map_none]; split <;> rfl
   | some x=>simp only [Option.map_some]; rfl
  cases y with
  | ob c=>
   constructor
   . intro hm;rw [hh];by_cases e:c=b
     . subst e;rw [if_pos rfl];cases e2:zN s.ob c with
       | some x=>rfl
       | none=>
        by_cases hr:Res.ob c ∈ r
        . simp only; rw [h1 hr,e2]
        . simp only; rw [h2 hr]
     . rw [if_neg e];rcases List.mem_cons.1 hm with q | q
       . injection q with q; exact absurd q.symm e
       . exact h1 q
   . intro hm;have hr:Res.ob b ∉ r:=fun q=>hm (List.mem_cons_of_mem _ q);rw [hh,if_neg (fun e=>hm (by rw [e]; exact List.mem_cons_self ..))];exact h2 hr
  | inl n=>exact ⟨fun hm=>h1 ((List.mem_cons.1 hm).resolve_left (fun q=>by cases q)),fun hm=>h2 fun q=>hm (List.mem_cons_of_mem _ q)⟩
  | inr n=>exact ⟨fun hm=>h1 ((List.mem_cons.1 hm).resolve_left (fun q=>by cases q)),fun hm=>h2 fun q=>hm (List.mem_cons_of_mem _ q)⟩
theorem zD3 (s:S) (rs:List Res) (n:Nat):n ∈ (subS s rs).tg↔.inl n ∈ rs:=by
 show n ∈ rs.filterMap resT↔_;simp only [List.mem_filterMap];constructor
 . rintro ⟨y,h1,h2⟩;cases y <;> simp [resT] at h2
   subst h2; exact h1
 . intro h; exact ⟨_,h,rfl⟩
def InS (s:S):Res->Prop
 | .inl n=>n ∈ s.tg
 | .inr b=>∃ c,Al.look s.box b=some c
 | .ob b=>∃ c,zN s.ob b=some c
mutual
theorem VK_in {s:S}:∀ (k:SK U) (x:denK k) {v:V} {rs:List Res},VK C s k x v rs->∀ y ∈ rs,InS s y
 | .int k,x,v,rs,h,y,hy=>by simp only [VK] at h; rw [h.2] at hy; cases hy
 | .bool,x,v,rs,h,y,hy=>by simp only [VK] at h; rw [h.2] at hy; cases hy
 | .str,x,v,rs,h,y,hy=>by simp only [VK] at h; rw [h.2] at hy; cases hy
 | .dl i,x,v,rs,h,y,hy=>by simp only [VK] at h; rw [h.2] at hy; cases hy
 | .bl i,x,v,rs,h,y,hy=>by simp only [VK] at h; rw [h.2] at hy; cases hy
 | .st i,x,v,rs,h,y,hy=>by simp only [VK] at h; rw [h.2] at hy; cases hy
 | .mc1 i,x,v,rs,h,y,hy=>by
  simp only [VK] at h;obtain ⟨b,fp,rfl,h1,rfl⟩:=h;simp only [List.mem_singleton] at hy;subst hy; exact ⟨_,h1⟩
 | .ow nb i,x,v,rs,h,y,hy=>by
  simp only [VK] at h;obtain ⟨n,rfl,h1,h2,rfl⟩:=h;simp only [List.mem_singleton] at hy;subst hy; exact h1
 | .arr i,x,v,rs,h,y,hy=>by
  cases x with
  | none=>simp only [VK] at h; rw [h.2] at hy; cases hy
  | some xs=>
   simp only [VK] at h;obtain ⟨b,cap,rfl,h1,h2,rfl⟩:=h;simp only [List.mem_singleton] at hy;subst hy; exact ⟨_,h2⟩
 | .box cs,x,v,rs,h,y,hy=>by
  simp only [VK] at h;obtain ⟨b,vs,rs',rfl,h1,h2,rfl⟩:=h;rcases List.mem_cons.1 hy with rfl | hy
  . exact ⟨_,h1⟩
  . exact jX cs x h2 y hy
theorem jX {s:S}:∀ (l:List (SK U)) (x:zA l) {vs:List V} {rs:List Res},VKs C s l x vs rs->∀ y ∈ rs,InS s y
 | [],x,vs,rs,h,y,hy=>by simp only [VKs] at h; rw [h.2] at hy; cases hy
 | k::r,x,vs,rs,h,y,hy=>by
  simp only [VKs] at h;obtain ⟨v,vs',r1,r2,rfl,rfl,h1,h2⟩:=h;rcases List.mem_append.1 hy with hy | hy
  . exact VK_in k x.1 h1 y hy
  . exact jX r x.2 h2 y hy
end
structure Keeps (s s':S) (rs:List Res):Prop where
 box:∀ b c,.inr b ∈ rs->Al.look s.box b=some c->Al.look s'.box b=some c
 ob:∀ b c,.ob b ∈ rs->zN s.ob b=some c->zN s'.ob b=some c
 tg:∀ n,.inl n ∈ rs->n ∈ s.tg->n ∈ s'.tg
 nx:s.nx<=s'.nx
theorem Keeps.mono {s s':S} {rs rs':List Res} (h:Keeps s s' rs) (hm:∀ y ∈ rs',y ∈ rs):Keeps s s' rs':=
 ⟨fun b c h1=>h.box b c (hm _ h1),fun b c h1=>h.ob b c (hm _ h1),fun n h1=>h.tg n (hm _ h1),h.nx⟩
theorem zDF (s:S) (rs:List Res):Keeps s (subS s rs) rs:=
 ⟨fun b c h1 h2=>((xV s rs b).1 h1).trans h2,fun b c h1 h2=>((qy s rs b).1 h1).trans h2,fun n h1 _=>(zD3 s rs n).2 h1,Nat.le_refl _⟩
theorem zAF (st0 st s:S) (rs:List Res):Keeps s (jR st0 st s) rs:=
 ⟨fun b c _ h=>by rw [zDJ,h]; rfl,fun b c _ h=>by rw [zEI,h]; rfl,fun n _ h=>List.mem_append_left _ h,Nat.le_max_left _ _⟩
mutual
theorem zSO {s s':S}:∀ (k:SK U) (x:denK k) {v:V} {rs:List Res},VK C s k x v rs->Keeps s s' rs->VK C s' k x v rs
 | .int k,x,v,rs,h,_=>by simpa only [VK] using h
 | .bool,x,v,rs,h,_=>by simpa only [VK] using h
 | .str,x,v,rs,h,_=>by simpa only [VK] using h
 | .dl i,x,v,rs,h,_=>by simpa only [VK] using h
 | .bl i,x,v,rs,h,_=>by simpa only [VK] using h
 | .st i,x,v,rs,h,_=>by simpa only [VK] using h
 | .mc1 i,x,v,rs,h,hk=>by
  simp only [VK] at h ⊢;obtain ⟨b,fp,rfl,h1,rfl⟩:=h;exact ⟨b,fp,rfl,hk.ob b _ (by simp) h1,rfl⟩
 | .ow nb i,x,v,rs,h,hk=>by
  simp only [VK] at h ⊢;obtain ⟨n,rfl,h1,h2,rfl⟩:=h;exact ⟨n,rfl,hk.tg n (by simp) h1,Nat.lt_of_lt_of_le h2 hk.nx,rfl⟩
 | .arr i,x,v,rs,h,hk=>by
  cases x with
  | none=>simpa only [VK] using h
  | some xs=>
   simp only [VK] at h ⊢;obtain ⟨b,cap,rfl,h1,h2,rfl⟩:=h;exact ⟨b,cap,rfl,h1,hk.box b _ (by simp) h2,rfl⟩
 | .box cs,x,v,rs,h,hk=>by
  simp only [VK] at h ⊢;obtain ⟨b,vs,rs',rfl,h1,h2,rfl⟩:=h;exact ⟨b,vs,rs',rfl,hk.box b _ (by simp) h1,xW cs x h2 (hk.mono fun y hy=>List.mem_cons_of_mem _ hy),rfl⟩
theorem xW {s s':S}:∀ (l:List (SK U)) (x:zA l) {vs:List V} {rs:List Res},VKs C s l x vs rs->Keeps s s' rs->VKs C s' l x vs rs
 | [],x,vs,rs,h,_=>by simpa only [VKs] using h
 | k::r,x,vs,rs,h,hk=>by
  simp only [VKs] at h ⊢;obtain ⟨v,vs',r1,r2,rfl,rfl,h1,h2⟩:=h;exact ⟨v,vs',r1,r2,rfl,rfl,zSO k x.1 h1 (hk.mono fun y hy=>List.mem_append_left _ hy),xW r x.2 h2 (hk.mono fun y hy=>List.mem_append_right _ hy)⟩
end
theorem zB1 {s:S} {rs:List Res} (hn:rs.Nodup) (hi:∀ y ∈ rs,InS s y):PartS (subS s rs) s:=by
 refine ⟨fun b c h=>?_,fun n h=>hi _ ((zD3 s rs n).1 h),?_,fun b c h=>?_,rfl⟩
 . by_cases hm:Res.inr b ∈ rs
   . rw [(xV s rs b).1 hm] at h; exact h
   . rw [(xV s rs b).2 hm] at h; cases h
 . have key:∀ l:List Res,l.Nodup->(l.filterMap resT).Nodup:=fun l=>by
    induction l with
    | nil=>intro _; exact List.nodup_nil
    | cons y r ih=>
     intro h;obtain ⟨h1,h2⟩:=List.nodup_cons.1 h;cases y with
     | inl n=>
      rw [List.filterMap_cons];refine List.nodup_cons.2 ⟨fun hm=>?_,ih h2⟩;obtain ⟨z,h3,h4⟩:=List.mem_filterMap.1 hm;cases z <;> simp [resT] at h4
      subst h4; exact h1 h3
     | inr n=>rw [List.filterMap_cons]; exact ih h2
     | ob n=>rw [List.filterMap_cons]; exact ih h2
   exact key rs hn
 . by_cases hm:Res.ob b ∈ rs
   . rw [(qy s rs b).1 hm] at h; exact h
   . rw [(qy s rs b).2 hm] at h; cases h
theorem zBy {s s1:S} {rs:List Res} (ha:ApartS (subS s rs) s s1) {b:Nat} {c:List V×Nat} (hm:.inr b ∉ rs) (h:Al.look s.box b=some c):Al.look (jR (subS s rs) s s1).box b=some c/\Al.look s1.box b=none:=by
 have h1:Al.look (rbox (subS s rs) s) b=some c:=by rw [jb,(xV s rs b).2 hm]; simpa using h
 have h2:=ha.box b c h1;exact ⟨by rw [zDJ,h2,h1]; rfl,h2⟩
theorem zEH {s s1:S} {rs:List Res} (ha:ApartS (subS s rs) s s1) {b:Nat} {c:OV×List Nat} (hm:.ob b ∉ rs) (h:zN s.ob b=some c):zN (jR (subS s rs) s s1).ob b=some c/\zN s1.ob b=none:=by
 have h1:zN (rob (subS s rs) s) b=some c:=by rw [kK,(qy s rs b).2 hm]; simpa using h
 have h2:=ha.ob b c h1;exact ⟨by rw [zEI,h2,h1]; rfl,h2⟩
theorem zGR {s s1:S} {rs:List Res} (ha:ApartS (subS s rs) s s1) {n:Nat} (hm:.inl n ∉ rs) (h:n ∈ s.tg):n ∈ (jR (subS s rs) s s1).tg/\n ∉ s1.tg:=by
 have h1:n ∈ rtg (subS s rs) s:=rtg_iff.2 ⟨h,fun q=>hm ((zD3 s rs n).1 q)⟩;exact ⟨List.mem_append_right _ h1,ha.tg n h1⟩
theorem SSim.rest {N:NM} {st:St U} {s s1:S} {rs:List Res} (hs:SSim C N st s) (ha:ApartS (subS s rs) s s1) (hd:∀ y ∈ rs,¬ Has N st y):SSim C N st (jR (subS s rs) s s1)/\∀ y,Has N st y->¬ InS s1 y:=by
 have hb:∀ l b,lk st.bx l=some b->.inr (N.bl l) ∉ rs:=fun l b hl hm=>hd _ hm ⟨l,b,hl,rfl⟩;have ho:∀ l o,lko st.ob l=some o->.ob (N.bl l) ∉ rs:=fun l o hl hm=>hd _ hm ⟨l,o,hl,rfl⟩;have ht:∀ t ∈ st.tg,.inl (N.tk t) ∉ rs:=fun t h hm=>hd _ hm ⟨t,h,rfl⟩;refine ⟨⟨fun l b hl=>(zBy ha (hb l b hl) (hs.box l b hl)).1,hs.lt,hs.wf,hs.inj,fun t h=>(zGR ha (ht t h) (hs.tgIn t h)).1,hs.tgInj,hs.tgLt,fun t h=>Nat.lt_of_lt_of_le (hs.nm t h) (Nat.le_max_right _ _),⟨fun l o hl=>?_,hs.ob.lt,hs.ob.wf,hs.ob.inj⟩⟩,fun y hy hi=>?_⟩
 . obtain ⟨fp,h⟩:=hs.ob.look l o hl;exact ⟨fp,(zEH ha (ho l o hl) h).1⟩
 . cases y with
   | inl n=>obtain ⟨t,h,rfl⟩:=hy; exact (zGR ha (ht t h) (hs.tgIn t h)).2 hi
   | inr b=>obtain ⟨l,x,hl,rfl⟩:=hy; obtain ⟨c,hc⟩:=hi; rw [(zBy ha (hb l x hl) (hs.box l x hl)).2] at hc; cases hc
   | ob b=>
    obtain ⟨l,x,hl,rfl⟩:=hy; obtain ⟨c,hc⟩:=hi;obtain ⟨fp,h⟩:=hs.ob.look l x hl;rw [(zEH ha (ho l x hl) h).2] at hc; cases hc
theorem zNu (hC:CodOk C):∀ (k:SK U) {v:T U} {K:denK k->Option R},getR C k v K=some r->∃ x,K x=some r/\∀ N s,VK C s k x ((trT C N v).untag) []
 | .int k,v,K,h=>by
  obtain ⟨x,h1,h2⟩:=zBc hC (.int k) h;exact ⟨x,h1,fun N s=>by simp only [VK]; exact ⟨h2 N,trivial⟩⟩
 | .bool,v,K,h=>by
  obtain ⟨x,h1,h2⟩:=zBc hC .bool h;exact ⟨x,h1,fun N s=>by simp only [VK]; exact ⟨h2 N,trivial⟩⟩
 | .str,v,K,h=>by
  obtain ⟨x,h1,h2⟩:=zBc hC .str h;exact ⟨x,h1,fun N s=>by simp only [VK]; exact ⟨h2 N,trivial⟩⟩
 | .dl i,v,K,h=>by
  obtain ⟨x,h1,h2⟩:=zBc hC (.dl i) h;exact ⟨x,h1,fun N s=>by simp only [VK]; exact ⟨h2 N,trivial⟩⟩
 | .bl i,v,K,h=>by
  obtain ⟨x,h1,h2⟩:=zBc hC (.bl i) h;exact ⟨x,h1,fun N s=>by simp only [VK]; exact ⟨h2 N,trivial⟩⟩
 | .st i,v,K,h=>by
  obtain ⟨x,h1,h2⟩:=zBc hC (.st i) h;exact ⟨x,h1,fun N s=>by simp only [VK]; exact ⟨(h2 N).trans (hC.enc _ i x),trivial⟩⟩
 | .ow _ _,v,K,h=>by simp [getR] at h
 | .arr _,v,K,h=>by simp [getR] at h
 | .box _,v,K,h=>by simp [getR] at h
 | .mc1 _,v,K,h=>by simp [getR] at h
theorem zMW (hC:CodOk C):∀ (l:List (SK U)) {vs:List (T U)} {K:zA l->Option R},zF3 C l vs K=some r->∃ x,K x=some r/\∀ N s,VKs C s l x ((vs.map (trT C N)).map V.untag) []
 | [],vs,K,h=>by
  cases vs with
  | nil=>exact ⟨(),h,fun N s=>by simp only [VKs]; exact ⟨rfl,trivial⟩⟩
  | cons _ _=>cases h
 | k::rest,vs,K,h=>by
  cases vs with
  | nil=>cases h
  | cons v vs=>
   simp only [zF3] at h;obtain ⟨x,h1,h2⟩:=zNu hC k h;obtain ⟨xs,h3,h4⟩:=zMW hC rest h1;exact ⟨(x,xs),h3,fun N s=>by
    simp only [VKs,List.map_cons];exact ⟨_,_,[],[],rfl,rfl,h2 N s,h4 N s⟩⟩
theorem zLp (hC:CodOk C):∀ (l:List (SK U)) (x:zA l) {K:List (T U)->Option R},zBl C l x K=some r->∃ ts,K ts=some r/\bdds 0 0 ts=true/\∀ N s ws q,VKs C s l x ws q->ws=ts.map (trT C N)
 | [],x,K,h=>⟨[],h,rfl,fun N s ws q hv=>by simp only [VKs] at hv; exact hv.1⟩
 | k::rest,x,K,h=>by
  have key:∀ (t:T U),bdd 0 0 t=true->(∀ N s w q,VK C s k x.1 w q->w=trT C N t)->(zBl C rest x.2 fun vs=>K (t::vs))=some r->∃ ts,K ts=some r/\bdds 0 0 ts=true/\∀ N s ws q,VKs C s (k::rest) x ws q->ws=ts.map (trT C N):=fun t hb ht hh=>by
   obtain ⟨ts,h1,h2,h3⟩:=zLp hC rest x.2 hh;refine ⟨t::ts,h1,by simp only [bdds,hb,h2,Bool.and_self],fun N s ws q hv=>?_⟩;simp only [VKs] at hv;obtain ⟨v,vs',r1,r2,rfl,rfl,k1,k2⟩:=hv;rw [List.map_cons,ht N s v r1 k1,h3 N s vs' r2 k2]
  cases k <;> simp only [zBl] at h <;> first
   | contradiction
   | exact key _ rfl (fun N s w q hv=>by simp only [VK] at hv; exact hv.1) h
   | exact key (C.enc _ x.1) (hC.bd _ x.1) (fun N s w q hv=>by simp only [VK] at hv; exact hv.1.trans (hC.enc N _ _).symm) h
variable (C) in
def qo (syn:List PanicEntry) (oo rs:List (SK U)) (vx:List V):Option (zA oo×zA rs)->Outc->S->Prop
 | none,.pan k,_=>k=syn
 | some y,.ret w,s'=>∃ ws q1 q2,VKs C s' oo y.1 vx q1/\VKs C s' rs y.2 ws q2/\(q1++q2).Nodup/\w=finV ws
 | _,_,_=>False
def CPOk (C:Cod U) (P:Program) (syn:List PanicEntry) (f:Nat) (c:CP U):Prop:=∀ (x:zA c.io) (a:zA c.as) {R:Type} (pan:Option R) (K:zA c.oo->zA c.rs->Option R) (r:R),c.fn x a pan K=some r ->
 ∃ oc:Option (zA c.oo×zA c.rs),(match oc with | none=>pan=some r | some y=>K y.1 y.2=some r) /\
  ∀ s vx va r1 r2,VKs C s c.io x vx r1->VKs C s c.as a va r2->(r1++r2).Nodup->FnC P f (vx++va) (subS s (r1++r2)) (qo C syn c.oo c.rs vx oc)
def CROk (C:Cod U) (P:Program) (f:Nat) (c:CR U):Prop:=∀ (x:zA c.as) {R:Type} (K:zA c.rs->Option R) (r:R),c.fn x K=some r ->
 ∃ y,K y=some r/\∀ s va q,VKs C s c.as x va q->q.Nodup->∃ ws,(∀ s',VKs C s' c.rs y ws [])/\FnC P f va (subS s q) fun oc s'=>oc = .ret (finV ws)/\s' = subS s q
theorem zME {st:St U}:∀ {ks:List Nat},zIT st ks=true->∀ l ∈ ks,∃ b,lk st.bx l=some b
 | [],_,l,hl=>by cases hl
 | k::r,h,l,hl=>by
  simp only [zIT,Bool.and_eq_true] at h;rcases List.mem_cons.1 hl with rfl | hl
  . split at h
    . rename_i b hb; exact ⟨b,hb⟩
    . exact absurd h.1 (by simp)
  . exact zME h.2 l hl
theorem zSf (hC:CodOk C) {syn:List PanicEntry} {c:CP U} {f:Nat} (hok:CPOk C P syn f c) {N:NM} {st:St U} {s:S} (hs:SSim C N st s) {args:List (T U)} (hb:bdds st.nl st.nx args=true) {ks:List Nat} {pan:Option R} {k:T U->St U->Option R}
 (h:zOm C c args ks st pan k=some r) :
 FnC P f (args.map (trT C N)) s fun oc s'=>match oc with
  | .ret w=>(∀ l ∈ ks,Al.look s'.box (N.bl l)=Al.look s.box (N.bl l))/\∃ N' st' v,k v st' = some r/\Turn N st N' st'/\SSim C N' st' s'/\w=trT C N' v
  | .pan e=>e=syn/\pan=some r:=by
 unfold zOm at h;simp only [zAy] at h;have norm:∃ N0 st0 s0,(xA C c.io (args.take c.io.length) st0 fun x st1=>feS st1 fun st1=>xA C c.as (args.drop c.io.length) st1 fun a st2=>feS st2 fun st2=>
  bif zIT st2 ks then c.fn x a pan fun y z=>zIH C c.oo y (args.take c.io.length) st2 fun st3=>kC C c.rs z st3 fun vs st4=>k (finT vs) st4 else none)=some r/\Gs s s0/\Turn N st N0 st0/\SSim C N0 st0 s0/\(ks≠[]->s0=s/\N0=N):=by
  cases hk:ks.isEmpty with
  | true=>
   rw [hk] at h;simp only [cond_true] at h;obtain ⟨N0,st0,s0,h1,h2,h3,h4⟩:=zBs hC _ _ hs h;refine ⟨N0,st0,s0,h1,h2,h3,h4,fun hne=>?_⟩;simp only [List.isEmpty_iff] at hk;exact absurd hk hne
  | false=>
   rw [hk] at h;simp only [cond_false] at h;exact ⟨N,st,s,h,.refl _,.refl _ _,hs,fun _=>⟨rfl,rfl⟩⟩
 obtain ⟨N0,st0,s0,h1,hg,ht0,hs0,hsame⟩:=norm;clear h;refine FnC_gs hg ?_;have hb0:bdds st0.nl st0.nx args=true:=yj ht0.nl ht0.nx _ hb;have e0:args.map (trT C N0)=args.map (trT C N):=yn ht0.ext hb;have vr:∀ (l:List (T U)) (j:Nat) (x:T U) (v:V),l[j]? = some x->(l.map (trT C N0))[j]? = some v->VR C N0 x v:=fun l j x v a b=>by
  rw [List.getElem?_map,a] at b;injection b with b
  exact .inr b.symm
 obtain ⟨x,st1,r1,h2,hs1,e1,e2,hv1,hn1,hd1,hu1⟩:=jL hC c.io (vs:=args.take c.io.length) (vs':=(args.take c.io.length).map (trT C N0)) hs0 (by simp) (vr _) h1;rw [yy] at h2;obtain ⟨a,st2,r2,h3,hs2,e3,e4,hv2,hn2,hd2,hu2⟩:=jL hC c.as (vs:=args.drop c.io.length) (vs':=(args.drop c.io.length).map (trT C N0)) hs1 (by simp) (vr _) h2;rw [yy] at h3;obtain ⟨h4,h5⟩:=zJ h3;have hnd:(r1++r2).Nodup:=List.nodup_append.2 ⟨hn1,hn2,fun y hy z hz e=>by subst e; exact (hd1 y hy).2 (hd2 y hz).1⟩;have hgone:∀ y ∈ r1++r2,¬ Has N0 st2 y:=fun y hy hh=>by
  rcases List.mem_append.1 hy with hy | hy
  . exact (hd1 y hy).2 (hu2 y hh)
  . exact (hd2 y hy).2 hh
 obtain ⟨oc,h6,h7⟩:=hok x a pan _ r h5;have hin:∀ y ∈ r1++r2,InS s0 y:=fun y hy=>by
  rcases List.mem_append.1 hy with hy | hy
  . exact jX c.io x hv1 y hy
  . exact jX c.as a hv2 y hy
 have hf:=zDA (h7 s0 _ _ r1 r2 hv1 hv2 hnd) (zB1 hnd hin);rw [<- List.map_append,List.take_append_drop,e0] at hf;refine zG0 hf ?_;rintro o s' ⟨s1,hpost,rfl,hap⟩;cases oc with
 | none=>
  cases o with
  | ret w=>exact hpost.elim
  | pan e=>exact ⟨hpost,h6⟩
 | some y=>
  cases o with
  | pan e=>exact hpost.elim
  | ret w=>
   obtain ⟨ws,q1,q2,hy1,hy2,hyn,rfl⟩:=hpost;obtain ⟨hj,hjn⟩:=hs2.rest hap hgone;have hb2:bdds st2.nl st2.nx args=true:=by rw [e3,e4,e1,e2]; exact hb0
   have hin1:∀ z ∈ q1++q2,InS s1 z:=fun z hz=>by
    rcases List.mem_append.1 hz with hz | hz
    . exact jX c.oo y.1 hy1 z hz
    . exact jX c.rs y.2 hy2 z hz
   obtain ⟨hq1,hq2,hq3⟩:=List.nodup_append.1 hyn;have hbt:bdds st2.nl st2.nx (args.take c.io.length)=true:=zJ5 hb2 _;obtain ⟨N3,st3,h8,h9,h10,h11⟩:=zLh hC c.oo y.1 (args.take c.io.length) hj (xW c.oo y.1 hy1 (zAF _ _ _ _)) hq1 (fun z hz hh=>hjn z hh (hin1 z (by simp [hz]))) hbt h6;obtain ⟨N4,vs4,st4,k1,k2,k3,k4,k5,k6⟩:=jH hC c.rs y.2 h10 (xW c.rs y.2 hy2 (zAF _ _ _ _)) hq2 (fun z hz hh=>by
    rcases h11 z hh with q | q
    . exact hjn z q (hin1 z (by simp [hz]))
    . exact hq3 z q z hz rfl) h8
   have ht2:Turn N st N0 st2:=⟨ht0.ext,by rw [e3,e1]; exact ht0.nl,by rw [e4,e2]; exact ht0.nx⟩;refine ⟨fun l hl=>?_,N4,st4,_,k1,ht2.trans (h9.trans k2),k3,by rw [<- zCa,k4]⟩;obtain ⟨es,eN⟩:=hsame (fun e=>by rw [e] at hl; cases hl);subst es; subst eN;obtain ⟨b,hlb⟩:=zME h4 l hl;rw [hs2.box l b hlb];exact (zBy hap (fun hm=>hgone _ hm ⟨l,b,hlb,rfl⟩) (hs2.box l b hlb)).1
theorem zSb {s:S} {q:List Res} (hn:q.Nodup) (hi:∀ y ∈ q,InS s y) (hnd:s.tg.Nodup):(jR (subS s q) s (subS s q)).sub s:=by
 have hp:=zB1 hn hi;refine ⟨fun b c h=>?_,fun t ht=>?_,fun _=>hnd,fun b h=>?_,?_,fun b c h=>?_⟩
 . rw [zDJ];by_cases hm:Res.inr b ∈ q
   . rw [(xV s q b).1 hm,h]; rfl
   . rw [(xV s q b).2 hm,jb,(xV s q b).2 hm]; simpa using h
 . by_cases hm:Res.inl t ∈ q
   . exact List.mem_append_left _ ((zD3 s q t).2 hm)
   . exact List.mem_append_right _ (rtg_iff.2 ⟨ht,fun h=>hm ((zD3 s q t).1 h)⟩)
 . rw [zDJ] at h;by_cases hm:Res.inr b ∈ q
   . rw [(xV s q b).1 hm] at h; cases e:Al.look s.box b with
     | none=>rfl
     | some c=>rw [e] at h; cases h
   . rw [(xV s q b).2 hm,jb,(xV s q b).2 hm] at h; simpa using h
 . show max s.nx s.nx<=s.nx;omega
 . rw [zEI];by_cases hm:Res.ob b ∈ q
   . rw [(qy s q b).1 hm,h]; rfl
   . rw [(qy s q b).2 hm,kK,(qy s q b).2 hm]; simpa using h
theorem zSx {P:Program} {f:FuncId} {va:List V} {w:V} {s:S} {q:List Res} (hn:q.Nodup) (hi:∀ y ∈ q,InS s y) (h:FnC P f va (subS s q) fun oc s'=>oc = .ret w/\s' = subS s q):FnC P f va s fun oc s'=>oc = .ret w/\s' = s:=by
 intro B g w vs hinv hgl hv;refine (zDA h (zB1 hn hi) B g w vs hinv hgl hv).mono ?_;rintro e w' ⟨g',s',h1,h2,h3⟩;have hsub:=zSb hn hi hinv.nodup;cases e with
 | returned v=>
  obtain ⟨r,h4,s1,⟨h5,rfl⟩,rfl,_⟩:=h3;exact ⟨g',s,h1,h2.weaken hsub,r,h4,h5,rfl⟩
 | panicked c=>obtain ⟨s1,⟨h5,_⟩,_⟩:=h3; cases h5
 | outgrown=>exact h3.elim
theorem zRq (hC:CodOk C) {c:CR U} {f:Nat} (hok:CROk C P f c) {N:NM} {st:St U} {s:S} (hs:SSim C N st s) {args:List (T U)} {k:T U->St U->Option R}
 (h:zOw C c args st k=some r):∃ v,FnC P f (args.map (trT C N)) s (fun oc s'=>oc = .ret (trT C N v)/\s' = s)/\k v st=some r/\bdd 0 0 v=true:=by
 unfold zOw at h;obtain ⟨x,st1,q,h1,hs1,e1,e2,hv,hn,hd,hu⟩:=jL hC c.as (vs:=args) (vs':=args.map (trT C N)) hs (by simp) (fun j x v a b=>by
  rw [List.getElem?_map,a] at b;injection b with b
  exact .inr b.symm) h
 obtain ⟨y,h2,h3⟩:=hok x _ r h1;obtain ⟨ts,h4,h5,h6⟩:=zLp hC c.rs y h2;obtain ⟨ws,h7,h8⟩:=h3 s _ q hv hn;have e3:=h6 N s ws [] (h7 s);refine ⟨finT ts,?_,h4,?_⟩
 . rw [<- zCa,<- e3];exact zSx hn (fun y hy=>jX c.as x hv y hy) h8
 . cases ts with
   | nil=>rfl
   | cons t r=>cases r with
    | nil=>simpa [bdds,finT] using h5
    | cons t2 r=>simpa [finT,bdd] using h5
theorem untag_at {x:V} {v:Value} (h:x.untag = .at v):x = .at v:=by
 cases x with
 | lst tg es=>cases tg <;> simp [V.untag,zn] at h
 | _=>first | exact h | (simp [V.untag,zn] at h; done)
theorem zBK (hT:TbOk C P Tb) (hC:CodOk C) (hm0:P.follows .mixedOrders=true) {syn:List PanicEntry} {pf rf:FuncId->Bool} {fu:Nat} {inl:Nat->Option (FD U)} {orc:Nat->Option (Con U)} {orr:Nat->Option (CR U)} {orp:Nat->Option (CP U)} {pan:Option R}
 (hpf:∀ f,pf f=(orc f).isSome) (hrf:∀ f,rf f=(orr f).isSome) (hin:∀ f fd,inl f=some fd->FDOk P pf rf f fd) (hor:∀ f c,orc f=some c->OrcOk C P f c)
 (hrr:∀ f c,orr f=some c->zZ P f=true/\CROk C P f c) (hpp:∀ f c,orp f=some c->zZ P f=true/\CPOk C P syn f c) :
 ∀ (d:Nat) (wr own:Nat->Bool) (kl:List (Nat×Nat)) (kb:Nat->List Nat),zD0 C P ⟨pf,wr,own,rf,kl,kb⟩ (zCN C Tb fu inl orc orr orp pan d:Call U R) r (fun e=>e=syn/\pan=some r)
 | 0,wr,own,kl,kb,f,args,ks,st,k,N,s,_,_,_,h,_,_,_,_,_,_=>by simp [zCN] at h
 | d+1,wr,own,kl,kb,f,args,ks,st,k,N,s,hs,hb,ha,h,K,KP,kbs,hkb,hK,hKP=>by
  simp only [zCN] at h;cases hb0:Nat.ble 1000000 f with
  | true=>
   rw [hb0] at h;simp only [cond_true] at h;have hge:1000000<=f:=Nat.le_of_ble_eq_true hb0;cases hb2:Nat.ble 2000000 f with
   | true=>
    rw [hb2] at h;simp only [cond_true] at h;have hge2:2000000<=f:=Nat.le_of_ble_eq_true hb2;refine ⟨fun hlt=>absurd hlt (by omega),fun m hm=>absurd (mIx_lt m) (by omega),fun m hm as0 caps he h5 h6=>?_⟩;have hfm:f - 2000000=m:=by unfold cIx at hm; omega
    rw [hfm] at h;subst he;split at h
    . cases h
    rename_i hc;have hp:¬ pf m=true:=by rw [hpf,hc]; simp
    split at h
    . cases h
    rename_i hc2;have hp2:¬ rf m=true:=by rw [hrf,hc2]; simp
    split at h
    . rename_i fd hfd;obtain ⟨h1,h2⟩:=zJ h;simp only [Bool.and_eq_true,List.isEmpty_iff] at h1;have hok:=hin m fd hfd;obtain ⟨fn,q1,q2,q3,q4⟩:=hok.fn;refine ⟨hok.code,zAc N h5,zJv h6,?_⟩;show (if pf m=true then _ else if rf m=true then _ else _);rw [if_neg hp,if_neg hp2];refine ⟨_,Sub.refl _,?_⟩;rw [<- List.map_append];refine zJo q1 q2 q3 q4 (by simpa [Nat.ble_eq] using h1.1) fun B=>?_;refine qm (X:=⟨B,⟨fd.n,[]⟩,none,[]⟩) (PP:=fun e=>e=syn/\pan=some r) hT hC hm0 (zBK hT hC hm0 hpf hrf hin hor hrr hpp d fd.fi.wr fd.fi.own) fd.body hs (zAm (as0++caps) 0 hb) h2 hok.ok hok.hok (fun e s' hq=>hKP e s' hq) ?_;intro ex N' e' st' E' s' p1 p2 p3 p4 _;have fin:(dres C Tb e' st' fd.rs fun vs=>k (finT vs) st')=some r->xY P fd.rs E' s' fun xs=>∃ s0,s'.sub s0/\((∀ b ∈ kbs,Al.look s0.box b=Al.look s.box b)/\K (finV xs) s0):=fun hh=>
       zEP hT hC p3 p4 fd.rs hh fun vs hv=>⟨s',S.sub_refl _,⟨fun b hb=>absurd (hkb b hb) (by rw [h1.2]; rintro ⟨l,hl,_⟩; cases hl),hK _ _ _ _ _ hv p2 p3 (.inr (zCa N' vs))⟩⟩
      cases ex <;> simp only at p1 <;> first | exact fin p1 | cases p1
    . cases h
   | false=>
   rw [hb2] at h;simp only [cond_false] at h;have hlt2:f < 2000000:=by
    rcases Nat.lt_or_ge f 2000000 with h9 | h9
    . exact h9
    . exact absurd (Nat.ble_eq_true_of_le h9) (by rw [hb2]; simp)
   refine ⟨fun hlt=>absurd hlt (by omega),fun m hm a0 as0 he=>?_,fun m hm=>absurd hm (by unfold cIx; omega)⟩;split at h
   . rename_i c hc;subst he;obtain ⟨x,h3,h4⟩:=zEm hC c.as h;cases hx:c.fn x with
     | none=>rw [hx] at h3; cases h3
     | some y=>
      rw [hx] at h3;simp only [Option.bind_some,zDb C c.rs y 0] at h3;obtain ⟨t,u,g,q1,q2,q3,q4,q5⟩:=(hor f c hc).2 m hm x y hx _ _ (h4 N);have q6:trT C N a0 = .at (.iface t u):=untag_at q1;rw [q6];simp only [zNf,q2];refine ⟨q3,q4,(by have:=zAc (C:=C) N ha; simp only [List.map_cons,List.all_cons,Bool.and_eq_true] at this; exact this.2),_,by simpa [List.map_map] using q5,hK _ _ _ _ _ h3 (.refl _ _) hs (.inr ?_)⟩;rw [zPp hC N ⟨id,id,id,id⟩ (zC8 hC c.rs _ 0 y),zCa]
   . cases h
  | false=>
  rw [hb0] at h;simp only [cond_false] at h;have hlt:f < 1000000:=by
   rcases Nat.lt_or_ge f 1000000 with h9 | h9
   . exact h9
   . exact absurd (Nat.ble_eq_true_of_le h9) (by rw [hb0]; simp)
  refine ⟨fun _=>?_,fun m hm=>absurd (zPx m) (by omega),fun m hm=>absurd hm (by unfold cIx; omega)⟩;split at h
  . rename_i c hc;obtain ⟨h1,h2⟩:=(hor f c hc).1 hlt;obtain ⟨x,h3,h4⟩:=zEm hC c.as h;cases hx:c.fn x with
    | none=>rw [hx] at h3; cases h3
    | some y=>
     rw [hx] at h3;simp only [Option.bind_some,zDb C c.rs y 0] at h3;refine ⟨h1,zAc N ha,rfl,?_⟩;have hp:pf f=true:=by rw [hpf,hc]; rfl
     show (if pf f=true then _ else _);rw [if_pos hp];refine ⟨rfl,_,h2 x y hx _ (h4 N),hK _ _ _ _ _ h3 (.refl _ _) hs (.inr ?_)⟩;rw [zPp hC N ⟨id,id,id,id⟩ (zC8 hC c.rs _ 0 y),zCa]
  . rename_i hc;have hp:¬ pf f=true:=by rw [hpf,hc]; simp
    split at h
    . rename_i c hc2;obtain ⟨h1,h2⟩:=hrr f c hc2;obtain ⟨v,h3,h4,_⟩:=zRq hC h2 hs h;refine ⟨h1,zAc N ha,rfl,?_⟩;have hp2:rf f=true:=by rw [hrf,hc2]; rfl
      show (if pf f=true then _ else if rf f=true then _ else _);rw [if_neg hp,if_pos hp2];exact ⟨_,_,Sub.refl _,by rw [List.append_nil]; exact h3,hK _ _ _ _ _ h4 (.refl _ _) hs (.inr rfl)⟩
    . rename_i hc2;have hp2:¬ rf f=true:=by rw [hrf,hc2]; simp
      split at h
      . rename_i c hc3;obtain ⟨h1,h2⟩:=hpp f c hc3;refine ⟨h1,zAc N ha,rfl,?_⟩;show (if pf f=true then _ else if rf f=true then _ else _);rw [if_neg hp,if_neg hp2];refine ⟨_,Sub.refl _,?_⟩;rw [List.append_nil];refine zG0 (zSf hC h2 hs hb h) ?_;intro oc s' hq;cases oc with
        | pan e=>exact hKP e s' hq
        | ret w=>
         obtain ⟨q1,N',st',v,q2,q3,q4,q5⟩:=hq;refine ⟨fun b hb=>?_,hK _ _ _ _ _ q2 q3 q4 (.inr q5)⟩;obtain ⟨l,hl,rfl⟩:=hkb b hb;exact q1 l hl
      . split at h
        . rename_i fd hfd;obtain ⟨h1,h2⟩:=zJ h;simp only [Bool.and_eq_true,List.isEmpty_iff] at h1;have hok:=hin f fd hfd;obtain ⟨fn,q1,q2,q3,q4⟩:=hok.fn;refine ⟨hok.code,zAc N ha,rfl,?_⟩;show (if pf f=true then _ else if rf f=true then _ else _);rw [if_neg hp,if_neg hp2];refine ⟨_,Sub.refl _,?_⟩;rw [List.append_nil];refine zJo q1 q2 q3 q4 (by simpa [Nat.ble_eq] using h1.1) fun B=>?_;refine qm (X:=⟨B,⟨fd.n,[]⟩,none,[]⟩) (PP:=fun e=>e=syn/\pan=some r) hT hC hm0 (zBK hT hC hm0 hpf hrf hin hor hrr hpp d fd.fi.wr fd.fi.own) fd.body hs (zAm args 0 hb) h2 hok.ok hok.hok (fun e s' hq=>hKP e s' hq) ?_;intro ex N' e' st' E' s' p1 p2 p3 p4 _;have fin:(dres C Tb e' st' fd.rs fun vs=>k (finT vs) st')=some r->xY P fd.rs E' s' fun xs=>∃ s0,s'.sub s0/\((∀ b ∈ kbs,Al.look s0.box b=Al.look s.box b)/\K (finV xs) s0):=fun hh=>
           zEP hT hC p3 p4 fd.rs hh fun vs hv=>⟨s',S.sub_refl _,⟨fun b hb=>absurd (hkb b hb) (by rw [h1.2]; rintro ⟨l,hl,_⟩; cases hl),hK _ _ _ _ _ hv p2 p3 (.inr (zCa N' vs))⟩⟩
          cases ex <;> simp only at p1 <;> first | exact fin p1 | cases p1
        . cases h
def fnP {io oo as rs:List (SK U)} (f:zA io->zA as->Option (Option (zA oo×zA rs))) {R:Type} (x:zA io) (a:zA as) (pan:Option R) (K:zA oo->zA rs->Option R):Option R:=
 Option.bind (f x a) fun o=>zAC o pan fun y=>K y.1 y.2
theorem zAB {f:FuncId} {fn:Func} {c:Code} {args:List V} {st:S} {Q:Outc->S->Prop} {N:Nat} {rs:List ResultVar} (hf:P.funcs[f]? = some fn) (hb:fn.body=some c) (hn:fn.ntmps=N) (hrs:fn.results=rs.toArray) (hN:args.length<=N)
 (h:∀ B,awp P ⟨B,⟨N,[]⟩,none,[]⟩ c (retE P rs Q) (jT 0 args) st):FnC P f args st Q:=by
 intro B g w vs hi hgl hv;refine calls_of_wp hf hb ?_;have hr:=zDL (N:=N) hi hgl hv hN;rw [hn];refine wpIn_wide.1 (wpIn_mono (h B g _ w hr) ?_);rintro ex a' w' ⟨g',e',st',h1,h2,h3⟩;have hrs':fn.results.toList=rs:=by rw [hrs]
 subst hrs';have hret:yb P fn.results.toList e' st' (fun xs=>Q (.ret (finV xs)) st')->a'.defers=[]/\∃ v,(results fn a'.tmps).run P w' = .ok v w' /\
  ∃ g' st',Step B g w g' w'/\Inv B g' st' w'/\∃ r,RV g' w' r v/\Q (.ret r) st':=by
  intro h3;obtain ⟨xs,us,k1,k2,k3⟩:=jt h3 h2;exact ⟨h2.df,_,jK k3,g',st',h1,h2.inv,_,zFc (zJc k2),k1⟩
 cases ex with
 | normal=>exact hret h3
 | ret=>exact hret h3
 | panic c=>exact ⟨h2.df,g',st',h1,h2.inv,h3⟩
 | exit id=>exact h3.elim
 | goto l=>exact h3.elim
 | outgrown=>exact h3.elim
theorem zUZ (hT:TbOk C P Tb) (hC:CodOk C) (hm:P.follows .mixedOrders=true) {syn:List PanicEntry} {pf rf:FuncId->Bool} {fu d:Nat} {inl:Nat->Option (FD U)} {orc:Nat->Option (Con U)} {orr:Nat->Option (CR U)} {orp:Nat->Option (CP U)}
 (hpf:∀ f,pf f=(orc f).isSome) (hrf:∀ f,rf f=(orr f).isSome) (hin:∀ f fd,inl f=some fd->FDOk P pf rf f fd) (hor:∀ f c,orc f=some c->OrcOk C P f c)
 (hrr:∀ f c,orr f=some c->zZ P f=true/\CROk C P f c) (hpp:∀ f c,orp f=some c->zZ P f=true/\CPOk C P syn f c) {f:Nat} {fd:FD U} (hfd:FDOk P pf rf f fd) {io oo as rs:List (SK U)} (hlen:io.length+as.length<=fd.n)
 {fn:zA io->zA as->Option (Option (zA oo×zA rs))} (h:∀ x a,runP C Tb fu d inl orc orr orp fd io oo as rs x a=fn x a):CPOk C P syn f ⟨io,oo,as,rs,fnP fn⟩:=by
 intro x a R pan K r hr;unfold fnP at hr;simp only at hr;cases hx:fn x a with
 | none=>rw [hx] at hr; cases hr
 | some oc=>
  rw [hx] at hr;simp only [Option.bind_some] at hr;refine ⟨oc,by cases oc <;> exact hr,fun s vx va r1 r2 hv1 hv2 hn=>?_⟩;obtain ⟨fn',q1,q2,q3,q4⟩:=hfd.fn;have hrun:=(h x a).trans hx;unfold runP at hrun;have hv1':=xW io x hv1 ((zDF s (r1++r2)).mono fun y hy=>List.mem_append_left _ hy);have hv2':=xW as a hv2 ((zDF s (r1++r2)).mono fun y hy=>List.mem_append_right _ hy);generalize subS s (r1++r2)=s0 at hv1' hv2' ⊢;obtain ⟨hn1,hn2,hn3⟩:=List.nodup_append.1 hn;have hno:∀ y,¬ Has ⟨id,id,id,id⟩ (⟨[],[],0,0,[]⟩:St U) y:=fun y hy=>by
   cases y with
   | inl n=>obtain ⟨t,ht,_⟩:=hy; cases ht
   | inr b=>obtain ⟨l,b,hl,_⟩:=hy; simp [lk] at hl
   | ob b=>obtain ⟨l,b,hl,_⟩:=hy; simp [lko] at hl
  obtain ⟨N1,vs1,st1,k1,k2,k3,k4,k5,k6⟩:=jH hC io x (SSim.empty ⟨id,id,id,id⟩ 0 0 s0) hv1' hn1 (fun y hy hh=>hno y hh) hrun;rw [yy] at k1;obtain ⟨N2,vs2,st2,p1,p2,p3,p4,p5,p6⟩:=jH hC as a k3 hv2' hn2 (fun y hy hh=>by
   rcases k6 y hh with q | q
   . exact hno y q
   . exact hn3 y q y hy rfl) k1
  rw [yy,zBn] at p1;have e1:vs1.map (trT C N2)=vx:=by rw [yn p2.ext k5,k4]
  have hbd:bdds st2.nl st2.nx (vs1++vs2)=true:=zDT (yj p2.nl p2.nx _ k5) p5;have hargs:vx++va=(vs1++vs2).map (trT C N2):=by rw [List.map_append,e1,p4]
  have hl1:vx.length=io.length:=zBG io x hv1;have hl2:va.length=as.length:=zBG as a hv2;rw [hargs];refine zAB q1 q2 q3 q4 (by rw [<- hargs,List.length_append,hl1,hl2]; exact hlen) fun B=>?_;refine qm (X:=⟨B,⟨fd.n,[]⟩,none,[]⟩) (PP:=fun e=>e=syn/\(some none:Option (Option (zA oo×zA rs)))=some oc) hT hC hm (zBK hT hC hm hpf hrf hin hor hrr hpp d fd.fi.wr fd.fi.own) fd.body p3 (zAm (vs1++vs2) 0 hbd) p1 hfd.ok hfd.hok (fun e s' hq=>by
   obtain ⟨h1,h2⟩:=hq;injection h2 with h2
   subst h2;exact h1) ?_
  intro ex N' e' st' E' s' u1 u2 u3 u4 _;have fin:(dres C Tb e' st' fd.rs fun us=>zF3 C rs us fun z=>xA C oo vs1 st' fun y _=>some (some (y,z)))=some oc->yb P fd.rs E' s' fun xs=>qo C syn oo rs vx oc (.ret (finV xs)) s':=fun hh=>
   zDo hT hC u3 u4 fd.rs hh fun us hv=>by
    obtain ⟨z,h1,h2⟩:=zMW hC rs hv;obtain ⟨y,st3,q,h3,_,_,_,h4,h5,_,_⟩:=jL hC oo (vs:=vs1) (vs':=vs1.map (trT C N')) u3 (by simp) (fun j x v a b=>by
     rw [List.getElem?_map,a] at b;injection b with b
     exact .inr b.symm) h1
    injection h3 with h3
    subst h3;have e2:vs1.map (trT C N')=vx:=by rw [yn u2.ext (yj p2.nl p2.nx _ k5),e1]
    rw [e2] at h4;exact ⟨_,q,[],h4,h2 N' s',by simpa using h5,rfl⟩
  cases ex <;> simp only at u1 <;> first | exact fin u1 | cases u1
end
open Go.Al
section
variable {U:TyU} {R:Type} {r:R}
def pInt (k:IntKind) (v:T U) (K:Int->Option R):Option R:=
 match v with
 | .int k' n=>bif decide (k' = k) then K n else none
 | _=>none
def zCD (v:T U) (K:Bool->Option R):Option R:=
 match v with
 | .bool b=>K b
 | _=>none
def pStr (v:T U) (K:List UInt8->Option R):Option R:=
 match v with
 | .str s=>K s
 | _=>none
def pDl (i:U.I) (v:T U) (K:List (U.den i)->Option R):Option R:=
 match v with
 | .nil=>K []
 | .lst m j ys=>jz i j ys fun xs=>(match m with
  | .dl=>K xs
  | .b n=>bif (bif n then xs.isEmpty else !xs.isEmpty) then K xs else none
  | .ow _ nb=>bif nb then K xs else bif !xs.isEmpty then K xs else none)
 | _=>none
def pBl (i:U.I) (v:T U) (K:Bool×List (U.den i)->Option R):Option R:=
 match v with
 | .nil=>K (true,[])
 | .lst m j ys=>jz i j ys fun xs=>(match m with
  | .dl=>K (xs.isEmpty,xs)
  | .b n=>K (n,xs)
  | .ow _ nb=>bif nb then K (xs.isEmpty,xs) else K (false,xs))
 | _=>none
variable {C:Cod U}
theorem yp {k:IntKind} {v:T U} {K:Int->Option R} (h:pInt k v K=some r):∃ x,K x=some r/\(∀ N,trT C N v = .at (.int k x))/\∀ N,zn (trT C N v) = .at (.int k x):=by
 unfold pInt at h;split at h
 . obtain ⟨h1,h2⟩:=zJ h;simp only [decide_eq_true_eq] at h1;subst h1;exact ⟨_,h2,fun _=>rfl,fun _=>rfl⟩
 . cases h
theorem jl {v:T U} {K:Bool->Option R} (h:zCD v K=some r):∃ x,K x=some r/\(∀ N,trT C N v = .at (.bool x))/\∀ N,zn (trT C N v) = .at (.bool x):=by
 unfold zCD at h;split at h
 . exact ⟨_,h,fun _=>rfl,fun _=>rfl⟩
 . cases h
theorem zCS {v:T U} {K:List UInt8->Option R} (h:pStr v K=some r):∃ x,K x=some r/\(∀ N,trT C N v = .at (.string ⟨x.toArray⟩))/\∀ N,zn (trT C N v) = .at (.string ⟨x.toArray⟩):=by
 unfold pStr at h;split at h
 . exact ⟨_,h,fun _=>rfl,fun _=>rfl⟩
 . cases h
theorem zP2 {i:U.I} {v:T U} {K:List (U.den i)->Option R} (h:pDl i v K=some r):∃ x,K x=some r/\∀ N,zn (trT C N v) = .lst (zz (x.map (C.encV i))) (x.map (C.encV i)):=by
 unfold pDl at h;split at h
 . exact ⟨_,h,fun N=>rfl⟩
 . rename_i m j ys;have hq:=xh h; clear h; obtain ⟨rfl,h⟩:=hq;simp only [kH] at h;split at h
   . refine ⟨_,h,fun N=>?_⟩;cases ys <;> rfl
   . rename_i n;obtain ⟨h1,h2⟩:=zJ h;refine ⟨_,h2,fun N=>?_⟩;cases n <;> cases ys <;> simp at h1 <;> rfl
   . rename_i t nb;cases nb with
     | true=>exact ⟨_,h,fun N=>rfl⟩
     | false=>
      simp only [cond_false] at h;obtain ⟨h1,h2⟩:=zJ h;refine ⟨_,h2,fun N=>?_⟩;cases ys <;> simp at h1
      rfl
 . cases h
theorem zLP {i:U.I} {v:T U} {K:Bool×List (U.den i)->Option R} (h:pBl i v K=some r):∃ x,K x=some r/\∀ N,zn (trT C N v) = .lst (if x.1 then .nil else .no) (x.2.map (C.encV i)):=by
 unfold pBl at h;split at h
 . exact ⟨_,h,fun N=>rfl⟩
 . rename_i m j ys;have hq:=xh h; clear h; obtain ⟨rfl,h⟩:=hq;simp only [kH] at h;split at h
   . refine ⟨_,h,fun N=>?_⟩;cases ys <;> rfl
   . rename_i n;refine ⟨_,h,fun N=>?_⟩;cases n <;> rfl
   . rename_i t nb;cases nb with
     | true=>refine ⟨_,h,fun N=>?_⟩; cases ys <;> rfl
     | false=>exact ⟨_,h,fun N=>rfl⟩
 . cases h
theorem zBL (b:Bool) (es:List V):zn (.lst (if b then .nil else .no) es) = .lst (if b then .nil else .no) es:=by cases b <;> rfl
theorem zDO (v:Value):zn (.at v) = .at v:=rfl
theorem zAo {x y:V} (h:zn x=y) (hy:y.isAgg=false:=by rfl):x.untag=y:=by
 cases x <;> first | exact h | (subst h; cases hy)
theorem zEU (es:List V):zn (.lst (zz es) es) = .lst (zz es) es:=zBC es
def zH0:List (Nat×TD U)->Nat->TD U
 | [],_=>{}
 | (k,d)::r,t=>bif Nat.beq k t then d else zH0 r t
theorem zKv {P:Program}:∀ {l:List (Nat×TD U)},(∀ p ∈ l,Facts C P p.1 p.2)->TbOk C P (zH0 l)
 | [],_,t,h=>by simp [zH0] at h
 | (k,d)::r,hl,t,h=>by
  simp only [zH0] at h ⊢;by_cases e:k=t
  . subst e;have:Nat.beq k k=true:=by simp
    simp only [this,cond_true] at h ⊢;exact hl (k,d) (by simp)
  . simp only [ym e,cond_false] at h ⊢;exact zKv (fun p hp=>hl p (by simp [hp])) t h
def zj (fn:Func):Code:=fn.body.getD .skip
def zE {α:Type _}:List (Nat×α)->Nat->Option α
 | [],_=>none
 | (k,d)::r,t=>bif Nat.beq k t then some d else zE r t
theorem qJ {α:Type _}:∀ {l:List (Nat×α)} (f:Nat),(zE l f).isSome=hasN (l.map (·.1)) f
 | [],_=>rfl
 | (k,d)::r,f=>by
  simp only [zE,List.map_cons,hasN];by_cases e:k=f
  . have:Nat.beq k f=true:=by simpa using e
    simp [this]
  . simp only [ym e,cond_false];exact qJ f
def noLs:List (AK U)->Bool
 | []=>true
 | a::r=>(match a with | .ls _=>false | _=>true) && noLs r
theorem qM:∀ {l:List (AK U)},noLs l=true->∀ a ∈ l,∀ i,a≠.ls i
 | [],_,a,ha,_=>by simp at ha
 | b::r,h,a,ha,i=>by
  simp only [noLs,Bool.and_eq_true] at h;rcases List.mem_cons.1 ha with rfl | ha
  . intro e; subst e; simp at h
  . exact qM h.2 a ha i
theorem ConOk.sub {P:Program} {f:Nat} {as rs:List (AK U)} {fn fn':zf as->Option (zf rs)} (h:ConOk C P f ⟨as,rs,fn⟩) (hs:∀ x y,fn' x=some y->fn x=some y):ConOk C P f ⟨as,rs,fn'⟩:=
 fun x y hx=>h x y (hs x y hx)
theorem zI {α:Type _} {p:Nat->α->Prop}:∀ f a,zE ([]:List (Nat×α)) f=some a->p f a:=fun f a h=>by simp [zE] at h
theorem zQ {α:Type _} {p:Nat->α->Prop} {k:Nat} {d:α} {r:List (Nat×α)} (h0:p k d) (hr:∀ f a,zE r f=some a->p f a):∀ f a,zE ((k,d)::r) f=some a->p f a:=fun f a h=>by
 simp only [zE] at h;by_cases e:k=f
 . subst e;have:Nat.beq k k=true:=by simp
   simp only [this,cond_true] at h;injection h with h
   subst h;exact h0
 . simp only [ym e,cond_false] at h;exact hr f a h
theorem zAe {σ R:Type} {F:(σ->Option R)->σ->Option R} {r:R} (I:σ->Prop) (μ:σ->Nat) (step:∀ (rec:σ->Option R) s,I s->(∀ s',I s'->μ s' < μ s->rec s' = some r)->F rec s=some r) :
 ∀ (n:Nat) (s:σ),I s->μ s < n->iter n F s=some r:=by
 intro n
 induction n with
 | zero=>intro s _ h; omega
 | succ n ih=>
  intro s hs hn;simp only [iter];exact step _ s hs fun s' hs' hlt=>ih s' hs' (by omega)
end
end Go.Den
end
namespace Go.Den
section
open Go.Al Go.ChangeShapes Go.WideShapes Go.ChangeAt Go.RowKit
def wmOf (w:World):Nat->Nat:=fun b=>match w.heap[b]? with | some (.cells c _ _)=>c.size | _=>0
theorem zOr (w:World):∀ b,w.heap.size<=b->wmOf w b=0:=fun b hb=>by
 unfold wmOf;rw [Array.getElem?_eq_none hb]
theorem zPg {w:World} {b o:Nat} {v:Value} (h:w.cell? ⟨b,o,none⟩=some v):o < wmOf w b:=by
 unfold World.cell? at h;unfold wmOf;split at h
 . rename_i c _ _ hc;simp only at hc;rw [hc];simp at h;exact (Array.getElem?_eq_some_iff.1 h).1
 . cases h
end
end Go.Den
