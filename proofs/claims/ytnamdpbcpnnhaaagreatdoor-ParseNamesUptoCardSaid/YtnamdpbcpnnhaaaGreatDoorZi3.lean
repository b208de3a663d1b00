/-
  Part 3 of what the last text needs: library, runs, contracts, plain laws. No condition of its own.
-/
import Derived.Test.YtnamdpbcpnnhaaaGreatDoorZi2
set_option linter.unusedVariables false
set_option linter.unusedSimpArgs false
set_option linter.unusedSectionVars false
namespace Go.Den
section
open Go.Al
theorem zNg {P:Program} {X:Cx} {Q Q':Exit->Env->S->Prop} {c:Code} {E:Env} {s:S} (h:awp P X c Q E s) (hq:∀ ex E' s',Q ex E' s'->∃ E2 s2,Gst X E' s' E2 s2/\Q' ex E2 s2):awp P X c Q' E s:=by
 intro g a w hr
 refine wpIn_mono (h g a w hr) ?_
 rintro ex a' w' ⟨g',e',st',k1,k2,k3⟩
 obtain ⟨E2,s2,hg,hq2⟩:=hq ex e' st' k3
 obtain ⟨g2,r1,r2⟩:=hg g' a' w' k2
 exact ⟨g2,E2,s2,k1.trans r1,r2,hq2⟩
theorem zJk {X:Cx} {E:Env} {s:S} (t bb n cap sz:Nat) (es:List V) {css:List V} {kk:Nat} (ht:E.get t = .at (.slice (some ⟨bb,0,none⟩) n cap))
 (hb:Al.look s.box bb=some (css,kk)) (hn:es.length=n) (hcap:n<=cap) (hes:css.take (n * sz)=zb es) (hlen:n * sz<=css.length) (hsz:xE sz es) (h1:∀ x ∈ es,zJ x.flat) (hu:es.map V.untag=es) :
 Gst X E s (E.put t (.lst .no es)) ⟨wipe s.box bb,s.tg,s.nx,s.ob⟩:=by
 intro g a w hr
 have hi:=hr.inv
 obtain ⟨p1,p2,p3,p4,arr,el,us,p5,p6,p7,p8⟩:=hi.box bb css kk hb
 have hlt:bb < w.heap.size:=(Array.getElem?_eq_some_iff.1 p5).1
 have hone:zJ css:=by unfold zJ; rw [List.all_eq_true]; exact p4
 have hul:=yD g w css us p7
 rw [yY hone] at hul
 have hla:Later g w ⟨fun i=>if i=bb then n * sz else g.wm i,g.tb,g.fr⟩ w:=⟨fun i=>by
  show g.wm i<=if i=bb then n * sz else g.wm i
  split
  · rename_i e1; subst e1; rw [p2]; exact Nat.zero_le _
  · exact Nat.le_refl _,fun _ _ e1=>e1,fun _ _ _=>rfl⟩
 have hs:Step X.B g w ⟨fun i=>if i=bb then n * sz else g.wm i,g.tb,g.fr⟩ w:=⟨hla,.refl _ _,fun i hi'=>⟨rfl,if_neg (fun e=>by subst e; rw [(hi.boxFr hb).1] at hi'; cases hi')⟩,fun i hi'=>if_neg (by omega),rfl⟩
 have hi1:Inv X.B ⟨fun i=>if i=bb then n * sz else g.wm i,g.tb,g.fr⟩ ⟨wipe s.box bb,s.tg,s.nx,s.ob⟩ w:=by
  refine ⟨hi.base,?_,hi.tag,?_,hi.dist,hi.nodup,fun i hi'=>?_,hi.names,hi.ex.step hla (Nat.le_refl _) rfl rfl (fun b' o fp hl j hj=>⟨rfl,if_neg (fun e=>by subst e; exact (hi.boxFr hb).2 b' o fp hl hj)⟩) (fun j hj _=>by rw [yh]; split <;> first | rfl | exact hj) (fun j _ h=>h)⟩
  · intro b' cs' k' hl
    simp only [yh] at hl
    split at hl
    · cases hl
    · rename_i e1
      obtain ⟨r1,r2,r3,r4,arr',el',us',r5,r6,r7,r8⟩:=hi.box b' cs' k' hl
      exact ⟨r1,by show (if b' = bb then _ else g.wm b')=0; rw [if_neg (fun e2=>e1 e2.symm)]; exact r2,r3,r4,arr',el',us',r5,r6,zk hla _ _ r7,r8⟩
  · intro t ht b' cap' n' sz' hb'
    obtain ⟨r1,r2,r3,r4,r5,r6⟩:=hi.own t ht b' cap' n' sz' hb'
    have e1:b'≠bb:=fun e1=>by subst e1; rw [hb] at r5; cases r5
    exact ⟨r1,by show (if b' = bb then _ else g.wm b')=_; rw [if_neg e1]; exact r2,r3,r4,by rw [yh]; split <;> first | rfl | exact r5,r6⟩
  · show (if i=bb then _ else g.wm i)=0
    rw [if_neg (by omega)]
    exact hi.fresh i hi'
 have hds:RCs g.bare w es (us.take (n * sz)):=by
  have h2:=(yU hone p7 (n * sz)).1
  rw [hes] at h2
  have h3:=zAm (zEL h1 h2) h1
  rwa [hu] at h3
 have hlst:RC ⟨fun i=>if i=bb then n * sz else g.wm i,g.tb,g.fr⟩ w (.lst .no es) [.slice (some ⟨bb,0,none⟩) n cap]:=by
  simp only [RC]
  refine .inr ⟨bb,0,cap,us.take (n * sz),by rw [hn],by omega,trivial,zk hla.bare _ _ hds,⟨sz,hsz,fun _ _ _ e1=>by cases e1⟩,?_⟩
  intro i u hiu
  rw [List.getElem?_take] at hiu
  split at hiu
  · rename_i hlt2
    refine ⟨?_,?_⟩
    · rw [Nat.zero_add,cell_of_row w bb i arr el (0,0) p5]
      rw [<- p8,List.getElem?_take] at hiu
      split at hiu
      · simpa using hiu
      · cases hiu
    · show 0+i < if bb=bb then n * sz else g.wm bb
      rw [if_pos rfl]; omega
  · cases hiu
 refine ⟨_,hs,hi1,fun j=>?_,hr.size,hr.df,hr.gl.below (.refl _ _) hla.wm⟩
 rw [Env.get_put]
 split
 · rename_i e1
   subst e1
   have h0:=hr.env t
   rw [ht] at h0
   rw [zj h0]
   exact xS hlst
 · exact (hr.env j).later hla
section
variable {U:TyU} (C:Cod U) (Tb:TypeId->TD U) {R:Type}
def frzR {R:Type}:List ResultVar->En U->St U->(En U->St U->Option R)->Option R
 | [],e,st,K=>K e st
 | v::r,e,st,K=>match v with
  | .tmp t=>(match eget e t with
   | .sl l n=>(match lk st.bx l with
    | some (.ar i xs)=>bif Nat.ble n xs.length then frzR r ((t,.lst (.b false) i (qk n xs))::e) ⟨(l,none)::st.bx,st.tg,st.nl,st.nx,st.ob⟩ K else none
    | _=>none)
   | _=>frzR r e st K)
  | .cell _ _=>frzR r e st K
variable {C Tb} {P:Program} {r:R}
theorem zGL (hC:CodOk C) {X:Cx} {N:NM}:∀ (rs:List ResultVar) {e:En U} {E:Env} {st:St U} {s:S} {K:En U->St U->Option R},SSim C N st s->ESim C N st e E->frzR rs e st K=some r ->
 ∃ e' E' st' s',K e' st' = some r/\Gst X E s E' s'/\SSim C N st' s'/\ESim C N st' e' E'
 | [],e,E,st,s,K,hs,he,h=>⟨e,E,st,s,h,.refl _ _ _,hs,he⟩
 | v::rs,e,E,st,s,K,hs,he,h=>by
  have go:frzR rs e st K=some r->∃ e' E' st' s',K e' st' = some r/\Gst X E s E' s'/\SSim C N st' s'/\ESim C N st' e' E':=fun hh=>zGL hC rs hs he hh
  cases v with
  | cell p t=>simp only [frzR] at h; exact go h
  | tmp t=>
   simp only [frzR] at h
   split at h
   · rename_i l n ht
     split at h
     · rename_i i xs hl
       obtain ⟨h1,h2⟩:=zO h
       have h1:n<=xs.length:=by simpa [Nat.ble_eq] using h1
       have hw:=hs.wf l _ hl
       have hE:=((he t).1).get (by rw [ht]; simp)
       rw [ht] at hE
       have hlen:=jD hC i xs
       have htk:(qk n xs).length=n:=by unfold qk; rw [List.length_take]; omega
       have hg:Gst X E s (E.put t (.lst .no ((qk n xs).map (C.encV i)))) ⟨wipe s.box (N.bl l),s.tg,s.nx,s.ob⟩:=by
        refine zJk t (N.bl l) n (N.cp l) (C.cells i) _ hE (hs.box l _ hl) (by rw [List.length_map,htk]) (by have:=hw.2; omega) (zAg hC i xs n) ?_ (zBD hC i _) ?_ ?_
        · rw [hlen]; exact Nat.mul_le_mul_right _ h1
        · intro x hx
          obtain ⟨y,_,rfl⟩:=List.mem_map.1 hx
          exact hC.ones i y
        · rw [List.map_map]
          exact List.map_congr_left fun y _=>hC.untag i y
       have hs2:=hs.drop l hl
       have hb:bdd st.nl st.nx (T.lst (.b false) i (qk n xs):T U)=true:=rfl
       have he2:ESim C N ⟨(l,none)::st.bx,st.tg,st.nl,st.nx,st.ob⟩ ((t,.lst (.b false) i (qk n xs))::e) (E.put t (.lst .no ((qk n xs).map (C.encV i)))):=by
        have:=ESim.put (st:=⟨(l,none)::st.bx,st.tg,st.nl,st.nx,st.ob⟩) (e:=e) (E:=E) (v:=.lst (.b false) i (qk n xs)) (v':=.lst .no ((qk n xs).map (C.encV i))) he (.inr rfl) hb (some t)
        exact this
       obtain ⟨e',E',st',s',q1,q2,q3,q4⟩:=zGL hC rs hs2 he2 h2
       exact ⟨e',E',st',s',q1,hg.trans q2,q3,q4⟩
     · cases h
   · exact go h
def qw (C:Cod U) (Tb:TypeId->TD U) (fu d:Nat) (inl:Nat->Option (FD U)) (orc:Nat->Option (Con U)) (orr:Nat->Option (CR U)) (orp:Nat->Option (CP U)) (fd:FD U) (as rs:List (AK U)) (nf:Nat->Bool) (x:zQ as):Option (zQ rs):=
 drun C Tb fu (zDS C Tb fu inl orc orr orp none d) fd.fi fd.body (zEM 0 (xM C as nf 0 x)) ⟨[],[],0,0,[]⟩ fun ex e' st'=>match ex with
  | .normal=>frzR fd.rs e' st' fun e' st'=>dres C Tb e' st' fd.rs fun vs=>zC2 C rs vs some
  | .ret=>frzR fd.rs e' st' fun e' st'=>dres C Tb e' st' fd.rs fun vs=>zC2 C rs vs some
  | _=>none
theorem xd (hT:TbOk C P Tb) (hC:CodOk C) (hm:P.follows .mixedOrders=true) {syn:List PanicEntry} {pf rf:FuncId->Bool} {fu d:Nat} {inl:Nat->Option (FD U)} {orc:Nat->Option (Con U)} {orr:Nat->Option (CR U)} {orp:Nat->Option (CP U)} (hpf:∀ f,pf f=(orc f).isSome) (hrf:∀ f,rf f=(orr f).isSome)
 (hin:∀ f fd,inl f=some fd->FDOk P pf rf f fd) (hor:∀ f c,orc f=some c->zP P f=true/\ConOk C P f c)
 (hrr:∀ f c,orr f=some c->zP P f=true/\CROk C P f c) (hpp:∀ f c,orp f=some c->zP P f=true/\CPOk C P syn f c) {f:Nat} {fd:FD U} (hfd:FDOk P pf rf f fd) {c:Con U} (hlen:c.as.length<=fd.n)
 (hrs:∀ a ∈ c.rs,∀ i,a≠.ls i) (h:∀ nf x,qw C Tb fu d inl orc orr orp fd c.as c.rs nf x=c.fn x):ConOk C P f c:=by
 intro x y hx vs hvs
 obtain ⟨fn,q1,q2,q3,q4⟩:=hfd.fn
 have hnf:∃ nf,vs=(xM C c.as nf 0 x).map (trT C ⟨id,id,id,id⟩):=by
  have key:∀ (as:List (AK U)) (x:zQ as) (vs:List V) (j:Nat),zBW C as x vs->∃ nf:Nat->Bool,vs=(xM C as nf j x).map (trT C ⟨id,id,id,id⟩):=by
   intro as
   induction as with
   | nil=>intro x vs j h; exact ⟨fun _=>false,h⟩
   | cons a r ih=>
    intro x vs j h
    obtain ⟨v,vs',rfl,h1,h2⟩:=h
    obtain ⟨nf,h3⟩:=ih x.2 vs' (j+1) h2
    have h4:∃ n,v=trT C ⟨id,id,id,id⟩ (argT C a n x.1):=by
     cases a with
     | ls i=>obtain ⟨n,hn⟩:=h1; exact ⟨n,by rw [hn]; cases n <;> rfl⟩
     | _=>exact ⟨false,h1⟩
    obtain ⟨n,h4⟩:=h4
    have hcong:∀ (as:List (AK U)) (x:zQ as) (nf nf':Nat->Bool) (j:Nat),(∀ m,j<=m->nf m=nf' m)->xM C as nf j x=xM C as nf' j x:=by
     intro as
     induction as with
     | nil=>intros; rfl
     | cons a r ih=>
      intro x nf nf' j hh
      simp only [xM,hh j (Nat.le_refl _),ih x.2 nf nf' (j+1) fun m hm=>hh m (by omega)]
    refine ⟨fun m=>if m=j then n else nf m,?_⟩
    simp only [xM,List.map_cons,if_true]
    rw [h3,h4,hcong r x.2 (fun m=>if m=j then n else nf m) nf (j+1) fun m hm=>if_neg (by omega)]
  exact key c.as x vs 0 hvs
 obtain ⟨nf,rfl⟩:=hnf
 have hlenA:∀ (as:List (AK U)) (nf:Nat->Bool) (j:Nat) (x:zQ as),(xM C as nf j x).length=as.length:=by
  intro as
  induction as with
  | nil=>intros; rfl
  | cons a r ih=>intro nf j x; simp [xM,ih]
 have hrun:=(h nf x).trans hx
 unfold qw at hrun
 refine zJx q1 q2 q3 q4 (by rw [List.length_map,hlenA]; exact hlen) fun B=>?_
 have resV:∀ (rs:List (AK U)),(∀ a ∈ rs,∀ i,a≠.ls i)->∀ (y:zQ rs) (us:List V) (j:Nat),zBW C rs y us->us=(xM C rs (fun _=>false) j y).map (trT C ⟨id,id,id,id⟩):=by
  intro rs
  induction rs with
  | nil=>intro _ y us j hu; exact hu
  | cons a r ih=>
   intro hr y us j hu
   obtain ⟨v,vs',rfl,h1,h2⟩:=hu
   simp only [xM,List.map_cons]
   rw [<- ih (fun a ha=>hr a (by simp [ha])) y.2 vs' (j+1) h2]
   congr 1
   cases a with
   | ls i=>exact absurd rfl (hr (.ls i) (by simp) i)
   | _=>exact h1
 refine zNg (Q:=fun ex E' s'=>∃ E2 s2,Gst ⟨B,⟨fd.n,[]⟩,none,[]⟩ E' s' E2 s2/\retE P fd.rs (fun oc _=>oc = .ret (finV ((xM C c.rs (fun _=>false) 0 y).map (trT C ⟨id,id,id,id⟩)))) ex E2 s2) ?_ (fun _ _ _ hq=>hq)
 refine jO (X:=⟨B,⟨fd.n,[]⟩,none,[]⟩) (PP:=fun e=>e=syn/\(none:Option (zQ c.rs))=some y) hT hC hm (zDO hT hC hm hpf hrf hin hor hrr hpp d fd.fi.wr fd.fi.own) fd.body (SSim.empty ⟨id,id,id,id⟩ 0 0 _) (zCM (st:=⟨[],[],0,0,[]⟩) _ 0 (zDo hC c.as nf 0 x)) hrun hfd.ok hfd.hok (fun e s' hq=>by cases hq.2) ?_
 intro ex N' e' st' E' s' p1 p2 p3 p4 _
 have fin:(frzR fd.rs e' st' fun e' st'=>dres C Tb e' st' fd.rs fun vs=>zC2 C c.rs vs some)=some y->∃ E2 s2,Gst ⟨B,⟨fd.n,[]⟩,none,[]⟩ E' s' E2 s2/\yj P fd.rs E2 s2 fun xs=>Outc.ret (finV xs) = .ret (finV ((xM C c.rs (fun _=>false) 0 y).map (trT C ⟨id,id,id,id⟩))):=fun hh=>by
  obtain ⟨e2,E2,st2,s2,u1,u2,u3,u4⟩:=zGL (X:=⟨B,⟨fd.n,[]⟩,none,[]⟩) hC fd.rs p3 p4 hh
  refine ⟨E2,s2,u2,zEN hT hC u3 u4 fd.rs u1 fun vs hv=>?_⟩
  obtain ⟨y',h1,h2⟩:=zE2 hC c.rs hv
  injection h1 with h1
  subst h1
  rw [resV c.rs hrs y' _ 0 (h2 N')]
 cases ex <;> simp only at p1 <;> first | exact fin p1 | cases p1
end
end
end Go.Den
namespace Go.Proofs.YtnamdpbcpnnhaaaGreatDoor
section
open Go.Al
def vi (n:Int):V:=.at (.int .i64 n)
def sl (es:List V):V:=.lst (zh es) es
inductive Nd where
 | mk (kind tok:Int) (kids:List Nd)
mutual
def yA:Nd->V
 | .mk k a l=>.agg [vi k,vi a,sl (qE l)]
def qE:List Nd->List V
 | []=>[]
 | x::r=>yA x::qE r
end
theorem zC6:∀ l:List Nd,qE l=l.map yA
 | []=>rfl
 | x::r=>by simp [qE,zC6 r]
theorem ju (k a:Int) (l:List Nd):yA (.mk k a l) = .agg [vi k,vi a,sl (l.map yA)]:=by rw [yA,zC6]
end
end Go.Proofs.YtnamdpbcpnnhaaaGreatDoor
namespace Go.Al
section
open Go.RowKit
def mps:List Nat->List MC->List (Nat×OV×List Nat)
 | j::bs,c::xs=>(j,.mp c,[j])::mps bs xs
 | _,_=>[]
def Mps (ob:List (Nat×OV×List Nat)):List Nat->List MC->Prop
 | [],xs=>xs=[]
 | j::bs,xs=>∃ c cs,xs=c::cs/\zM ob j=some (.mp c,[j])/\Mps ob bs cs
theorem zCh {g:Gh} {w:World}:∀ {bs:List Nat} {xs:List MC} {j:Nat} {o:OV} {fp:List Nat},MMems g w bs xs->zM (mps bs xs) j=some (o,fp)->∃ c,o = .mp c/\fp=[j]/\j ∈ bs/\MMem g w j c
 | [],_,_,_,_,_,h=>by simp [mps,zM] at h
 | b::bs,_,j,o,fp,⟨c,cs,rfl,h2,h3⟩,h=>by
  simp only [mps,zy] at h
  by_cases e:b=j
  · subst e
    rw [if_pos rfl] at h
    injection h with h
    injection h with h4 h5
    exact ⟨c,h4.symm,h5.symm,by simp,h2⟩
  · rw [if_neg e] at h
    obtain ⟨c',k1,k2,k3,k4⟩:=zCh h3 h
    exact ⟨c',k1,k2,by simp [k3],k4⟩
theorem MMems.length {g:Gh} {w:World}:∀ {bs:List Nat} {xs:List MC},MMems g w bs xs->bs.length=xs.length
 | [],_,h=>by rw [show _=[] from h]; rfl
 | b::bs,_,⟨c,cs,rfl,_,h3⟩=>by simp [h3.length]
theorem zIE {ob ob':List (Nat×OV×List Nat)}:∀ {bs:List Nat} {xs:List MC},Mps ob bs xs->(∀ j ∈ bs,zM ob' j=zM ob j)->Mps ob' bs xs
 | [],_,h,_=>h
 | b::bs,_,⟨c,cs,h1,h2,h3⟩,hh=>⟨c,cs,h1,(hh b (by simp)).trans h2,zIE h3 fun j hj=>hh j (by simp [hj])⟩
theorem zCq:∀ {bs:List Nat} {xs:List MC} (r:List (Nat×OV×List Nat)),bs.Nodup->bs.length=xs.length->Mps (mps bs xs++r) bs xs
 | [],[],_,_,_=>rfl
 | [],_::_,_,_,h=>by simp at h
 | b::bs,[],_,_,h=>by simp at h
 | b::bs,c::cs,r,hn,h=>by
  obtain ⟨h1,h2⟩:=List.nodup_cons.1 hn
  refine ⟨c,cs,rfl,by simp [mps,zy],zIE (zCq r h2 (by simpa using h)) fun j hj=>?_⟩
  have:¬ b=j:=fun e=>h1 (by rw [e]; exact hj)
  simp [mps,zy,this]
theorem Mps.length {ob:List (Nat×OV×List Nat)}:∀ {bs:List Nat} {xs:List MC},Mps ob bs xs->bs.length=xs.length
 | [],_,h=>by rw [show _=[] from h]; rfl
 | b::bs,_,⟨c,cs,rfl,_,h3⟩=>by simp [h3.length]
theorem Mps.mem {ob:List (Nat×OV×List Nat)}:∀ {bs:List Nat} {xs:List MC},Mps ob bs xs->∀ j ∈ bs,∃ c,zM ob j=some (.mp c,[j])
 | [],_,_,j,hj=>by cases hj
 | b::bs,_,⟨c,cs,_,h2,h3⟩,j,hj=>by
  rcases List.mem_cons.1 hj with rfl | hj
  · exact ⟨c,h2⟩
  · exact h3.mem j hj
theorem Mps.mems {B:Nat} {g:Gh} {st:S} {w:World} (hi:Inv B g st w):∀ {bs:List Nat} {xs:List MC},Mps st.ob bs xs->MMems g w bs xs
 | [],_,h=>h
 | b::bs,_,⟨c,cs,h1,h2,h3⟩=>⟨c,cs,h1,by
  have:=(hi.ex.ob b _ _ h2).1
  exact this.2,Mps.mems hi h3⟩
def mcs (bs:List Nat):List V:=bs.map fun j=>.at (.map (some j))
theorem zKk {g:Gh} {w:World}:∀ bs:List Nat,RCs g w (mcs bs) (bs.map fun j=>Value.map (some j))
 | []=>by simp [mcs,RCs]
 | b::bs=>by
  simp only [mcs,List.map_cons,RCs]
  exact ⟨[.map (some b)],_,rfl,by simp [RC,one],zKk bs⟩
theorem zMx {g:Gh} {w:World}:∀ {bs:List Nat} {us:List Value},RCs g w (mcs bs) us->us=bs.map fun j=>Value.map (some j)
 | [],us,h=>by simpa [mcs,RCs] using h
 | b::bs,us,h=>by
  simp only [mcs,List.map_cons,RCs] at h
  obtain ⟨u1,u2,rfl,h1,h2⟩:=h
  simp only [RC] at h1
  rw [h1.1,zMx h2]; rfl
def jM (st:S) (b:Nat) (bs:List Nat) (xs:List MC) (cap:Nat):S:=⟨lay st.box b (mcs bs,cap),st.tg,st.nx,mps bs xs++st.ob.filter fun p=>!(p.1 == b)⟩
theorem zBx (st:S) (b:Nat) (bs:List Nat) (xs:List MC) (cap j:Nat):zM (jM st b bs xs cap).ob j=(zM (mps bs xs) j).or (if j=b then none else zM st.ob j):=by
 show zM (mps bs xs++st.ob.filter fun p=>(fun k=>!(k == b)) p.1) j=_
 rw [zBi,show zM (st.ob.filter fun p=>(fun k=>!(k == b)) p.1) j=_ from kK (fun k=>!(k == b)) st.ob j]
 by_cases e:j=b <;> simp [e]
theorem Inv.unpack {B:Nat} {g:Gh} {st:S} {w:World} (hi:Inv B g st w) {b cap:Nat} {xs:List MC} {fp:List Nat} (hl:zM st.ob b=some (.sc xs cap,fp)) :
 ∃ bs,fp=b::bs/\(b::bs).Nodup/\bs.length=xs.length/\bs.length<=cap/\Inv B g (jM st b bs xs cap) w:=by
 obtain ⟨h1,h2,h3⟩:=hi.ex.ob b _ _ hl
 obtain ⟨bs,arr,el,rfl,k1,k2,k3,k4,k5,k6⟩:=h1
 obtain ⟨q1,q2,q3,q4,q5,q6⟩:=h3 b (by simp)
 have hlook:∀ j,look st.box j=none->j≠b->look (jM st b bs xs cap).box j=none:=fun j hj e=>by
  show look (lay st.box b _) j=none
  rw [zW,if_neg (Ne.symm e)]; exact hj
 have hother:∀ b' o' fp',zM st.ob b' = some (o',fp')->b'≠b->∀ j ∈ fp',j ∉ b::bs:=fun b' o' fp' h4 h5 j hj hm=>h5 (hi.ex.obd b' o' fp' b _ _ j h4 hl hj hm)
 have hcase:∀ {b' o' fp'},zM (jM st b bs xs cap).ob b' = some (o',fp')->(∃ c,o' = .mp c/\fp' = [b']/\b' ∈ bs/\MMem g w b' c)\/(zM st.ob b' = some (o',fp')/\b'≠b):=fun {b' o' fp'} h=>by
  rw [zBx] at h
  cases e:zM (mps bs xs) b' with
  | some p=>
   obtain ⟨o2,fp2⟩:=p
   rw [e] at h
   injection h with h
   obtain ⟨rfl,rfl⟩:=Prod.mk.inj h
   exact .inl (zCh k6 e)
  | none=>
   rw [e] at h
   replace h:(if b' = b then none else zM st.ob b')=some (o',fp'):=h
   by_cases e2:b' = b
   · rw [if_pos e2] at h; cases h
   · rw [if_neg e2] at h; exact .inr ⟨h,e2⟩
 refine ⟨bs,rfl,k1,k6.length,k4,hi.base,?_,hi.tag,?_,hi.dist,hi.nodup,hi.fresh,hi.names,?_,?_,?_,hi.ex.ft⟩
 · intro b' cs' k' h
   replace h:look (lay st.box b (mcs bs,cap)) b' = some (cs',k'):=h
   rw [zW] at h
   by_cases e:b=b'
   · subst e
     rw [if_pos rfl] at h
     injection h with h
     obtain ⟨rfl,rfl⟩:=Prod.mk.inj h
     refine ⟨q1,q3,by simpa [mcs] using k4,fun c hc=>?_,arr,el,_,k2,k3,zKk bs,by simpa [mcs] using k5⟩
     obtain ⟨x,_,rfl⟩:=List.mem_map.1 hc; rfl
   · rw [if_neg e] at h
     exact hi.box b' cs' k' h
 · intro t ht b' cap' n sz hb
   obtain ⟨p1,p2,p3,p4,p5,p6⟩:=hi.own t ht b' cap' n sz hb
   exact ⟨p1,p2,p3,p4,hlook b' p5 (fun e=>by subst e; exact q5 t ht _ hb),p6⟩
 · intro b' hb'
   obtain ⟨p1,p2,p3⟩:=hi.ex.frz b' hb'
   exact ⟨p1,hlook b' p2 (fun e=>by subst e; rw [q6] at hb'; cases hb'),p3⟩
 · intro b' o' fp' h
   rcases hcase h with ⟨c,rfl,rfl,hm,hc⟩ | ⟨h5,h6⟩
   · refine ⟨⟨rfl,hc⟩,by simp,fun j hj=>?_⟩
     simp only [List.mem_singleton] at hj
     subst hj
     obtain ⟨r1,r2,r3,r4,r5,r6⟩:=h3 j (by simp [hm])
     exact ⟨r1,r2,r3,hlook j r4 (fun e=>(List.nodup_cons.1 k1).1 (by rw [<- e]; exact hm)),r5,r6⟩
   · obtain ⟨p1,p2,p3⟩:=hi.ex.ob b' o' fp' h5
     refine ⟨p1,p2,fun j hj=>?_⟩
     obtain ⟨r1,r2,r3,r4,r5,r6⟩:=p3 j hj
     exact ⟨r1,r2,r3,hlook j r4 (fun e=>hother b' o' fp' h5 h6 j hj (by simp [e])),r5,r6⟩
 · intro b1 o1 fp1 b2 o2 fp2 j e1 e2 m1 m2
   rcases hcase e1 with ⟨c1,_,rfl,hm1,_⟩ | ⟨h5,h6⟩ <;> rcases hcase e2 with ⟨c2,_,rfl,hm2,_⟩ | ⟨h7,h8⟩
   · simp only [List.mem_singleton] at m1 m2; exact m1.symm.trans m2
   · simp only [List.mem_singleton] at m1; subst m1
     exact absurd (by simp [hm1]) (hother b2 o2 fp2 h7 h8 j m2)
   · simp only [List.mem_singleton] at m2; subst m2
     exact absurd (by simp [hm2]) (hother b1 o1 fp1 h5 h6 j m1)
   · exact hi.ex.obd b1 o1 fp1 b2 o2 fp2 j h5 h7 m1 m2
def zC4 (st:S) (b:Nat) (bs:List Nat) (xs:List MC) (cap:Nat):S:=⟨wipe st.box b,st.tg,st.nx,(b,.sc xs cap,b::bs)::st.ob.filter fun p=>!(bs.contains p.1)⟩
theorem zAi (st:S) (b:Nat) (bs:List Nat) (xs:List MC) (cap j:Nat):zM (zC4 st b bs xs cap).ob j=if b=j then some (.sc xs cap,b::bs) else if j ∈ bs then none else zM st.ob j:=by
 show zM ((b,.sc xs cap,b::bs)::st.ob.filter fun p=>(fun k=>!(bs.contains k)) p.1) j=_
 rw [zy,show zM (st.ob.filter fun p=>(fun k=>!(bs.contains k)) p.1) j=_ from kK (fun k=>!(bs.contains k)) st.ob j]
 by_cases e:b=j
 · rw [if_pos e,if_pos e]
 · rw [if_neg e,if_neg e]
   by_cases e2:j ∈ bs <;> simp [e2]
theorem Inv.pack {B:Nat} {g:Gh} {st:S} {w:World} (hi:Inv B g st w) {b cap:Nat} {bs:List Nat} {xs:List MC} (hb:look st.box b=some (mcs bs,cap)) (hn:bs.Nodup) (hm:Mps st.ob bs xs):Inv B g (zC4 st b bs xs cap) w:=by
 obtain ⟨p1,p2,p3,p4,arr,el,us,p5,p6,p7,p8⟩:=hi.box b _ _ hb
 have hus:=zMx p7
 have hne:∀ j ∈ bs,j≠b:=fun j hj e=>by
  obtain ⟨c,h⟩:=hm.mem j hj
  have:=((hi.ex.ob j _ _ h).2.2 j (by simp)).2.2.2.1
  rw [e,hb] at this; cases this
 have hlook:∀ j,look st.box j=none->look (zC4 st b bs xs cap).box j=none:=fun j hj=>by
  show look (wipe st.box b) j=none
  rw [yh]; split
  · rfl
  · exact hj
 have hcase:∀ {b' o' fp'},zM (zC4 st b bs xs cap).ob b' = some (o',fp')->(b' = b/\o' = .sc xs cap/\fp' = b::bs)\/(zM st.ob b' = some (o',fp')/\b'≠b/\b' ∉ bs):=fun {b' o' fp'} h=>by
  rw [zAi] at h
  by_cases e:b=b'
  · subst e
    rw [if_pos rfl] at h
    injection h with h
    obtain ⟨h1,h2⟩:=Prod.mk.inj h
    exact .inl ⟨rfl,h1.symm,h2.symm⟩
  · rw [if_neg e] at h
    by_cases e2:b' ∈ bs
    · rw [if_pos e2] at h; cases h
    · rw [if_neg e2] at h; exact .inr ⟨h,Ne.symm e,e2⟩
 have hshare:∀ b' o' fp',zM st.ob b' = some (o',fp')->b' ∉ bs->∀ j ∈ b::bs,j ∉ fp':=fun b' o' fp' h1 h2 j hj hj'=>by
  rcases List.mem_cons.1 hj with rfl | hj
  · exact (hi.boxFr hb).2 b' o' fp' h1 hj'
  · obtain ⟨c,h⟩:=hm.mem j hj
    have:=hi.ex.obd b' o' fp' j _ _ j h1 h hj' (by simp)
    subst this
    exact h2 hj
 refine ⟨hi.base,?_,hi.tag,?_,hi.dist,hi.nodup,hi.fresh,hi.names,?_,?_,?_,hi.ex.ft⟩
 · intro b' cs' k' h
   replace h:look (wipe st.box b) b' = some (cs',k'):=h
   rw [yh] at h
   split at h
   · cases h
   · exact hi.box b' cs' k' h
 · intro t ht b' cap' n sz hb'
   obtain ⟨r1,r2,r3,r4,r5,r6⟩:=hi.own t ht b' cap' n sz hb'
   exact ⟨r1,r2,r3,r4,hlook b' r5,r6⟩
 · intro b' hb'
   obtain ⟨r1,r2,r3⟩:=hi.ex.frz b' hb'
   exact ⟨r1,hlook b' r2,r3⟩
 · intro b' o' fp' h
   rcases hcase h with ⟨rfl,rfl,rfl⟩ | ⟨h1,h2,h3⟩
   · refine ⟨⟨bs,arr,el,rfl,List.nodup_cons.2 ⟨fun h=>hne b' h rfl,hn⟩,p5,p6,by simpa [mcs] using p3,by rw [<- hus,<- p8]; simp [mcs],Mps.mems hi hm⟩,by simp,fun j hj=>?_⟩
     rcases List.mem_cons.1 hj with rfl | hj
     · refine ⟨p1,(Array.getElem?_eq_some_iff.1 p5).1,p2,by show look (wipe st.box j) j=none; rw [yh,if_pos rfl],fun t ht d hd=>?_,(hi.boxFr hb).1⟩
       obtain ⟨d1,d2,d3⟩:=d
       have:=(hi.own t ht j d1 d2 d3 hd).2.2.2.2.1
       rw [hb] at this; cases this
     · obtain ⟨c,h⟩:=hm.mem j hj
       obtain ⟨r1,r2,r3,r4,r5,r6⟩:=(hi.ex.ob j _ _ h).2.2 j (by simp)
       exact ⟨r1,r2,r3,hlook j r4,r5,r6⟩
   · obtain ⟨q1,q2,q3⟩:=hi.ex.ob b' o' fp' h1
     refine ⟨q1,q2,fun j hj=>?_⟩
     obtain ⟨r1,r2,r3,r4,r5,r6⟩:=q3 j hj
     exact ⟨r1,r2,r3,hlook j r4,r5,r6⟩
 · intro b1 o1 fp1 b2 o2 fp2 j e1 e2 m1 m2
   rcases hcase e1 with ⟨rfl,_,rfl⟩ | ⟨h5,h6,h6'⟩ <;> rcases hcase e2 with ⟨rfl,_,rfl⟩ | ⟨h7,h8,h8'⟩
   · rfl
   · exact absurd m2 (hshare b2 o2 fp2 h7 h8' j m1)
   · exact absurd m1 (hshare b1 o1 fp1 h5 h6' j m2)
   · exact hi.ex.obd b1 o1 fp1 b2 o2 fp2 j h5 h7 m1 m2
theorem zKQ {P:Program} {f:FuncId} {as:List V} {Q:Outc->S->Prop} {s:S} {φ:Prop} (h1:∀ B g w,Inv B g s w->φ) (h:φ->FnC P f as s Q):FnC P f as s Q:=
 fun B g w vs hi=>h (h1 B g w hi) B g w vs hi
theorem zFI {P:Program} {f:FuncId} {as:List V} {Q:Outc->S->Prop} {s:S} (h:FnC P f as s fun oc s1=>∃ s2,(∀ B g w,Inv B g s1 w->Inv B g s2 w)/\Q oc s2):FnC P f as s Q:=by
 intro B g w vs hi hgl hv
 refine (h B g w vs hi hgl hv).mono ?_
 rintro e w' ⟨g',s1,h1,h2,h3⟩
 cases e with
 | returned v=>
  obtain ⟨r,h4,s2,h5,h6⟩:=h3
  exact ⟨g',s2,h1,h5 _ _ _ h2,r,h4,h6⟩
 | panicked c=>
  obtain ⟨s2,h5,h6⟩:=h3
  exact ⟨g',s2,h1,h5 _ _ _ h2,h6⟩
 | outgrown=>exact h3.elim
theorem zKX {P:Program} {f:FuncId} {as:List V} {Q:Outc->S->Prop} {s s':S} (hg:∀ B g w,Inv B g s w->Inv B g s' w) (h:FnC P f as s' Q):FnC P f as s Q:=
 fun B g w vs hi hgl hv=>h B g w vs (hg B g w hi) hgl hv
section
variable {P:Program} {L:Pol} {ds:List (Option Nat)} {KP:List PanicEntry->S->Prop} {os:List Oper} {K:Env->S->Prop} {e:Env} {st:S}
variable {d:Option Nat} {ty:TypeId} {pos:String} {af:Array Edge}
theorem zFD (x:Operand):AL P L ds KP (⟨d,.move x,ty,pos,af,none⟩::os) K e st=AL P L ds KP os K (e.putO d (e.ev x)) st:=propext Iff.rfl
theorem zLK (x:Operand):AL P L ds KP (⟨d,.assign x,ty,pos,af,none⟩::os) K e st=AL P L ds KP os K (e.putO d (e.ev x)) st:=propext Iff.rfl
theorem zGR (op:BinOp) (t:TypeId) (x y:Operand) (t2:TypeId):AL P L ds KP (⟨d,.binOp op t x y t2,ty,pos,af,none⟩::os) K e st=zA2 P op t (zEX y) (e.ev x) (e.ev y) fun v=>AL P L ds KP os K (e.putO d v) st:=propext Iff.rfl
theorem zHX (t:TypeId) (x:Operand) (f:Nat):AL P L ds KP (⟨d,.fieldAddr t x f,ty,pos,af,none⟩::os) K e st=yP P t (e.ev x) f fun v=>AL P L ds KP os K (e.putO d v) st:=propext Iff.rfl
theorem zHN (t:TypeId) (x i:Operand):AL P L ds KP (⟨d,.indexAddr t x i,ty,pos,af,none⟩::os) K e st=yi P t (e.ev x) (e.ev i) fun v=>AL P L ds KP os K (e.putO d v) st:=propext Iff.rfl
theorem zIG (x:Operand):AL P L ds KP (⟨d,.nilCheck x,ty,pos,af,none⟩::os) K e st=xW (e.ev x) fun v=>AL P L ds KP os K (e.putO d v) st:=propext Iff.rfl
theorem zLV (t:TypeId) (x i:Operand) (c:Bool):AL P L ds KP (⟨d,.lookup t x i c,ty,pos,af,none⟩::os) K e st=zAw P st t (e.ev x) (e.ev i) c fun v=>AL P L ds KP os K (e.putO d v) st:=propext Iff.rfl
end
end
end Go.Al
namespace Go.Den
section
open Go.Al
theorem wrp64 (n:Int) (h1:-9223372036854775808<=n) (h2:n<=9223372036854775807):IntKind.i64.wrap n=n:=IntWalk.i64_in n (by omega)
theorem xD (a b:Int) (h1:-9223372036854775808<=a+b) (h2:a+b<=9223372036854775807):iadd .i64 a b=a+b:=wrp64 _ h1 h2
theorem zGa (a b:Int) (h1:-9223372036854775808<=a - b) (h2:a - b<=9223372036854775807):isub .i64 a b=a - b:=wrp64 _ h1 h2
theorem zBG {b n:Nat} (h:n * b<=140737488355328) (h2:n<=maxLen):okN b n=true:=by simp [okN,h,h2]
theorem zGX (a b:Int):ieq a b=decide (a=b):=by unfold ieq; by_cases h:a=b <;> simp [h]
theorem zER (a b:Int):ine a b = !decide (a=b):=by unfold ine; by_cases h:a=b <;> simp [h]
theorem zIL {a b:Int} (h:a=b):ieq a b=true:=by simp [ieq,h]
theorem zMC {a b:Int} (h:a≠b):ieq a b=false:=by simp [ieq,h]
theorem zCJ {a b:Int} (h:a=b):ine a b=false:=by simp [ine,h]
theorem zNn {a b:Int} (h:a≠b):ine a b=true:=by simp [ine,h]
theorem yx (a b:List UInt8):seq a b=decide (a=b):=by unfold seq; by_cases h:a=b <;> simp [h]
theorem zOP {α:Type} (l:List α) (n:Nat):cutL l 0 (n:Int)=l.take n:=by unfold cutL; simp
theorem zCU {σ R:Type} {F:(σ->Option R)->σ->Option R} (P:Option R->Prop) (I:σ->Prop) (μ:σ->Nat) (step:∀ (rec:σ->Option R) s,I s->(∀ s',I s'->μ s' < μ s->P (rec s'))->P (F rec s)) :
 ∀ (n:Nat) (s:σ),I s->μ s < n->P (iter n F s):=by
 intro n
 induction n with
 | zero=>intro s _ h; omega
 | succ n ih=>
  intro s hs hn
  simp only [iter]
  exact step _ s hs fun s' hs' hlt=>ih s' hs' (by omega)
end
section
open Go.Al
def zipE:List Nat->List V->Env
 | k::ks,v::vs=>(k,v)::zipE ks vs
 | _,_=>[]
def zipT {U:TyU}:List Nat->List (T U)->En U
 | k::ks,v::vs=>(k,v)::zipT ks vs
 | _,_=>[]
def conE:List (Nat×Value)->Env->Env
 | [],e=>e
 | p::r,e=>(p.1,.at p.2)::conE r e
def conT {U:TyU}:List (Nat×Value)->En U->En U
 | [],e=>e
 | p::r,e=>(p.1,.con p.2)::conT r e
def chkC {U:TyU} {R:Type}:List (Nat×Value)->En U->Option R->Option R
 | [],_,K=>K
 | p::r,e,K=>match eget e p.1 with
  | .con _=>chkC r e K
  | _=>none
section
variable {U:TyU} (C:Cod U) (Tb:TypeId->TD U)
def runQ (fu d:Nat) (inl:Nat->Option (FD U)) (orc:Nat->Option (Con U)) (orr:Nat->Option (CR U)) (orp:Nat->Option (CP U)) (fi:FI U) (c:Code) (cs:List (Nat×Value)) (rt:Bool) (slots oslots:List Nat) (ks ko:List (SK U)) (x:zA ks):Option (Option (zA ko)):=
 kT C ks x ⟨[],[],0,0,[]⟩ fun vs st=>feS st fun st=>feA vs fun ts=>
 drun C Tb fu (zDS C Tb fu inl orc orr orp (some none) d) fi c (conT cs (zipT slots ts)) st fun ex e' st'=>match ex with
  | .normal=>chkC cs e' (xy C ko (oslots.map fun k=>eget e' k) st' fun y _=>some (some y))
  | .ret=>bif rt then chkC cs e' (xy C ko (oslots.map fun k=>eget e' k) st' fun y _=>some (some y)) else none
  | .exit id=>bif Nat.beq id 0 && !rt then chkC cs e' (xy C ko (oslots.map fun k=>eget e' k) st' fun y _=>some (some y)) else none
  | _=>none
variable {C Tb} {P:Program}
theorem zKK {st:St U} {N:NM}:∀ (slots:List Nat) (args:List (T U)),bdds st.nl st.nx args=true->ESim C N st (zipT slots args) (zipE slots (args.map (trT C N)))
 | [],_,_,k=>⟨.inl rfl,rfl⟩
 | _::_,[],_,k=>⟨.inl rfl,rfl⟩
 | n::slots,x::xs,h,k=>by
  simp only [bdds,Bool.and_eq_true] at h
  simp only [zipT,eget,List.map_cons,zipE,Env.get]
  by_cases e:n=k
  · subst e
    have:Nat.beq n n=true:=by simp
    simp only [this,cond_true,if_true]
    exact ⟨.inr rfl,h.1⟩
  · simp only [xF e,cond_false,if_neg e]
    exact zKK slots xs h.2 k
theorem zKA {st:St U} {N:NM} {e:En U} {E:Env} (h:ESim C N st e E):∀ cs:List (Nat×Value),ESim C N st (conT cs e) (conE cs E)
 | [],k=>h k
 | p::r,k=>by
  simp only [conT,eget,conE,Env.get]
  by_cases e1:p.1=k
  · have:Nat.beq p.1 k=true:=by simpa using e1
    simp only [this,cond_true,if_pos e1]
    exact ⟨.inr rfl,rfl⟩
  · simp only [xF e1,cond_false,if_neg e1]
    exact zKA h r k
theorem zJ5 {R:Type} {e:En U} {K:Option R} {r:R}:∀ {cs:List (Nat×Value)},chkC cs e K=some r->K=some r/\∀ p ∈ cs,∃ v,eget e p.1 = .con v
 | [],h=>⟨h,fun p hp=>(by cases hp)⟩
 | p::cs,h=>by
  simp only [chkC] at h
  split at h
  · rename_i v hv
    obtain ⟨h1,h2⟩:=zJ5 h
    refine ⟨h1,fun q hq=>?_⟩
    rcases List.mem_cons.1 hq with rfl | hq
    · exact ⟨v,hv⟩
    · exact h2 q hq
  · cases h
def QEnd (C:Cod U) (ko:List (SK U)) (cs:List (Nat×Value)) (oslots:List Nat) (oc:Option (zA ko)) (e':Env) (s':S):Prop:=(∀ p ∈ cs,e'.get p.1=(conE cs []).get p.1)/\∃ y,oc=some y/\∃ q,VKs C s' ko y (oslots.map e'.get) q/\q.Nodup
def zLE (C:Cod U) (syn:List PanicEntry) (ko:List (SK U)) (rt:Bool) (cs:List (Nat×Value)) (oslots:List Nat) (oc:Option (zA ko)):Exit->Env->S->Prop
 | .normal,e',s'=>QEnd C ko cs oslots oc e' s'
 | .ret,e',s'=>rt=true/\QEnd C ko cs oslots oc e' s'
 | .exit id,e',s'=>(id=0/\rt=false)/\QEnd C ko cs oslots oc e' s'
 | .panic e,_,_=>e=syn/\oc=none
 | _,_,_=>False
theorem zKW (hT:TbOk C P Tb) (hC:CodOk C) (hm:P.follows .mixedOrders=true) {syn:List PanicEntry} {pf rf:FuncId->Bool} {fu d:Nat} {inl:Nat->Option (FD U)} {orc:Nat->Option (Con U)} {orr:Nat->Option (CR U)} {orp:Nat->Option (CP U)}
 (hpf:∀ f,pf f=(orc f).isSome) (hrf:∀ f,rf f=(orr f).isSome) (hin:∀ f fd,inl f=some fd->FDOk P pf rf f fd) (hor:∀ f c,orc f=some c->zP P f=true/\ConOk C P f c)
 (hrr:∀ f c,orr f=some c->zP P f=true/\CROk C P f c) (hpp:∀ f c,orp f=some c->zP P f=true/\CPOk C P syn f c) {fi:FI U} {c:Code} {cs:List (Nat×Value)} {rt:Bool} {slots oslots:List Nat} {ks ko:List (SK U)} {X:Cx} (hok:qG pf rf fi X.N c=true) (hhd:qQ fi c=true)
 {x:zA ks} {oc:Option (zA ko)} (h:runQ C Tb fu d inl orc orr orp fi c cs rt slots oslots ks ko x=some oc) (hcs:∀ p ∈ cs,p.1 ∉ dsts fi c) {s0:S} {vx:List V} {rs:List Res} (hv:VKs C s0 ks x vx rs) (hn:rs.Nodup):awp P X c (zLE C syn ko rt cs oslots oc) (conE cs (zipE slots vx)) s0:=by
 unfold runQ at h
 have hno:∀ y,¬ Has ⟨id,id,id,id⟩ (⟨[],[],0,0,[]⟩:St U) y:=fun y hy=>by
  cases y with
  | inl n=>obtain ⟨t,ht,_⟩:=hy; cases ht
  | inr b=>obtain ⟨l,b,hl,_⟩:=hy; simp [lk] at hl
  | ob b=>obtain ⟨l,b,hl,_⟩:=hy; simp [lko] at hl
 obtain ⟨N1,vs1,st1,k1,k2,k3,k4,k5,k6⟩:=jb hC ks x (SSim.empty ⟨id,id,id,id⟩ 0 0 s0) hv hn (fun y hy hh=>hno y hh) h
 rw [qV,zB7] at k1
 subst k4
 refine jO (PP:=fun e=>e=syn/\(some none:Option (Option (zA ko)))=some oc) hT hC hm (zDO hT hC hm hpf hrf hin hor hrr hpp d fi.wr fi.own) c k3 (zKA (zKK slots vs1 k5) cs) k1 hok hhd (fun e s' hq=>?_) ?_
 · obtain ⟨h1,h2⟩:=hq
   injection h2 with h2
   exact ⟨h1,h2.symm⟩
 · intro ex N' e' st' E' s' u1 u2 u3 u4 u5
   have fin:(xy C ko (oslots.map fun k=>eget e' k) st' fun y _=>some (some y))=some oc->∃ y,oc=some y/\∃ q,VKs C s' ko y (oslots.map E'.get) q/\q.Nodup:=fun hh=>by
    obtain ⟨y,st3,q,h3,_,_,_,h4,h5,_,_⟩:=qu hC ko (vs:=oslots.map fun k=>eget e' k) (vs':=oslots.map E'.get) u3 (by simp) (fun j x v a b=>by
     rw [List.getElem?_map] at a b
     cases hk:oslots[j]? with
     | none=>rw [hk] at a; cases a
     | some k=>
      rw [hk] at a b
      injection a with a
      injection b with b
      subst a; subst b
      exact (u4 k).1) hh
    injection h3 with h3
    exact ⟨y,h3.symm,q,h4,h5⟩
   have all:chkC cs e' (xy C ko (oslots.map fun k=>eget e' k) st' fun y _=>some (some y))=some oc->QEnd C ko cs oslots oc E' s':=fun u1=>by
    obtain ⟨v1,v2⟩:=zJ5 u1
    refine ⟨fun p hp=>?_,fin v1⟩
    obtain ⟨v,hv⟩:=v2 p hp
    have h1:eget e' p.1=eget (conT cs (zipT slots vs1)) p.1:=by
     rcases u5 p.1 (hcs p hp) with q | q
     · exact q
     · rw [hv] at q; cases q
    have h2:=(u4 p.1).1
    have key:∀ (cs:List (Nat×Value)) (e:En U) (E:Env),p ∈ cs->eget (conT cs e) p.1 = .con ((cs.find? fun q=>Nat.beq q.1 p.1).getD p).2/\(conE cs E).get p.1 = .at ((cs.find? fun q=>Nat.beq q.1 p.1).getD p).2:=by
     intro cs
     induction cs with
     | nil=>intro _ _ h; cases h
     | cons a cs ih=>
      intro e E h
      by_cases e1:a.1=p.1
      · have e2:Nat.beq a.1 p.1=true:=by simpa using e1
        simp only [conT,eget,conE,Env.get,e2,cond_true,if_pos e1,List.find?_cons_of_pos,Option.getD_some]
        exact ⟨trivial,trivial⟩
      · have e2:¬ (Nat.beq a.1 p.1=true):=by simpa using e1
        have hp':p ∈ cs:=by
         rcases List.mem_cons.1 h with rfl | h
         · exact absurd rfl e1
         · exact h
        simp only [conT,eget,conE,Env.get,xF e1,cond_false,if_neg e1]
        have:=ih e E hp'
        rw [List.find?_cons_of_neg (by simpa using e2)]
        exact this
    rcases h2 with h2 | h2
    · rw [hv] at h2; cases h2
    · rw [h2,h1,(key cs _ [] hp).1,(key cs (zipT slots vs1) [] hp).2]; rfl
   cases ex with
   | normal=>exact all u1
   | ret=>
    obtain ⟨w1,w2⟩:=zO u1
    exact ⟨w1,all w2⟩
   | exit id=>
    obtain ⟨w1,w2⟩:=zO u1
    exact ⟨by simpa using w1,all w2⟩
   | goto l=>cases u1
   | panic c=>cases u1
   | outgrown=>cases u1
end
end
end Go.Den
