/-
  Parts 3 and 4 of what the last text needs: library, runs, contracts, plain laws. No condition of its own.
-/
import Derived.Test.YtnamdpbcpnnhaaaGreatDoorZj2
import Derived.Test.YtnamdpbcpnnhaaaGreatDoorRows
import Derived.WalkKit
import Derived.Defers
import Derived.Recover
import Derived.TacticsInMore
set_option linter.unusedVariables false
set_option linter.unusedSimpArgs false
set_option linter.unusedSectionVars false
namespace Go.Den
section
open Go.Al
theorem zPI {P:Program} {X:Cx} {Q Q':Exit->Env->S->Prop} {c:Code} {E:Env} {s:S} (h:awp P X c Q E s) (hq:∀ ex E' s',Q ex E' s'->∃ E2 s2,Gst X E' s' E2 s2/\Q' ex E2 s2):awp P X c Q' E s:=by
 intro g a w hr
 refine wpIn_mono (h g a w hr) ?_
 rintro ex a' w' ⟨g',e',st',k1,k2,k3⟩
 obtain ⟨E2,s2,hg,hq2⟩:=hq ex e' st' k3
 obtain ⟨g2,r1,r2⟩:=hg g' a' w' k2
 exact ⟨g2,E2,s2,k1.trans r1,r2,hq2⟩
theorem zKS {X:Cx} {E:Env} {s:S} (t bb n cap sz:Nat) (es:List V) {css:List V} {kk:Nat} (ht:E.get t = .at (.slice (some ⟨bb,0,none⟩) n cap))
 (hb:Al.look s.box bb=some (css,kk)) (hn:es.length=n) (hcap:n<=cap) (hes:css.take (n * sz)=zb es) (hlen:n * sz<=css.length) (hsz:xJ sz es) (h1:∀ x ∈ es,zK x.flat) (hu:es.map V.untag=es) :
 Gst X E s (E.put t (.lst .no es)) ⟨wipe s.box bb,s.tg,s.nx,s.ob⟩:=by
 intro g a w hr
 have hi:=hr.inv
 obtain ⟨p1,p2,p3,p4,arr,el,us,p5,p6,p7,p8⟩:=hi.box bb css kk hb
 have hlt:bb < w.heap.size:=(Array.getElem?_eq_some_iff.1 p5).1
 have hone:zK css:=by unfold zK; rw [List.all_eq_true]; exact p4
 have hul:=yH g w css us p7
 rw [yb hone] at hul
 have hla:Later g w ⟨fun i=>if i=bb then n * sz else g.wm i,g.tb,g.fr⟩ w:=⟨fun i=>by
  show g.wm i<=if i=bb then n * sz else g.wm i
  split
  · rename_i e1; subst e1; rw [p2]; exact Nat.zero_le _
  · exact Nat.le_refl _,fun _ _ e1=>e1,fun _ _ _=>rfl⟩
 have hs:Step X.B g w ⟨fun i=>if i=bb then n * sz else g.wm i,g.tb,g.fr⟩ w:=⟨hla,.refl _ _,fun i hi'=>⟨rfl,if_neg (fun e=>by subst e; rw [(hi.boxFr hb).1] at hi'; cases hi')⟩,fun i hi'=>if_neg (by omega),rfl⟩
 have hi1:Inv X.B ⟨fun i=>if i=bb then n * sz else g.wm i,g.tb,g.fr⟩ ⟨wipe s.box bb,s.tg,s.nx,s.ob⟩ w:=by
  refine ⟨hi.base,?_,hi.tag,?_,hi.dist,hi.nodup,fun i hi'=>?_,hi.names,hi.ex.step hla (Nat.le_refl _) rfl rfl (fun b' o fp hl j hj=>⟨rfl,if_neg (fun e=>by subst e; exact (hi.boxFr hb).2 b' o fp hl hj)⟩) (fun j hj _=>by rw [yj]; split <;> first | rfl | exact hj) (fun j _ h=>h)⟩
  · intro b' cs' k' hl
    simp only [yj] at hl
    split at hl
    · cases hl
    · rename_i e1
      obtain ⟨r1,r2,r3,r4,arr',el',us',r5,r6,r7,r8⟩:=hi.box b' cs' k' hl
      exact ⟨r1,by show (if b' = bb then _ else g.wm b')=0; rw [if_neg (fun e2=>e1 e2.symm)]; exact r2,r3,r4,arr',el',us',r5,r6,zp hla _ _ r7,r8⟩
  · intro t ht b' cap' n' sz' hb'
    obtain ⟨r1,r2,r3,r4,r5,r6⟩:=hi.own t ht b' cap' n' sz' hb'
    have e1:b'≠bb:=fun e1=>by subst e1; rw [hb] at r5; cases r5
    exact ⟨r1,by show (if b' = bb then _ else g.wm b')=_; rw [if_neg e1]; exact r2,r3,r4,by rw [yj]; split <;> first | rfl | exact r5,r6⟩
  · show (if i=bb then _ else g.wm i)=0
    rw [if_neg (by omega)]
    exact hi.fresh i hi'
 have hds:RCs g.bare w es (us.take (n * sz)):=by
  have h2:=(yW hone p7 (n * sz)).1
  rw [hes] at h2
  have h3:=zA6 (zEC h1 h2) h1
  rwa [hu] at h3
 have hlst:RC ⟨fun i=>if i=bb then n * sz else g.wm i,g.tb,g.fr⟩ w (.lst .no es) [.slice (some ⟨bb,0,none⟩) n cap]:=by
  simp only [RC]
  refine .inr ⟨bb,0,cap,us.take (n * sz),by rw [hn],by omega,trivial,zp hla.bare _ _ hds,⟨sz,hsz,fun _ _ _ e1=>by cases e1⟩,?_⟩
  intro i u hiu
  rw [List.getElem?_take] at hiu
  split at hiu
  · rename_i hlt2
    refine ⟨?_,?_⟩
    · rw [Nat.zero_add,cell_of_row w bb i arr el (0,0) p5]
      rw [<- p8,List.getElem?_take] at hiu
      split at hiu
      · simpa using hiu
      · cases hiu
    · show 0+i < if bb=bb then n * sz else g.wm bb
      rw [if_pos rfl]; omega
  · cases hiu
 refine ⟨_,hs,hi1,fun j=>?_,hr.size,hr.df,hr.gl.below (.refl _ _) hla.wm⟩
 rw [Env.get_put]
 split
 · rename_i e1
   subst e1
   have h0:=hr.env t
   rw [ht] at h0
   rw [zm h0]
   exact xe hlst
 · exact (hr.env j).later hla
section
variable {U:TyU} (C:Cod U) (Tb:TypeId->TD U) {R:Type}
def frzR {R:Type}:List ResultVar->En U->St U->(En U->St U->Option R)->Option R
 | [],e,st,K=>K e st
 | v::r,e,st,K=>match v with
  | .tmp t=>(match eget e t with
   | .sl l n=>(match lk st.bx l with
    | some (.ar i xs)=>bif Nat.ble n xs.length then frzR r ((t,.lst (.b false) i (jJ n xs))::e) ⟨(l,none)::st.bx,st.tg,st.nl,st.nx,st.ob⟩ K else none
    | _=>none)
   | _=>frzR r e st K)
  | .cell _ _=>frzR r e st K
variable {C Tb} {P:Program} {r:R}
theorem zG3 (hC:CodOk C) {X:Cx} {N:NM}:∀ (rs:List ResultVar) {e:En U} {E:Env} {st:St U} {s:S} {K:En U->St U->Option R},SSim C N st s->ESim C N st e E->frzR rs e st K=some r ->
 ∃ e' E' st' s',K e' st' = some r/\Gst X E s E' s'/\SSim C N st' s'/\ESim C N st' e' E'
 | [],e,E,st,s,K,hs,he,h=>⟨e,E,st,s,h,.refl _ _ _,hs,he⟩
 | v::rs,e,E,st,s,K,hs,he,h=>by
  have go:frzR rs e st K=some r->∃ e' E' st' s',K e' st' = some r/\Gst X E s E' s'/\SSim C N st' s'/\ESim C N st' e' E':=fun hh=>zG3 hC rs hs he hh
  cases v with
  | cell p t=>simp only [frzR] at h; exact go h
  | tmp t=>
   simp only [frzR] at h
   split at h
   · rename_i l n ht
     split at h
     · rename_i i xs hl
       obtain ⟨h1,h2⟩:=zO h
       have h1:n<=xs.length:=by simpa [Nat.ble_eq] using h1
       have hw:=hs.wf l _ hl
       have hE:=((he t).1).get (by rw [ht]; simp)
       rw [ht] at hE
       have hlen:=jb hC i xs
       have htk:(jJ n xs).length=n:=by unfold jJ; rw [List.length_take]; omega
       have hg:Gst X E s (E.put t (.lst .no ((jJ n xs).map (C.encV i)))) ⟨wipe s.box (N.bl l),s.tg,s.nx,s.ob⟩:=by
        refine zKS t (N.bl l) n (N.cp l) (C.cells i) _ hE (hs.box l _ hl) (by rw [List.length_map,htk]) (by have:=hw.2; omega) (zAi hC i xs n) ?_ (zBY hC i _) ?_ ?_
        · rw [hlen]; exact Nat.mul_le_mul_right _ h1
        · intro x hx
          obtain ⟨y,_,rfl⟩:=List.mem_map.1 hx
          exact hC.ones i y
        · rw [List.map_map]
          exact List.map_congr_left fun y _=>hC.untag i y
       have hs2:=hs.drop l hl
       have hb:bdd st.nl st.nx (T.lst (.b false) i (jJ n xs):T U)=true:=rfl
       have he2:ESim C N ⟨(l,none)::st.bx,st.tg,st.nl,st.nx,st.ob⟩ ((t,.lst (.b false) i (jJ n xs))::e) (E.put t (.lst .no ((jJ n xs).map (C.encV i)))):=by
        have:=ESim.put (st:=⟨(l,none)::st.bx,st.tg,st.nl,st.nx,st.ob⟩) (e:=e) (E:=E) (v:=.lst (.b false) i (jJ n xs)) (v':=.lst .no ((jJ n xs).map (C.encV i))) he (.inr rfl) hb (some t)
        exact this
       obtain ⟨e',E',st',s',q1,q2,q3,q4⟩:=zG3 hC rs hs2 he2 h2
       exact ⟨e',E',st',s',q1,hg.trans q2,q3,q4⟩
     · cases h
   · exact go h
def jv (C:Cod U) (Tb:TypeId->TD U) (fu d:Nat) (inl:Nat->Option (FD U)) (orc:Nat->Option (Con U)) (orr:Nat->Option (CR U)) (orp:Nat->Option (CP U)) (fd:FD U) (aq rs:List (AK U)) (nf:Nat->Bool) (x:zR aq):Option (zR rs):=
 drun C Tb fu (zDf C Tb fu inl orc orr orp none d) fd.fi fd.body (zEt 0 (xI C aq nf 0 x)) ⟨[],[],0,0,[]⟩ fun ex e' st'=>match ex with
  | .normal=>frzR fd.rs e' st' fun e' st'=>dres C Tb e' st' fd.rs fun vs=>zDq C rs vs some
  | .ret=>frzR fd.rs e' st' fun e' st'=>dres C Tb e' st' fd.rs fun vs=>zDq C rs vs some
  | _=>none
theorem x6 (hT:TbOk C P Tb) (hC:CodOk C) (hm:P.follows .mixedOrders=true) {syn:List PanicEntry} {pf rf:FuncId->Bool} {fu d:Nat} {inl:Nat->Option (FD U)} {orc:Nat->Option (Con U)} {orr:Nat->Option (CR U)} {orp:Nat->Option (CP U)} (hpf:∀ f,pf f=(orc f).isSome) (hrf:∀ f,rf f=(orr f).isSome)
 (hin:∀ f fd,inl f=some fd->FDOk P pf rf f fd) (hor:∀ f c,orc f=some c->zP P f=true/\ConOk C P f c)
 (hrr:∀ f c,orr f=some c->zP P f=true/\CROk C P f c) (hpp:∀ f c,orp f=some c->zP P f=true/\CPOk C P syn f c) {f:Nat} {fd:FD U} (hfd:FDOk P pf rf f fd) {c:Con U} (hlen:c.as.length<=fd.n)
 (hrs:∀ a ∈ c.rs,∀ i,a≠.ls i) (h:∀ nf x,jv C Tb fu d inl orc orr orp fd c.as c.rs nf x=c.fn x):ConOk C P f c:=by
 intro x y hx vs hvs
 obtain ⟨fn,q1,q2,q3,q4⟩:=hfd.fn
 have hnf:∃ nf,vs=(xI C c.as nf 0 x).map (trT C ⟨id,id,id,id⟩):=by
  have key:∀ (aq:List (AK U)) (x:zR aq) (vs:List V) (j:Nat),zBg C aq x vs->∃ nf:Nat->Bool,vs=(xI C aq nf j x).map (trT C ⟨id,id,id,id⟩):=by
   intro aq
   induction aq with
   | nil=>intro x vs j h; exact ⟨fun _=>false,h⟩
   | cons a r ih=>
    intro x vs j h
    obtain ⟨v,vs',rfl,h1,h2⟩:=h
    obtain ⟨nf,h3⟩:=ih x.2 vs' (j+1) h2
    have h4:∃ n,v=trT C ⟨id,id,id,id⟩ (argT C a n x.1):=by
     cases a with
     | ls i=>obtain ⟨n,hn⟩:=h1; exact ⟨n,by rw [hn]; cases n <;> rfl⟩
     | _=>exact ⟨false,h1⟩
    obtain ⟨n,h4⟩:=h4
    have hcong:∀ (aq:List (AK U)) (x:zR aq) (nf nf':Nat->Bool) (j:Nat),(∀ m,j<=m->nf m=nf' m)->xI C aq nf j x=xI C aq nf' j x:=by
     intro aq
     induction aq with
     | nil=>intros; rfl
     | cons a r ih=>
      intro x nf nf' j hh
      simp only [xI,hh j (Nat.le_refl _),ih x.2 nf nf' (j+1) fun m hm=>hh m (by omega)]
    refine ⟨fun m=>if m=j then n else nf m,?_⟩
    simp only [xI,List.map_cons,if_true]
    rw [h3,h4,hcong r x.2 (fun m=>if m=j then n else nf m) nf (j+1) fun m hm=>if_neg (by omega)]
  exact key c.as x vs 0 hvs
 obtain ⟨nf,rfl⟩:=hnf
 have hlenA:∀ (aq:List (AK U)) (nf:Nat->Bool) (j:Nat) (x:zR aq),(xI C aq nf j x).length=aq.length:=by
  intro aq
  induction aq with
  | nil=>intros; rfl
  | cons a r ih=>intro nf j x; simp [xI,ih]
 have hrun:=(h nf x).trans hx
 unfold jv at hrun
 refine zKO q1 q2 q3 q4 (by rw [List.length_map,hlenA]; exact hlen) fun B=>?_
 have resV:∀ (rs:List (AK U)),(∀ a ∈ rs,∀ i,a≠.ls i)->∀ (y:zR rs) (us:List V) (j:Nat),zBg C rs y us->us=(xI C rs (fun _=>false) j y).map (trT C ⟨id,id,id,id⟩):=by
  intro rs
  induction rs with
  | nil=>intro _ y us j hu; exact hu
  | cons a r ih=>
   intro hr y us j hu
   obtain ⟨v,vs',rfl,h1,h2⟩:=hu
   simp only [xI,List.map_cons]
   rw [<- ih (fun a ha=>hr a (by simp [ha])) y.2 vs' (j+1) h2]
   congr 1
   cases a with
   | ls i=>exact absurd rfl (hr (.ls i) (by simp) i)
   | _=>exact h1
 refine zPI (Q:=fun ex E' s'=>∃ E2 s2,Gst ⟨B,⟨fd.n,[]⟩,none,[]⟩ E' s' E2 s2/\retE P fd.rs (fun oc _=>oc = .ret (finV ((xI C c.rs (fun _=>false) 0 y).map (trT C ⟨id,id,id,id⟩)))) ex E2 s2) ?_ (fun _ _ _ hq=>hq)
 refine jf (X:=⟨B,⟨fd.n,[]⟩,none,[]⟩) (PP:=fun e=>e=syn/\(none:Option (zR c.rs))=some y) hT hC hm (zDX hT hC hm hpf hrf hin hor hrr hpp d fd.fi.wr fd.fi.own) fd.body (SSim.empty ⟨id,id,id,id⟩ 0 0 _) (zCV (st:=⟨[],[],0,0,[]⟩) _ 0 (zEW hC c.as nf 0 x)) hrun hfd.ok hfd.hok (fun e s' hq=>by cases hq.2) ?_
 intro ex N' e' st' E' s' p1 p2 p3 p4 _
 have fin:(frzR fd.rs e' st' fun e' st'=>dres C Tb e' st' fd.rs fun vs=>zDq C c.rs vs some)=some y->∃ E2 s2,Gst ⟨B,⟨fd.n,[]⟩,none,[]⟩ E' s' E2 s2/\yl P fd.rs E2 s2 fun xs=>Outc.ret (finV xs) = .ret (finV ((xI C c.rs (fun _=>false) 0 y).map (trT C ⟨id,id,id,id⟩))):=fun hh=>by
  obtain ⟨e2,E2,st2,s2,u1,u2,u3,u4⟩:=zG3 (X:=⟨B,⟨fd.n,[]⟩,none,[]⟩) hC fd.rs p3 p4 hh
  refine ⟨E2,s2,u2,zEp hT hC u3 u4 fd.rs u1 fun vs hv=>?_⟩
  obtain ⟨y',h1,h2⟩:=zFm hC c.rs hv
  injection h1 with h1
  subst h1
  rw [resV c.rs hrs y' _ 0 (h2 N')]
 cases ex <;> simp only at p1 <;> first | exact fin p1 | cases p1
end
end
end Go.Den
namespace Go.Proofs.YtnamdpbcpnnhaaaGreatDoor
section
open Go.Al
def vi (n:Int):V:=.at (.int .i64 n)
def sl (es:List V):V:=.lst (zk es) es
inductive Nd where
 | mk (kind tok:Int) (kids:List Nd)
mutual
def z6:Nd->V
 | .mk k a l=>.agg [vi k,vi a,sl (qV l)]
def qV:List Nd->List V
 | []=>[]
 | x::r=>z6 x::qV r
end
theorem zDm:∀ l:List Nd,qV l=l.map z6
 | []=>rfl
 | x::r=>by simp [qV,zDm r]
theorem kT (k a:Int) (l:List Nd):z6 (.mk k a l) = .agg [vi k,vi a,sl (l.map z6)]:=by rw [z6,zDm]
end
end Go.Proofs.YtnamdpbcpnnhaaaGreatDoor
namespace Go.Al
section
open Go.RowKit
def mps:List Nat->List MC->List (Nat×OV×List Nat)
 | j::bs,c::xs=>(j,.mp c,[j])::mps bs xs
 | _,_=>[]
def Mps (ob:List (Nat×OV×List Nat)):List Nat->List MC->Prop
 | [],xs=>xs=[]
 | j::bs,xs=>∃ c cs,xs=c::cs/\zM ob j=some (.mp c,[j])/\Mps ob bs cs
theorem zCx {g:Gh} {w:World}:∀ {bs:List Nat} {xs:List MC} {j:Nat} {o:OV} {fp:List Nat},MMems g w bs xs->zM (mps bs xs) j=some (o,fp)->∃ c,o = .mp c/\fp=[j]/\j ∈ bs/\MMem g w j c
 | [],_,_,_,_,_,h=>by simp [mps,zM] at h
 | b::bs,_,j,o,fp,⟨c,cs,rfl,h2,h3⟩,h=>by
  simp only [mps,z7] at h
  by_cases e:b=j
  · subst e
    rw [if_pos rfl] at h
    injection h with h
    injection h with h4 h5
    exact ⟨c,h4.symm,h5.symm,by simp,h2⟩
  · rw [if_neg e] at h
    obtain ⟨c',k1,k2,k3,k4⟩:=zCx h3 h
    exact ⟨c',k1,k2,by simp [k3],k4⟩
theorem MMems.length {g:Gh} {w:World}:∀ {bs:List Nat} {xs:List MC},MMems g w bs xs->bs.length=xs.length
 | [],_,h=>by rw [show _=[] from h]; rfl
 | b::bs,_,⟨c,cs,rfl,_,h3⟩=>by simp [h3.length]
theorem zIx {ob ob':List (Nat×OV×List Nat)}:∀ {bs:List Nat} {xs:List MC},Mps ob bs xs->(∀ j ∈ bs,zM ob' j=zM ob j)->Mps ob' bs xs
 | [],_,h,_=>h
 | b::bs,_,⟨c,cs,h1,h2,h3⟩,hh=>⟨c,cs,h1,(hh b (by simp)).trans h2,zIx h3 fun j hj=>hh j (by simp [hj])⟩
theorem zDC:∀ {bs:List Nat} {xs:List MC} (r:List (Nat×OV×List Nat)),bs.Nodup->bs.length=xs.length->Mps (mps bs xs++r) bs xs
 | [],[],_,_,_=>rfl
 | [],_::_,_,_,h=>by simp at h
 | b::bs,[],_,_,h=>by simp at h
 | b::bs,c::cs,r,hn,h=>by
  obtain ⟨h1,h2⟩:=List.nodup_cons.1 hn
  refine ⟨c,cs,rfl,by simp [mps,z7],zIx (zDC r h2 (by simpa using h)) fun j hj=>?_⟩
  have:¬ b=j:=fun e=>h1 (by rw [e]; exact hj)
  simp [mps,z7,this]
theorem Mps.length {ob:List (Nat×OV×List Nat)}:∀ {bs:List Nat} {xs:List MC},Mps ob bs xs->bs.length=xs.length
 | [],_,h=>by rw [show _=[] from h]; rfl
 | b::bs,_,⟨c,cs,rfl,_,h3⟩=>by simp [h3.length]
theorem Mps.mem {ob:List (Nat×OV×List Nat)}:∀ {bs:List Nat} {xs:List MC},Mps ob bs xs->∀ j ∈ bs,∃ c,zM ob j=some (.mp c,[j])
 | [],_,_,j,hj=>by cases hj
 | b::bs,_,⟨c,cs,_,h2,h3⟩,j,hj=>by
  rcases List.mem_cons.1 hj with rfl | hj
  · exact ⟨c,h2⟩
  · exact h3.mem j hj
theorem Mps.mems {B:Nat} {g:Gh} {st:S} {w:World} (hi:Inv B g st w):∀ {bs:List Nat} {xs:List MC},Mps st.ob bs xs->MMems g w bs xs
 | [],_,h=>h
 | b::bs,_,⟨c,cs,h1,h2,h3⟩=>⟨c,cs,h1,by
  have:=(hi.ex.ob b _ _ h2).1
  exact this.2,Mps.mems hi h3⟩
def mcs (bs:List Nat):List V:=bs.map fun j=>.at (.map (some j))
theorem zLC {g:Gh} {w:World}:∀ bs:List Nat,RCs g w (mcs bs) (bs.map fun j=>Value.map (some j))
 | []=>by simp [mcs,RCs]
 | b::bs=>by
  simp only [mcs,List.map_cons,RCs]
  exact ⟨[.map (some b)],_,rfl,by simp [RC,one],zLC bs⟩
theorem zM3 {g:Gh} {w:World}:∀ {bs:List Nat} {us:List Value},RCs g w (mcs bs) us->us=bs.map fun j=>Value.map (some j)
 | [],us,h=>by simpa [mcs,RCs] using h
 | b::bs,us,h=>by
  simp only [mcs,List.map_cons,RCs] at h
  obtain ⟨u1,u2,rfl,h1,h2⟩:=h
  simp only [RC] at h1
  rw [h1.1,zM3 h2]; rfl
def jd (st:S) (b:Nat) (bs:List Nat) (xs:List MC) (cap:Nat):S:=⟨lay st.box b (mcs bs,cap),st.tg,st.nx,mps bs xs++st.ob.filter fun p=>!(p.1 == b)⟩
theorem zCD (st:S) (b:Nat) (bs:List Nat) (xs:List MC) (cap j:Nat):zM (jd st b bs xs cap).ob j=(zM (mps bs xs) j).or (if j=b then none else zM st.ob j):=by
 show zM (mps bs xs++st.ob.filter fun p=>(fun k=>!(k == b)) p.1) j=_
 rw [zB8,show zM (st.ob.filter fun p=>(fun k=>!(k == b)) p.1) j=_ from kV (fun k=>!(k == b)) st.ob j]
 by_cases e:j=b <;> simp [e]
theorem Inv.unpack {B:Nat} {g:Gh} {st:S} {w:World} (hi:Inv B g st w) {b cap:Nat} {xs:List MC} {fp:List Nat} (hl:zM st.ob b=some (.sc xs cap,fp)) :
 ∃ bs,fp=b::bs/\(b::bs).Nodup/\bs.length=xs.length/\bs.length<=cap/\Inv B g (jd st b bs xs cap) w:=by
 obtain ⟨h1,h2,h3⟩:=hi.ex.ob b _ _ hl
 obtain ⟨bs,arr,el,rfl,k1,k2,k3,k4,k5,k6⟩:=h1
 obtain ⟨q1,q2,q3,q4,q5,q6⟩:=h3 b (by simp)
 have hlook:∀ j,look st.box j=none->j≠b->look (jd st b bs xs cap).box j=none:=fun j hj e=>by
  show look (lay st.box b _) j=none
  rw [zW,if_neg (Ne.symm e)]; exact hj
 have hother:∀ b' o' fp',zM st.ob b' = some (o',fp')->b'≠b->∀ j ∈ fp',j ∉ b::bs:=fun b' o' fp' h4 h5 j hj hm=>h5 (hi.ex.obd b' o' fp' b _ _ j h4 hl hj hm)
 have hcase:∀ {b' o' fp'},zM (jd st b bs xs cap).ob b' = some (o',fp')->(∃ c,o' = .mp c/\fp' = [b']/\b' ∈ bs/\MMem g w b' c)\/(zM st.ob b' = some (o',fp')/\b'≠b):=fun {b' o' fp'} h=>by
  rw [zCD] at h
  cases e:zM (mps bs xs) b' with
  | some p=>
   obtain ⟨o2,fp2⟩:=p
   rw [e] at h
   injection h with h
   obtain ⟨rfl,rfl⟩:=Prod.mk.inj h
   exact .inl (zCx k6 e)
  | none=>
   rw [e] at h
   replace h:(if b' = b then none else zM st.ob b')=some (o',fp'):=h
   by_cases e2:b' = b
   · rw [if_pos e2] at h; cases h
   · rw [if_neg e2] at h; exact .inr ⟨h,e2⟩
 refine ⟨bs,rfl,k1,k6.length,k4,hi.base,?_,hi.tag,?_,hi.dist,hi.nodup,hi.fresh,hi.names,?_,?_,?_,hi.ex.ft⟩
 · intro b' cs' k' h
   replace h:look (lay st.box b (mcs bs,cap)) b' = some (cs',k'):=h
   rw [zW] at h
   by_cases e:b=b'
   · subst e
     rw [if_pos rfl] at h
     injection h with h
     obtain ⟨rfl,rfl⟩:=Prod.mk.inj h
     refine ⟨q1,q3,by simpa [mcs] using k4,fun c hc=>?_,arr,el,_,k2,k3,zLC bs,by simpa [mcs] using k5⟩
     obtain ⟨x,_,rfl⟩:=List.mem_map.1 hc; rfl
   · rw [if_neg e] at h
     exact hi.box b' cs' k' h
 · intro t ht b' cap' n sz hb
   obtain ⟨p1,p2,p3,p4,p5,p6⟩:=hi.own t ht b' cap' n sz hb
   exact ⟨p1,p2,p3,p4,hlook b' p5 (fun e=>by subst e; exact q5 t ht _ hb),p6⟩
 · intro b' hb'
   obtain ⟨p1,p2,p3⟩:=hi.ex.frz b' hb'
   exact ⟨p1,hlook b' p2 (fun e=>by subst e; rw [q6] at hb'; cases hb'),p3⟩
 · intro b' o' fp' h
   rcases hcase h with ⟨c,rfl,rfl,hm,hc⟩ | ⟨h5,h6⟩
   · refine ⟨⟨rfl,hc⟩,by simp,fun j hj=>?_⟩
     simp only [List.mem_singleton] at hj
     subst hj
     obtain ⟨r1,r2,r3,r4,r5,r6⟩:=h3 j (by simp [hm])
     exact ⟨r1,r2,r3,hlook j r4 (fun e=>(List.nodup_cons.1 k1).1 (by rw [<- e]; exact hm)),r5,r6⟩
   · obtain ⟨p1,p2,p3⟩:=hi.ex.ob b' o' fp' h5
     refine ⟨p1,p2,fun j hj=>?_⟩
     obtain ⟨r1,r2,r3,r4,r5,r6⟩:=p3 j hj
     exact ⟨r1,r2,r3,hlook j r4 (fun e=>hother b' o' fp' h5 h6 j hj (by simp [e])),r5,r6⟩
 · intro b1 o1 fp1 b2 o2 fp2 j e1 e2 m1 m2
   rcases hcase e1 with ⟨c1,_,rfl,hm1,_⟩ | ⟨h5,h6⟩ <;> rcases hcase e2 with ⟨c2,_,rfl,hm2,_⟩ | ⟨h7,h8⟩
   · simp only [List.mem_singleton] at m1 m2; exact m1.symm.trans m2
   · simp only [List.mem_singleton] at m1; subst m1
     exact absurd (by simp [hm1]) (hother b2 o2 fp2 h7 h8 j m2)
   · simp only [List.mem_singleton] at m2; subst m2
     exact absurd (by simp [hm2]) (hother b1 o1 fp1 h5 h6 j m1)
   · exact hi.ex.obd b1 o1 fp1 b2 o2 fp2 j h5 h7 m1 m2
def zDl (st:S) (b:Nat) (bs:List Nat) (xs:List MC) (cap:Nat):S:=⟨wipe st.box b,st.tg,st.nx,(b,.sc xs cap,b::bs)::st.ob.filter fun p=>!(bs.contains p.1)⟩
theorem zAr (st:S) (b:Nat) (bs:List Nat) (xs:List MC) (cap j:Nat):zM (zDl st b bs xs cap).ob j=if b=j then some (.sc xs cap,b::bs) else if j ∈ bs then none else zM st.ob j:=by
 show zM ((b,.sc xs cap,b::bs)::st.ob.filter fun p=>(fun k=>!(bs.contains k)) p.1) j=_
 rw [z7,show zM (st.ob.filter fun p=>(fun k=>!(bs.contains k)) p.1) j=_ from kV (fun k=>!(bs.contains k)) st.ob j]
 by_cases e:b=j
 · rw [if_pos e,if_pos e]
 · rw [if_neg e,if_neg e]
   by_cases e2:j ∈ bs <;> simp [e2]
theorem Inv.pack {B:Nat} {g:Gh} {st:S} {w:World} (hi:Inv B g st w) {b cap:Nat} {bs:List Nat} {xs:List MC} (hb:look st.box b=some (mcs bs,cap)) (hn:bs.Nodup) (hm:Mps st.ob bs xs):Inv B g (zDl st b bs xs cap) w:=by
 obtain ⟨p1,p2,p3,p4,arr,el,us,p5,p6,p7,p8⟩:=hi.box b _ _ hb
 have hus:=zM3 p7
 have hne:∀ j ∈ bs,j≠b:=fun j hj e=>by
  obtain ⟨c,h⟩:=hm.mem j hj
  have:=((hi.ex.ob j _ _ h).2.2 j (by simp)).2.2.2.1
  rw [e,hb] at this; cases this
 have hlook:∀ j,look st.box j=none->look (zDl st b bs xs cap).box j=none:=fun j hj=>by
  show look (wipe st.box b) j=none
  rw [yj]; split
  · rfl
  · exact hj
 have hcase:∀ {b' o' fp'},zM (zDl st b bs xs cap).ob b' = some (o',fp')->(b' = b/\o' = .sc xs cap/\fp' = b::bs)\/(zM st.ob b' = some (o',fp')/\b'≠b/\b' ∉ bs):=fun {b' o' fp'} h=>by
  rw [zAr] at h
  by_cases e:b=b'
  · subst e
    rw [if_pos rfl] at h
    injection h with h
    obtain ⟨h1,h2⟩:=Prod.mk.inj h
    exact .inl ⟨rfl,h1.symm,h2.symm⟩
  · rw [if_neg e] at h
    by_cases e2:b' ∈ bs
    · rw [if_pos e2] at h; cases h
    · rw [if_neg e2] at h; exact .inr ⟨h,Ne.symm e,e2⟩
 have hshare:∀ b' o' fp',zM st.ob b' = some (o',fp')->b' ∉ bs->∀ j ∈ b::bs,j ∉ fp':=fun b' o' fp' h1 h2 j hj hj'=>by
  rcases List.mem_cons.1 hj with rfl | hj
  · exact (hi.boxFr hb).2 b' o' fp' h1 hj'
  · obtain ⟨c,h⟩:=hm.mem j hj
    have:=hi.ex.obd b' o' fp' j _ _ j h1 h hj' (by simp)
    subst this
    exact h2 hj
 refine ⟨hi.base,?_,hi.tag,?_,hi.dist,hi.nodup,hi.fresh,hi.names,?_,?_,?_,hi.ex.ft⟩
 · intro b' cs' k' h
   replace h:look (wipe st.box b) b' = some (cs',k'):=h
   rw [yj] at h
   split at h
   · cases h
   · exact hi.box b' cs' k' h
 · intro t ht b' cap' n sz hb'
   obtain ⟨r1,r2,r3,r4,r5,r6⟩:=hi.own t ht b' cap' n sz hb'
   exact ⟨r1,r2,r3,r4,hlook b' r5,r6⟩
 · intro b' hb'
   obtain ⟨r1,r2,r3⟩:=hi.ex.frz b' hb'
   exact ⟨r1,hlook b' r2,r3⟩
 · intro b' o' fp' h
   rcases hcase h with ⟨rfl,rfl,rfl⟩ | ⟨h1,h2,h3⟩
   · refine ⟨⟨bs,arr,el,rfl,List.nodup_cons.2 ⟨fun h=>hne b' h rfl,hn⟩,p5,p6,by simpa [mcs] using p3,by rw [<- hus,<- p8]; simp [mcs],Mps.mems hi hm⟩,by simp,fun j hj=>?_⟩
     rcases List.mem_cons.1 hj with rfl | hj
     · refine ⟨p1,(Array.getElem?_eq_some_iff.1 p5).1,p2,by show look (wipe st.box j) j=none; rw [yj,if_pos rfl],fun t ht d hd=>?_,(hi.boxFr hb).1⟩
       obtain ⟨d1,d2,d3⟩:=d
       have:=(hi.own t ht j d1 d2 d3 hd).2.2.2.2.1
       rw [hb] at this; cases this
     · obtain ⟨c,h⟩:=hm.mem j hj
       obtain ⟨r1,r2,r3,r4,r5,r6⟩:=(hi.ex.ob j _ _ h).2.2 j (by simp)
       exact ⟨r1,r2,r3,hlook j r4,r5,r6⟩
   · obtain ⟨q1,q2,q3⟩:=hi.ex.ob b' o' fp' h1
     refine ⟨q1,q2,fun j hj=>?_⟩
     obtain ⟨r1,r2,r3,r4,r5,r6⟩:=q3 j hj
     exact ⟨r1,r2,r3,hlook j r4,r5,r6⟩
 · intro b1 o1 fp1 b2 o2 fp2 j e1 e2 m1 m2
   rcases hcase e1 with ⟨rfl,_,rfl⟩ | ⟨h5,h6,h6'⟩ <;> rcases hcase e2 with ⟨rfl,_,rfl⟩ | ⟨h7,h8,h8'⟩
   · rfl
   · exact absurd m2 (hshare b2 o2 fp2 h7 h8' j m1)
   · exact absurd m1 (hshare b1 o1 fp1 h5 h6' j m2)
   · exact hi.ex.obd b1 o1 fp1 b2 o2 fp2 j h5 h7 m1 m2
theorem zLV {P:Program} {f:FuncId} {aq:List V} {Q:Outc->S->Prop} {s:S} {φ:Prop} (h1:∀ B g w,Inv B g s w->φ) (h:φ->FnC P f aq s Q):FnC P f aq s Q:=
 fun B g w vs hi=>h (h1 B g w hi) B g w vs hi
theorem zFp {P:Program} {f:FuncId} {aq:List V} {Q:Outc->S->Prop} {s:S} (h:FnC P f aq s fun oc s1=>∃ s2,(∀ B g w,Inv B g s1 w->Inv B g s2 w)/\Q oc s2):FnC P f aq s Q:=by
 intro B g w vs hi hgl hv
 refine (h B g w vs hi hgl hv).mono ?_
 rintro e w' ⟨g',s1,h1,h2,h3⟩
 cases e with
 | returned v=>
  obtain ⟨r,h4,s2,h5,h6⟩:=h3
  exact ⟨g',s2,h1,h5 _ _ _ h2,r,h4,h6⟩
 | panicked c=>
  obtain ⟨s2,h5,h6⟩:=h3
  exact ⟨g',s2,h1,h5 _ _ _ h2,h6⟩
 | outgrown=>exact h3.elim
theorem zLW {P:Program} {f:FuncId} {aq:List V} {Q:Outc->S->Prop} {s s':S} (hg:∀ B g w,Inv B g s w->Inv B g s' w) (h:FnC P f aq s' Q):FnC P f aq s Q:=
 fun B g w vs hi hgl hv=>h B g w vs (hg B g w hi) hgl hv
section
variable {P:Program} {L:Pol} {ds:List (Option Nat)} {KP:List PanicEntry->S->Prop} {os:List Oper} {K:Env->S->Prop} {e:Env} {st:S}
variable {d:Option Nat} {ty:TypeId} {pos:String} {af:Array Edge}
theorem zFS (x:Operand):AL P L ds KP (⟨d,.move x,ty,pos,af,none⟩::os) K e st=AL P L ds KP os K (e.putO d (e.ev x)) st:=propext Iff.rfl
theorem zLy (x:Operand):AL P L ds KP (⟨d,.assign x,ty,pos,af,none⟩::os) K e st=AL P L ds KP os K (e.putO d (e.ev x)) st:=propext Iff.rfl
theorem zHD (op:BinOp) (t:TypeId) (x y:Operand) (t2:TypeId):AL P L ds KP (⟨d,.binOp op t x y t2,ty,pos,af,none⟩::os) K e st=zBO P op t (zE5 y) (e.ev x) (e.ev y) fun v=>AL P L ds KP os K (e.putO d v) st:=propext Iff.rfl
theorem zID (t:TypeId) (x:Operand) (f:Nat):AL P L ds KP (⟨d,.fieldAddr t x f,ty,pos,af,none⟩::os) K e st=yR P t (e.ev x) f fun v=>AL P L ds KP os K (e.putO d v) st:=propext Iff.rfl
theorem zH0 (t:TypeId) (x i:Operand):AL P L ds KP (⟨d,.indexAddr t x i,ty,pos,af,none⟩::os) K e st=yk P t (e.ev x) (e.ev i) fun v=>AL P L ds KP os K (e.putO d v) st:=propext Iff.rfl
theorem zIb (x:Operand):AL P L ds KP (⟨d,.nilCheck x,ty,pos,af,none⟩::os) K e st=xY (e.ev x) fun v=>AL P L ds KP os K (e.putO d v) st:=propext Iff.rfl
theorem zL6 (t:TypeId) (x i:Operand) (c:Bool):AL P L ds KP (⟨d,.lookup t x i c,ty,pos,af,none⟩::os) K e st=zA7 P st t (e.ev x) (e.ev i) c fun v=>AL P L ds KP os K (e.putO d v) st:=propext Iff.rfl
end
end
end Go.Al
namespace Go.Den
section
open Go.Al
theorem wrp64 (n:Int) (h1:-9223372036854775808<=n) (h2:n<=9223372036854775807):IntKind.i64.wrap n=n:=IntWalk.i64_in n (by omega)
theorem xB (a b:Int) (h1:-9223372036854775808<=a+b) (h2:a+b<=9223372036854775807):iadd .i64 a b=a+b:=wrp64 _ h1 h2
theorem zGu (a b:Int) (h1:-9223372036854775808<=a - b) (h2:a - b<=9223372036854775807):isub .i64 a b=a - b:=wrp64 _ h1 h2
theorem kj {b n:Nat} (h:n * b<=140737488355328) (h2:n<=maxLen):okN b n=true:=by simp [okN,h,h2]
theorem zGx (a b:Int):ieq a b=decide (a=b):=by unfold ieq; by_cases h:a=b <;> simp [h]
theorem zEi (a b:Int):ine a b = !decide (a=b):=by unfold ine; by_cases h:a=b <;> simp [h]
theorem zPC {a b:Int} (h:a=b):ieq a b=true:=by simp [ieq,h]
theorem zNh {a b:Int} (h:a≠b):ieq a b=false:=by simp [ieq,h]
theorem qd {a b:Int} (h:a=b):ine a b=false:=by simp [ine,h]
theorem zFk {a b:Int} (h:a≠b):ine a b=true:=by simp [ine,h]
theorem xd (a b:List UInt8):seq a b=decide (a=b):=by unfold seq; by_cases h:a=b <;> simp [h]
theorem zOe {α:Type} (l:List α) (n:Nat):cutL l 0 (n:Int)=l.take n:=by unfold cutL; simp
theorem zCa {σ R:Type} {F:(σ->Option R)->σ->Option R} (P:Option R->Prop) (I:σ->Prop) (μ:σ->Nat) (step:∀ (rec:σ->Option R) s,I s->(∀ s',I s'->μ s' < μ s->P (rec s'))->P (F rec s)) :
 ∀ (n:Nat) (s:σ),I s->μ s < n->P (iter n F s):=by
 intro n
 induction n with
 | zero=>intro s _ h; omega
 | succ n ih=>
  intro s hs hn
  simp only [iter]
  exact step _ s hs fun s' hs' hlt=>ih s' hs' (by omega)
end
section
open Go.Al
def zipE:List Nat->List V->Env
 | k::ks,v::vs=>(k,v)::zipE ks vs
 | _,_=>[]
def zipT {U:TyU}:List Nat->List (T U)->En U
 | k::ks,v::vs=>(k,v)::zipT ks vs
 | _,_=>[]
def conE:List (Nat×Value)->Env->Env
 | [],e=>e
 | p::r,e=>(p.1,.at p.2)::conE r e
def conT {U:TyU}:List (Nat×Value)->En U->En U
 | [],e=>e
 | p::r,e=>(p.1,.con p.2)::conT r e
def chkC {U:TyU} {R:Type}:List (Nat×Value)->En U->Option R->Option R
 | [],_,K=>K
 | p::r,e,K=>match eget e p.1 with
  | .con _=>chkC r e K
  | _=>none
section
variable {U:TyU} (C:Cod U) (Tb:TypeId->TD U)
def runQ (fu d:Nat) (inl:Nat->Option (FD U)) (orc:Nat->Option (Con U)) (orr:Nat->Option (CR U)) (orp:Nat->Option (CP U)) (fi:FI U) (c:Code) (cs:List (Nat×Value)) (rt:Bool) (slots oslots:List Nat) (ks ko:List (SK U)) (x:zA ks):Option (Option (zA ko)):=
 kx C ks x ⟨[],[],0,0,[]⟩ fun vs st=>feS st fun st=>feA vs fun ts=>
 drun C Tb fu (zDf C Tb fu inl orc orr orp (some none) d) fi c (conT cs (zipT slots ts)) st fun ex e' st'=>match ex with
  | .normal=>chkC cs e' (qD C ko (oslots.map fun k=>eget e' k) st' fun y _=>some (some y))
  | .ret=>bif rt then chkC cs e' (qD C ko (oslots.map fun k=>eget e' k) st' fun y _=>some (some y)) else none
  | .exit id=>bif Nat.beq id 0 && !rt then chkC cs e' (qD C ko (oslots.map fun k=>eget e' k) st' fun y _=>some (some y)) else none
  | _=>none
variable {C Tb} {P:Program}
theorem zLQ {st:St U} {N:NM}:∀ (slots:List Nat) (args:List (T U)),bdds st.nl st.nx args=true->ESim C N st (zipT slots args) (zipE slots (args.map (trT C N)))
 | [],_,_,k=>⟨.inl rfl,rfl⟩
 | _::_,[],_,k=>⟨.inl rfl,rfl⟩
 | n::slots,x::xs,h,k=>by
  simp only [bdds,Bool.and_eq_true] at h
  simp only [zipT,eget,List.map_cons,zipE,Env.get]
  by_cases e:n=k
  · subst e
    have:Nat.beq n n=true:=by simp
    simp only [this,cond_true,if_true]
    exact ⟨.inr rfl,h.1⟩
  · simp only [xK e,cond_false,if_neg e]
    exact zLQ slots xs h.2 k
theorem zK9 {st:St U} {N:NM} {e:En U} {E:Env} (h:ESim C N st e E):∀ cs:List (Nat×Value),ESim C N st (conT cs e) (conE cs E)
 | [],k=>h k
 | p::r,k=>by
  simp only [conT,eget,conE,Env.get]
  by_cases e1:p.1=k
  · have:Nat.beq p.1 k=true:=by simpa using e1
    simp only [this,cond_true,if_pos e1]
    exact ⟨.inr rfl,rfl⟩
  · simp only [xK e1,cond_false,if_neg e1]
    exact zK9 h r k
theorem zKl {R:Type} {e:En U} {K:Option R} {r:R}:∀ {cs:List (Nat×Value)},chkC cs e K=some r->K=some r/\∀ p ∈ cs,∃ v,eget e p.1 = .con v
 | [],h=>⟨h,fun p hp=>(by cases hp)⟩
 | p::cs,h=>by
  simp only [chkC] at h
  split at h
  · rename_i v hv
    obtain ⟨h1,h2⟩:=zKl h
    refine ⟨h1,fun q hq=>?_⟩
    rcases List.mem_cons.1 hq with rfl | hq
    · exact ⟨v,hv⟩
    · exact h2 q hq
  · cases h
def QEnd (C:Cod U) (ko:List (SK U)) (cs:List (Nat×Value)) (oslots:List Nat) (oc:Option (zA ko)) (e':Env) (s':S):Prop:=(∀ p ∈ cs,e'.get p.1=(conE cs []).get p.1)/\∃ y,oc=some y/\∃ q,VKs C s' ko y (oslots.map e'.get) q/\q.Nodup
def zIH (C:Cod U) (syn:List PanicEntry) (ko:List (SK U)) (rt:Bool) (cs:List (Nat×Value)) (oslots:List Nat) (oc:Option (zA ko)):Exit->Env->S->Prop
 | .normal,e',s'=>QEnd C ko cs oslots oc e' s'
 | .ret,e',s'=>rt=true/\QEnd C ko cs oslots oc e' s'
 | .exit id,e',s'=>(id=0/\rt=false)/\QEnd C ko cs oslots oc e' s'
 | .panic e,_,_=>e=syn/\oc=none
 | _,_,_=>False
theorem zG2 (hT:TbOk C P Tb) (hC:CodOk C) (hm:P.follows .mixedOrders=true) {syn:List PanicEntry} {pf rf:FuncId->Bool} {fu d:Nat} {inl:Nat->Option (FD U)} {orc:Nat->Option (Con U)} {orr:Nat->Option (CR U)} {orp:Nat->Option (CP U)}
 (hpf:∀ f,pf f=(orc f).isSome) (hrf:∀ f,rf f=(orr f).isSome) (hin:∀ f fd,inl f=some fd->FDOk P pf rf f fd) (hor:∀ f c,orc f=some c->zP P f=true/\ConOk C P f c)
 (hrr:∀ f c,orr f=some c->zP P f=true/\CROk C P f c) (hpp:∀ f c,orp f=some c->zP P f=true/\CPOk C P syn f c) {fi:FI U} {c:Code} {cs:List (Nat×Value)} {rt:Bool} {slots oslots:List Nat} {ks ko:List (SK U)} {X:Cx} (hok:qW pf rf fi X.N c=true) (hhd:qy fi c=true)
 {x:zA ks} {oc:Option (zA ko)} (h:runQ C Tb fu d inl orc orr orp fi c cs rt slots oslots ks ko x=some oc) (hcs:∀ p ∈ cs,p.1 ∉ dsts fi c) {s0:S} {vx:List V} {rs:List Res} (hv:VKs C s0 ks x vx rs) (hn:rs.Nodup):awp P X c (zIH C syn ko rt cs oslots oc) (conE cs (zipE slots vx)) s0:=by
 unfold runQ at h
 have hno:∀ y,¬ Has ⟨id,id,id,id⟩ (⟨[],[],0,0,[]⟩:St U) y:=fun y hy=>by
  cases y with
  | inl n=>obtain ⟨t,ht,_⟩:=hy; cases ht
  | inr b=>obtain ⟨l,b,hl,_⟩:=hy; simp [lk] at hl
  | ob b=>obtain ⟨l,b,hl,_⟩:=hy; simp [lko] at hl
 obtain ⟨N1,vs1,st1,k1,k2,k3,k4,k5,k6⟩:=jp hC ks x (SSim.empty ⟨id,id,id,id⟩ 0 0 s0) hv hn (fun y hy hh=>hno y hh) h
 rw [qx,zB7] at k1
 subst k4
 refine jf (PP:=fun e=>e=syn/\(some none:Option (Option (zA ko)))=some oc) hT hC hm (zDX hT hC hm hpf hrf hin hor hrr hpp d fi.wr fi.own) c k3 (zK9 (zLQ slots vs1 k5) cs) k1 hok hhd (fun e s' hq=>?_) ?_
 · obtain ⟨h1,h2⟩:=hq
   injection h2 with h2
   exact ⟨h1,h2.symm⟩
 · intro ex N' e' st' E' s' u1 u2 u3 u4 u5
   have fin:(qD C ko (oslots.map fun k=>eget e' k) st' fun y _=>some (some y))=some oc->∃ y,oc=some y/\∃ q,VKs C s' ko y (oslots.map E'.get) q/\q.Nodup:=fun hh=>by
    obtain ⟨y,st3,q,h3,_,_,_,h4,h5,_,_⟩:=jQ hC ko (vs:=oslots.map fun k=>eget e' k) (vs':=oslots.map E'.get) u3 (by simp) (fun j x v a b=>by
     rw [List.getElem?_map] at a b
     cases hk:oslots[j]? with
     | none=>rw [hk] at a; cases a
     | some k=>
      rw [hk] at a b
      injection a with a
      injection b with b
      subst a; subst b
      exact (u4 k).1) hh
    injection h3 with h3
    exact ⟨y,h3.symm,q,h4,h5⟩
   have all:chkC cs e' (qD C ko (oslots.map fun k=>eget e' k) st' fun y _=>some (some y))=some oc->QEnd C ko cs oslots oc E' s':=fun u1=>by
    obtain ⟨v1,v2⟩:=zKl u1
    refine ⟨fun p hp=>?_,fin v1⟩
    obtain ⟨v,hv⟩:=v2 p hp
    have h1:eget e' p.1=eget (conT cs (zipT slots vs1)) p.1:=by
     rcases u5 p.1 (hcs p hp) with q | q
     · exact q
     · rw [hv] at q; cases q
    have h2:=(u4 p.1).1
    have key:∀ (cs:List (Nat×Value)) (e:En U) (E:Env),p ∈ cs->eget (conT cs e) p.1 = .con ((cs.find? fun q=>Nat.beq q.1 p.1).getD p).2/\(conE cs E).get p.1 = .at ((cs.find? fun q=>Nat.beq q.1 p.1).getD p).2:=by
     intro cs
     induction cs with
     | nil=>intro _ _ h; cases h
     | cons a cs ih=>
      intro e E h
      by_cases e1:a.1=p.1
      · have e2:Nat.beq a.1 p.1=true:=by simpa using e1
        simp only [conT,eget,conE,Env.get,e2,cond_true,if_pos e1,List.find?_cons_of_pos,Option.getD_some]
        exact ⟨trivial,trivial⟩
      · have e2:¬ (Nat.beq a.1 p.1=true):=by simpa using e1
        have hp':p ∈ cs:=by
         rcases List.mem_cons.1 h with rfl | h
         · exact absurd rfl e1
         · exact h
        simp only [conT,eget,conE,Env.get,xK e1,cond_false,if_neg e1]
        have:=ih e E hp'
        rw [List.find?_cons_of_neg (by simpa using e2)]
        exact this
    rcases h2 with h2 | h2
    · rw [hv] at h2; cases h2
    · rw [h2,h1,(key cs _ [] hp).1,(key cs (zipT slots vs1) [] hp).2]; rfl
   cases ex with
   | normal=>exact all u1
   | ret=>
    obtain ⟨w1,w2⟩:=zO u1
    exact ⟨w1,all w2⟩
   | exit id=>
    obtain ⟨w1,w2⟩:=zO u1
    exact ⟨by simpa using w1,all w2⟩
   | goto l=>cases u1
   | panic c=>cases u1
   | outgrown=>cases u1
end
end
end Go.Den
namespace Go.Proofs.YtnamdpbcpnnhaaaGreatDoor
section
open Go.Al
theorem zGP:hasT Tryz.prog 3=true:=by kernel_rfl
theorem zGQ:xN Tryz.prog 3=false:=by kernel_rfl
theorem zEb:Tryz.prog.cellsOf 3=1:=by kernel_rfl
theorem zIG:hasT Tryz.prog 4=true:=by kernel_rfl
theorem aggT4:xN Tryz.prog 4=false:=by kernel_rfl
theorem zGE:Tryz.prog.cellsOf 4=1:=by kernel_rfl
theorem zME:hasT Tryz.prog 9=true:=by kernel_rfl
theorem zLn:xN Tryz.prog 9=false:=by kernel_rfl
theorem zIX:Tryz.prog.cellsOf 9=1:=by kernel_rfl
theorem strT9:kZ Tryz.prog 9=true:=by kernel_rfl
theorem hasT24:hasT Tryz.prog 24=true:=by kernel_rfl
theorem aggT24:xN Tryz.prog 24=false:=by kernel_rfl
theorem zQ4:Tryz.prog.cellsOf 24=1:=by kernel_rfl
theorem elT24:elT Tryz.prog 24=some 26:=by kernel_rfl
theorem hasT26:hasT Tryz.prog 26=true:=by kernel_rfl
theorem zRa:Tryz.prog.cellsOf 26=6:=by kernel_rfl
theorem zP4:fieldAt Tryz.prog 26 1=some (1,9):=by kernel_rfl
theorem zEc:hasT Tryz.prog 27=true:=by kernel_rfl
theorem zIz:xN Tryz.prog 27=false:=by kernel_rfl
theorem zC9:Tryz.prog.cellsOf 27=1:=by kernel_rfl
theorem elT27:elT Tryz.prog 27=some 29:=by kernel_rfl
theorem zEa:hasT Tryz.prog 29=true:=by kernel_rfl
theorem zD6:xN Tryz.prog 29=true:=by kernel_rfl
theorem zBx:Tryz.prog.cellsOf 29=3:=by kernel_rfl
theorem zKv:Tryz.prog.bytesOf 29=40:=by kernel_rfl
theorem zKt:fieldAt Tryz.prog 29 0=some (0,3):=by kernel_rfl
theorem zJW:yZ Tryz.prog 29=some [.at (.int .i64 0),.at (.int .i64 0),.lst .nil []]:=by kernel_rfl
theorem hasT30:hasT Tryz.prog 30=true:=by kernel_rfl
theorem aggT30:xN Tryz.prog 30=false:=by kernel_rfl
theorem zQR:Tryz.prog.cellsOf 30=1:=by kernel_rfl
theorem zNg:zBb Tryz.prog 61=true:=by kernel_rfl
theorem zero61:yZ Tryz.prog 61=some []:=by kernel_rfl
theorem hasT62:hasT Tryz.prog 62=true:=by kernel_rfl
theorem aggT62:xN Tryz.prog 62=false:=by kernel_rfl
theorem zQe:Tryz.prog.cellsOf 62=1:=by kernel_rfl
theorem zCP:hasT Tryz.prog 63=true:=by kernel_rfl
theorem zJR:xN Tryz.prog 63=false:=by kernel_rfl
theorem zAe:Tryz.prog.cellsOf 63=1:=by kernel_rfl
theorem zPu:Tryz.prog.bytesOf 63=8:=by kernel_rfl
theorem zero63:yZ Tryz.prog 63=some [.at (.map none)]:=by kernel_rfl
theorem zC8:hasT Tryz.prog 64=true:=by kernel_rfl
theorem zDz:xN Tryz.prog 64=false:=by kernel_rfl
theorem zBp:Tryz.prog.cellsOf 64=1:=by kernel_rfl
theorem zGC:elT Tryz.prog 64=some 63:=by kernel_rfl
theorem zRK:fieldAt Tryz.prog 66 0=some (0,24):=by kernel_rfl
theorem zRc:fieldAt Tryz.prog 66 1=some (1,3):=by kernel_rfl
theorem zC2:fieldAt Tryz.prog 66 2=some (2,64):=by kernel_rfl
theorem zQH:fieldAt Tryz.prog 68 0=some (0,27):=by kernel_rfl
theorem zJd:fieldAt Tryz.prog 104 0=some (0,9):=by kernel_rfl
theorem zJN:fieldAt Tryz.prog 104 1=some (1,3):=by kernel_rfl
theorem code14:zP Tryz.prog 14=true:=by kernel_rfl
theorem zOG:zP Tryz.prog 15=true:=by kernel_rfl
theorem zJt:zP Tryz.prog 17=true:=by kernel_rfl
theorem zJ6:zP Tryz.prog 18=true:=by kernel_rfl
theorem zN9:zP Tryz.prog 19=true:=by kernel_rfl
theorem zNH:zP Tryz.prog 21=true:=by kernel_rfl
theorem code22:zP Tryz.prog 22=true:=by kernel_rfl
theorem code31:zP Tryz.prog 31=true:=by kernel_rfl
theorem code32:zP Tryz.prog 32=true:=by kernel_rfl
theorem zGO:zP Tryz.prog 33=true:=by kernel_rfl
theorem zOA:zP Tryz.prog 37=true:=by kernel_rfl
theorem zF7:zP Tryz.prog 38=true:=by kernel_rfl
theorem code39:zP Tryz.prog 39=true:=by kernel_rfl
theorem zOJ:zP Tryz.prog 41=true:=by kernel_rfl
theorem zOH:zP Tryz.prog 50=true:=by kernel_rfl
theorem code53:zP Tryz.prog 53=true:=by kernel_rfl
theorem zNc:zP Tryz.prog 54=true:=by kernel_rfl
theorem code55:zP Tryz.prog 55=true:=by kernel_rfl
theorem code56:zP Tryz.prog 56=true:=by kernel_rfl
theorem code57:zP Tryz.prog 57=true:=by kernel_rfl
theorem code58:zP Tryz.prog 58=true:=by kernel_rfl
theorem code59:zP Tryz.prog 59=true:=by kernel_rfl
theorem code60:zP Tryz.prog 60=true:=by kernel_rfl
theorem code61:zP Tryz.prog 61=true:=by kernel_rfl
theorem code62:zP Tryz.prog 62=true:=by kernel_rfl
theorem code63:zP Tryz.prog 63=true:=by kernel_rfl
theorem code64:zP Tryz.prog 64=true:=by kernel_rfl
theorem code65:zP Tryz.prog 65=true:=by kernel_rfl
theorem zJ8:zP Tryz.prog 72=true:=by kernel_rfl
theorem zJq:zP Tryz.prog 73=true:=by kernel_rfl
theorem code74:zP Tryz.prog 74=true:=by kernel_rfl
theorem code75:zP Tryz.prog 75=true:=by kernel_rfl
theorem zNb:zP Tryz.prog 76=true:=by kernel_rfl
theorem zF2:zP Tryz.prog 77=true:=by kernel_rfl
theorem code78:zP Tryz.prog 78=true:=by kernel_rfl
theorem code79:zP Tryz.prog 79=true:=by kernel_rfl
theorem code80:zP Tryz.prog 80=true:=by kernel_rfl
theorem code81:zP Tryz.prog 81=true:=by kernel_rfl
theorem code82:zP Tryz.prog 82=true:=by kernel_rfl
theorem code83:zP Tryz.prog 83=true:=by kernel_rfl
theorem code84:zP Tryz.prog 84=true:=by kernel_rfl
theorem zMv:zP Tryz.prog 85=true:=by kernel_rfl
theorem code86:zP Tryz.prog 86=true:=by kernel_rfl
theorem zGH:zP Tryz.prog 88=true:=by kernel_rfl
theorem zJQ:zP Tryz.prog 89=true:=by kernel_rfl
theorem zMx:zP Tryz.prog 90=true:=by kernel_rfl
theorem code92:zP Tryz.prog 92=true:=by kernel_rfl
theorem code93:zP Tryz.prog 93=true:=by kernel_rfl
theorem code94:zP Tryz.prog 94=true:=by kernel_rfl
theorem code95:zP Tryz.prog 95=true:=by kernel_rfl
theorem zQs:zP Tryz.prog 107=true:=by kernel_rfl
theorem zQg:zP Tryz.prog 108=true:=by kernel_rfl
theorem zQn:zP Tryz.prog 110=true:=by kernel_rfl
theorem zRo:zP Tryz.prog 111=true:=by kernel_rfl
theorem zPq:zP Tryz.prog 112=true:=by kernel_rfl
theorem zRL:zP Tryz.prog 113=true:=by kernel_rfl
theorem zQS:zP Tryz.prog 114=true:=by kernel_rfl
theorem zQf:zP Tryz.prog 115=true:=by kernel_rfl
theorem zRh:zP Tryz.prog 116=true:=by kernel_rfl
theorem zPp:zP Tryz.prog 117=true:=by kernel_rfl
theorem zRl:zP Tryz.prog 130=true:=by kernel_rfl
theorem zQX:zP Tryz.prog 131=true:=by kernel_rfl
theorem zRf:zP Tryz.prog 142=true:=by kernel_rfl
theorem zP9:zP Tryz.prog 143=true:=by kernel_rfl
theorem zQu:zP Tryz.prog 150=true:=by kernel_rfl
theorem zQo:zP Tryz.prog 151=true:=by kernel_rfl
theorem zP6:zP Tryz.prog 154=true:=by kernel_rfl
theorem zRO:zP Tryz.prog 155=true:=by kernel_rfl
def ks38:Nat->List Nat
 | 0=>[0,1,4]
 | 1=>[4]
 | _=>[]
def ks58:Nat->List Nat
 | 0=>[0,1,2,8]
 | 1=>[0,1,2,6]
 | 2=>[0,1,6,9]
 | 3=>[0,1,6]
 | 4=>[]
 | _=>[]
def ks59:Nat->List Nat
 | 0=>[]
 | _=>[]
def ks61:Nat->List Nat
 | 0=>[0]
 | 1=>[0,3]
 | 2=>[3]
 | 3=>[2]
 | _=>[]
def ks77:Nat->List Nat
 | 0=>[3]
 | 1=>[]
 | _=>[]
def ks88:Nat->List Nat
 | 0=>[0,1]
 | 1=>[0,1,16]
 | 2=>[4]
 | 3=>[4]
 | _=>[]
theorem mixed:Tryz.prog.follows .mixedOrders=true:=by kernel_rfl
end
section
open Go.Al Go.Den
def Nd.kind:Nd->Int
 | .mk k _ _=>k
def Nd.tok:Nd->Int
 | .mk _ a _=>a
def Nd.kids:Nd->List Nd
 | .mk _ _ l=>l
structure TokT where
 kind:Int
 text:List UInt8
 file:Int
 ffrom:Int
 fto:Int
 blank:Bool
structure CharT where
 b:Int
 fat:Int
structure BindT where
 space:Int
 fto:Int
inductive TI where
 | int
 | bool
 | u8
 | str
 | tok
 | char
 | bind
 | node
def TI.no:TI->Nat
 | .int=>0
 | .bool=>1
 | .u8=>2
 | .str=>3
 | .tok=>4
 | .char=>5
 | .bind=>6
 | .node=>7
theorem TI.no_inj:∀ a b:TI,a.no=b.no->a=b:=by intro a b h; cases a <;> cases b <;> first | rfl | (simp [TI.no] at h)
instance:DecidableEq TI:=fun a b=>if h:a.no=b.no then isTrue (TI.no_inj a b h) else isFalse (fun e=>h (by rw [e]))
def denI:TI->Type
 | .int=>Int
 | .bool=>Bool
 | .u8=>Int
 | .str=>(List UInt8)
 | .tok=>TokT
 | .char=>CharT
 | .bind=>BindT
 | .node=>Nd
abbrev UU:TyU:={ I:=TI,den:=denI }
def zCs {R:Type} (v:T UU) (K:TokT->Option R):Option R:=
 match v with
 | .agg fs=>(match fs with
  | [v0,v1,v2,v3,v4,v5]=>pInt .i64 v0 fun x0=>pStr v1 fun x1=>pInt .i64 v2 fun x2=>pInt .i64 v3 fun x3=>pInt .i64 v4 fun x4=>zIR v5 fun x5=>K (TokT.mk x0 x1 x2 x3 x4 x5)
  | _=>none)
 | _=>none
def tokD:TokT:=TokT.mk 0 [] 0 0 0 false
def zCO {R:Type} (v:T UU) (K:CharT->Option R):Option R:=
 match v with
 | .agg fs=>(match fs with
  | [v0,v1]=>pInt .u8 v0 fun x0=>pInt .i64 v1 fun x1=>K (CharT.mk x0 x1)
  | _=>none)
 | _=>none
def zBl:CharT:=CharT.mk 0 0
def zB4 {R:Type} (v:T UU) (K:BindT->Option R):Option R:=
 match v with
 | .agg fs=>(match fs with
  | [v0,v1]=>pInt .i64 v0 fun x0=>pInt .i64 v1 fun x1=>K (BindT.mk x0 x1)
  | _=>none)
 | _=>none
def bindD:BindT:=BindT.mk 0 0
def zFT {R:Type} (v:T UU) (K:Nd->Option R):Option R:=
 match v with
 | .agg fs=>(match fs with
  | [v0,v1,v2]=>pInt .i64 v0 fun x0=>pInt .i64 v1 fun x1=>pDl (U:=UU) TI.node v2 fun x2=>K (Nd.mk x0 x1 x2)
  | _=>none)
 | _=>none
def ze:Nd:=Nd.mk 0 0 []
def eV_int (x:Int):V:=.at (.int .i64 x)
def zQO (x:Bool):V:=.at (.bool x)
def eV_u8 (x:Int):V:=.at (.int .u8 x)
def eV_str (x:(List UInt8)):V:=.at (.string ⟨List.toArray x⟩)
def zAn (x:TokT):V:=.agg [.at (.int .i64 (TokT.kind x)),.at (.string ⟨List.toArray (TokT.text x)⟩),.at (.int .i64 (TokT.file x)),.at (.int .i64 (TokT.ffrom x)),.at (.int .i64 (TokT.fto x)),.at (.bool (TokT.blank x))]
def yz (x:CharT):V:=.agg [.at (.int .u8 (CharT.b x)),.at (.int .i64 (CharT.fat x))]
def ky (x:BindT):V:=.agg [.at (.int .i64 (BindT.space x)),.at (.int .i64 (BindT.fto x))]
def zAV (x:Nd):V:=z6 x
def zMN:(i:TI)->denI i->V
 | .int,x=>eV_int x
 | .bool,x=>zQO x
 | .u8,x=>eV_u8 x
 | .str,x=>eV_str x
 | .tok,x=>zAn x
 | .char,x=>yz x
 | .bind,x=>ky x
 | .node,x=>zAV x
def encI:(i:TI)->denI i->T UU
 | .int,x=>.int .i64 x
 | .bool,x=>.bool x
 | .u8,x=>.int .u8 x
 | .str,x=>.str x
 | .tok,x=>.agg [(.int .i64 (TokT.kind x)),(.str (TokT.text x)),(.int .i64 (TokT.file x)),(.int .i64 (TokT.ffrom x)),(.int .i64 (TokT.fto x)),(.bool (TokT.blank x))]
 | .char,x=>.agg [(.int .u8 (CharT.b x)),(.int .i64 (CharT.fat x))]
 | .bind,x=>.agg [(.int .i64 (BindT.space x)),(.int .i64 (BindT.fto x))]
 | .node,x=>.agg [(.int .i64 (Nd.kind x)),(.int .i64 (Nd.tok x)),(.lst .dl TI.node (Nd.kids x))]
def decI:(i:TI)->{R:Type}->T UU->(denI i->Option R)->Option R
 | .int,_,v,K=>pInt .i64 v K
 | .bool,_,v,K=>zIR v K
 | .u8,_,v,K=>pInt .u8 v K
 | .str,_,v,K=>pStr v K
 | .tok,_,v,K=>zCs v K
 | .char,_,v,K=>zCO v K
 | .bind,_,v,K=>zB4 v K
 | .node,_,v,K=>zFT v K
def dfltI:(i:TI)->denI i
 | .int=>(0:Int)
 | .bool=>false
 | .u8=>(0:Int)
 | .str=>([]:List UInt8)
 | .tok=>tokD
 | .char=>zBl
 | .bind=>bindD
 | .node=>ze
def cellsI:TI->Nat
 | .int=>1
 | .bool=>1
 | .u8=>1
 | .str=>1
 | .tok=>6
 | .char=>2
 | .bind=>2
 | .node=>3
def aggI:TI->Bool
 | .int=>false
 | .bool=>false
 | .u8=>false
 | .str=>false
 | .tok=>true
 | .char=>true
 | .bind=>true
 | .node=>true
def plainI:TI->Bool
 | .int=>true
 | .bool=>true
 | .u8=>true
 | .str=>true
 | .tok=>true
 | .char=>true
 | .bind=>true
 | .node=>false
def CC:Cod UU:=⟨encI,zMN,decI,dfltI,cellsI,aggI,plainI⟩
theorem zLo {R:Type} {v:T UU} {K:TokT->Option R} {r:R} (h:zCs v K=some r):∃ x,K x=some r/\∀ N,(trT CC N v).untag=zAn x:=by
 unfold zCs at h
 split at h
 · split at h
   · obtain ⟨x0,h,_,e0⟩:=yq (C:=CC) h
     obtain ⟨x1,h,_,e1⟩:=zE6 (C:=CC) h
     obtain ⟨x2,h,_,e2⟩:=yq (C:=CC) h
     obtain ⟨x3,h,_,e3⟩:=yq (C:=CC) h
     obtain ⟨x4,h,_,e4⟩:=yq (C:=CC) h
     obtain ⟨x5,h,_,e5⟩:=zDj (C:=CC) h
     refine ⟨_,h,fun N=>?_⟩
     simp only [trT,trTs,V.untag,List.map_cons,List.map_nil,e0 N,e1 N,e2 N,e3 N,e4 N,e5 N]
     rfl
   · cases h
 · cases h
theorem zKJ {R:Type} {v:T UU} {K:TokT->Option R} {r:R} (h:zCs v K=some r):∃ x,K x=some r/\∀ N,trT CC N v=zAn x:=by
 unfold zCs at h
 split at h
 · split at h
   · obtain ⟨x0,h,e0,_⟩:=yq (C:=CC) h
     obtain ⟨x1,h,e1,_⟩:=zE6 (C:=CC) h
     obtain ⟨x2,h,e2,_⟩:=yq (C:=CC) h
     obtain ⟨x3,h,e3,_⟩:=yq (C:=CC) h
     obtain ⟨x4,h,e4,_⟩:=yq (C:=CC) h
     obtain ⟨x5,h,e5,_⟩:=zDj (C:=CC) h
     refine ⟨_,h,fun N=>?_⟩
     simp only [trT,trTs,e0 N,e1 N,e2 N,e3 N,e4 N,e5 N]
     rfl
   · cases h
 · cases h
theorem zBS (x:TokT):zAn x = .agg [.at (.int .i64 (TokT.kind x)),.at (.string ⟨List.toArray (TokT.text x)⟩),.at (.int .i64 (TokT.file x)),.at (.int .i64 (TokT.ffrom x)),.at (.int .i64 (TokT.fto x)),.at (.bool (TokT.blank x))]:=by
 rfl
theorem zKj {R:Type} {v:T UU} {K:CharT->Option R} {r:R} (h:zCO v K=some r):∃ x,K x=some r/\∀ N,(trT CC N v).untag=yz x:=by
 unfold zCO at h
 split at h
 · split at h
   · obtain ⟨x0,h,_,e0⟩:=yq (C:=CC) h
     obtain ⟨x1,h,_,e1⟩:=yq (C:=CC) h
     refine ⟨_,h,fun N=>?_⟩
     simp only [trT,trTs,V.untag,List.map_cons,List.map_nil,e0 N,e1 N]
     rfl
   · cases h
 · cases h
theorem zJZ {R:Type} {v:T UU} {K:CharT->Option R} {r:R} (h:zCO v K=some r):∃ x,K x=some r/\∀ N,trT CC N v=yz x:=by
 unfold zCO at h
 split at h
 · split at h
   · obtain ⟨x0,h,e0,_⟩:=yq (C:=CC) h
     obtain ⟨x1,h,e1,_⟩:=yq (C:=CC) h
     refine ⟨_,h,fun N=>?_⟩
     simp only [trT,trTs,e0 N,e1 N]
     rfl
   · cases h
 · cases h
theorem zAh (x:CharT):yz x = .agg [.at (.int .u8 (CharT.b x)),.at (.int .i64 (CharT.fat x))]:=by
 rfl
theorem zKK {R:Type} {v:T UU} {K:BindT->Option R} {r:R} (h:zB4 v K=some r):∃ x,K x=some r/\∀ N,(trT CC N v).untag=ky x:=by
 unfold zB4 at h
 split at h
 · split at h
   · obtain ⟨x0,h,_,e0⟩:=yq (C:=CC) h
     obtain ⟨x1,h,_,e1⟩:=yq (C:=CC) h
     refine ⟨_,h,fun N=>?_⟩
     simp only [trT,trTs,V.untag,List.map_cons,List.map_nil,e0 N,e1 N]
     rfl
   · cases h
 · cases h
theorem zJo {R:Type} {v:T UU} {K:BindT->Option R} {r:R} (h:zB4 v K=some r):∃ x,K x=some r/\∀ N,trT CC N v=ky x:=by
 unfold zB4 at h
 split at h
 · split at h
   · obtain ⟨x0,h,e0,_⟩:=yq (C:=CC) h
     obtain ⟨x1,h,e1,_⟩:=yq (C:=CC) h
     refine ⟨_,h,fun N=>?_⟩
     simp only [trT,trTs,e0 N,e1 N]
     rfl
   · cases h
 · cases h
theorem zAg (x:BindT):ky x = .agg [.at (.int .i64 (BindT.space x)),.at (.int .i64 (BindT.fto x))]:=by
 rfl
theorem zKa {R:Type} {v:T UU} {K:Nd->Option R} {r:R} (h:zFT v K=some r):∃ x,K x=some r/\∀ N,(trT CC N v).untag=zAV x:=by
 unfold zFT at h
 split at h
 · split at h
   · obtain ⟨x0,h,_,e0⟩:=yq (C:=CC) h
     obtain ⟨x1,h,_,e1⟩:=yq (C:=CC) h
     obtain ⟨x2,h,e2⟩:=pDl_ok (C:=CC) h
     refine ⟨_,h,fun N=>?_⟩
     simp only [trT,trTs,V.untag,List.map_cons,List.map_nil,e0 N,e1 N,e2 N]
     exact (kT x0 x1 x2).symm
   · cases h
 · cases h
theorem zAf (x:Nd):zAV x = .agg [.at (.int .i64 (Nd.kind x)),.at (.int .i64 (Nd.tok x)),.lst (zk ((Nd.kids x).map (zMN TI.node))) ((Nd.kids x).map (zMN TI.node))]:=by
 cases x; exact kT _ _ _
theorem sz_tok (x:TokT):(zAn x).size=6:=by rw [zBS]; rfl
theorem ag_tok (x:TokT):(zAn x).isAgg=true:=by rw [zBS]; rfl
theorem on_tok (x:TokT):zK (zAn x).flat:=by rw [zBS]; rfl
theorem un_tok (x:TokT):(zAn x).untag=zAn x:=by rw [zBS]; simp only [V.untag,List.map_cons,List.map_nil,zCZ,zA9]
theorem zHG (x:CharT):(yz x).size=2:=by rw [zAh]; rfl
theorem zQI (x:CharT):(yz x).isAgg=true:=by rw [zAh]; rfl
theorem zRJ (x:CharT):zK (yz x).flat:=by rw [zAh]; rfl
theorem zP1 (x:CharT):(yz x).untag=yz x:=by rw [zAh]; simp only [V.untag,List.map_cons,List.map_nil,zCZ,zA9]
theorem zRC (x:BindT):(ky x).size=2:=by rw [zAg]; rfl
theorem zQN (x:BindT):(ky x).isAgg=true:=by rw [zAg]; rfl
theorem zRi (x:BindT):zK (ky x).flat:=by rw [zAg]; rfl
theorem zRE (x:BindT):(ky x).untag=ky x:=by rw [zAg]; simp only [V.untag,List.map_cons,List.map_nil,zCZ,zA9]
theorem zQw (x:Nd):(zAV x).size=3:=by rw [zAf]; rfl
theorem zPZ (x:Nd):(zAV x).isAgg=true:=by rw [zAf]; rfl
theorem zPf (x:Nd):zK (zAV x).flat:=by rw [zAf]; rfl
theorem zQG (x:Nd):(zAV x).untag=zAV x:=by rw [zAf]; simp only [V.untag,List.map_cons,List.map_nil,zCZ,zA9]
theorem CCok:CodOk CC:=by
 refine ⟨?_,?_,?_,?_,?_,?_,?_,?_,?_,?_⟩
 · intro N i x
   cases i with
   | int=>rfl
   | bool=>rfl
   | u8=>rfl
   | str=>rfl
   | tok=>exact (zBS x).symm
   | char=>exact (zAh x).symm
   | bind=>exact (zAg x).symm
   | node=>exact (zAf x).symm
 · intro i x
   cases i <;> rfl
 · intro i R v k r h
   cases i with
   | int=>obtain ⟨x,h1,_,h2⟩:=yq (C:=CC) h; exact ⟨x,h1,fun N=>by have:=h2 N; exact zCe this⟩
   | bool=>obtain ⟨x,h1,_,h2⟩:=zDj (C:=CC) h; exact ⟨x,h1,fun N=>by have:=h2 N; exact zCe this⟩
   | u8=>obtain ⟨x,h1,_,h2⟩:=yq (C:=CC) h; exact ⟨x,h1,fun N=>by have:=h2 N; exact zCe this⟩
   | str=>obtain ⟨x,h1,_,h2⟩:=zE6 (C:=CC) h; exact ⟨x,h1,fun N=>by have:=h2 N; exact zCe this⟩
   | tok=>exact zLo h
   | char=>exact zKj h
   | bind=>exact zKK h
   | node=>exact zKa h
 · intro i R v k r hp h
   cases i with
   | int=>obtain ⟨x,h1,h2,_⟩:=yq (C:=CC) h; exact ⟨x,h1,h2⟩
   | bool=>obtain ⟨x,h1,h2,_⟩:=zDj (C:=CC) h; exact ⟨x,h1,h2⟩
   | u8=>obtain ⟨x,h1,h2,_⟩:=yq (C:=CC) h; exact ⟨x,h1,h2⟩
   | str=>obtain ⟨x,h1,h2,_⟩:=zE6 (C:=CC) h; exact ⟨x,h1,h2⟩
   | tok=>exact zKJ h
   | char=>exact zJZ h
   | bind=>exact zJo h
   | node=>cases hp
 · intro i x
   cases i with
   | int=>rfl
   | bool=>rfl
   | u8=>rfl
   | str=>rfl
   | tok=>exact sz_tok x
   | char=>exact zHG x
   | bind=>exact zRC x
   | node=>exact zQw x
 · intro i x
   cases i with
   | int=>rfl
   | bool=>rfl
   | u8=>rfl
   | str=>rfl
   | tok=>exact ag_tok x
   | char=>exact zQI x
   | bind=>exact zQN x
   | node=>exact zPZ x
 · intro i x
   cases i with
   | int=>rfl
   | bool=>rfl
   | u8=>rfl
   | str=>rfl
   | tok=>exact on_tok x
   | char=>exact zRJ x
   | bind=>exact zRi x
   | node=>exact zPf x
 · intro i x
   cases i with
   | int=>rfl
   | bool=>rfl
   | u8=>rfl
   | str=>rfl
   | tok=>exact un_tok x
   | char=>exact zP1 x
   | bind=>exact zRE x
   | node=>exact zQG x
 · intro i h
   cases i <;> first | rfl | cases h
 · intro i
   cases i <;> decide
def td3:TD UU:={ has:=true,agg:=false,cells:=1,bytes:=8,code:=some TI.int,ik:=some .i64,zero:=some [.int .i64 0] }
theorem td3_ok:Facts CC Tryz.prog 3 td3:=by constructor<;>first|kernel_rfl|(intro N;kernel_rfl)|(intro i h;cases h<;>exact ⟨rfl,rfl⟩)|(intro n i h;cases h)
def td4:TD UU:={ has:=true,agg:=false,cells:=1,bytes:=1,code:=some TI.bool,isBool:=true,zero:=some [.bool false] }
theorem td4_ok:Facts CC Tryz.prog 4 td4:=by constructor<;>first|kernel_rfl|(intro N;kernel_rfl)|(intro i h;cases h<;>exact ⟨rfl,rfl⟩)|(intro n i h;cases h)
def td5:TD UU:={ has:=true,agg:=false,cells:=1,bytes:=1,code:=some TI.u8,ik:=some .u8,zero:=some [.int .u8 0] }
theorem td5_ok:Facts CC Tryz.prog 5 td5:=by constructor<;>first|kernel_rfl|(intro N;kernel_rfl)|(intro i h;cases h<;>exact ⟨rfl,rfl⟩)|(intro n i h;cases h)
def td9:TD UU:={ has:=true,agg:=false,cells:=1,bytes:=16,code:=some TI.str,isStr:=true,zero:=some [.str []] }
theorem td9_ok:Facts CC Tryz.prog 9 td9:=by constructor<;>first|kernel_rfl|(intro N;kernel_rfl)|(intro i h;cases h<;>exact ⟨rfl,rfl⟩)|(intro n i h;cases h)
def td20:TD UU:={ has:=true,agg:=false,cells:=1,bytes:=16,isIfc:=true,zero:=some [.con .nilIface] }
theorem zQd:Facts CC Tryz.prog 20 td20:=by constructor<;>first|kernel_rfl|(intro N;kernel_rfl)|(intro i h;cases h<;>exact ⟨rfl,rfl⟩)|(intro n i h;cases h)
def td24:TD UU:={ has:=true,agg:=false,cells:=1,bytes:=24,el:=some 26,zero:=some [.nil] }
theorem zQc:Facts CC Tryz.prog 24 td24:=by constructor<;>first|kernel_rfl|(intro N;kernel_rfl)|(intro i h;cases h<;>exact ⟨rfl,rfl⟩)|(intro n i h;cases h)
def td26:TD UU:={ has:=true,agg:=true,cells:=6,bytes:=56,code:=some TI.tok,flds:=[(0,3),(1,9),(2,3),(3,3),(4,3),(5,4)],isStruct:=true,zero:=some [.int .i64 0,.str [],.int .i64 0,.int .i64 0,.int .i64 0,.bool false] }
theorem zQb:Facts CC Tryz.prog 26 td26:=by constructor<;>first|kernel_rfl|(intro N;kernel_rfl)|(intro i h;cases h<;>exact ⟨rfl,rfl⟩)|(intro n i h;cases h)
def td27:TD UU:={ has:=true,agg:=false,cells:=1,bytes:=24,el:=some 29,zero:=some [.nil] }
theorem zRI:Facts CC Tryz.prog 27 td27:=by constructor<;>first|kernel_rfl|(intro N;kernel_rfl)|(intro i h;cases h<;>exact ⟨rfl,rfl⟩)|(intro n i h;cases h)
def td29:TD UU:={ has:=true,agg:=true,cells:=3,bytes:=40,code:=some TI.node,flds:=[(0,3),(1,3),(2,27)],isStruct:=true,zero:=some [.int .i64 0,.int .i64 0,.nil] }
theorem zPy:Facts CC Tryz.prog 29 td29:=by constructor<;>first|kernel_rfl|(intro N;kernel_rfl)|(intro i h;cases h<;>exact ⟨rfl,rfl⟩)|(intro n i h;cases h)
def td30:TD UU:={ has:=true,agg:=false,cells:=1,bytes:=8,code:=some TI.int,ik:=some .i64,zero:=some [.int .i64 0] }
theorem zRU:Facts CC Tryz.prog 30 td30:=by constructor<;>first|kernel_rfl|(intro N;kernel_rfl)|(intro i h;cases h<;>exact ⟨rfl,rfl⟩)|(intro n i h;cases h)
def td44:TD UU:={ has:=true,agg:=false,cells:=1,bytes:=24,el:=some 47,zero:=some [.nil] }
theorem zQm:Facts CC Tryz.prog 44 td44:=by constructor<;>first|kernel_rfl|(intro N;kernel_rfl)|(intro i h;cases h<;>exact ⟨rfl,rfl⟩)|(intro n i h;cases h)
def td47:TD UU:={ has:=true,agg:=true,cells:=2,bytes:=16,code:=some TI.bind,flds:=[(0,3),(1,3)],isStruct:=true,zero:=some [.int .i64 0,.int .i64 0] }
theorem zRS:Facts CC Tryz.prog 47 td47:=by constructor<;>first|kernel_rfl|(intro N;kernel_rfl)|(intro i h;cases h<;>exact ⟨rfl,rfl⟩)|(intro n i h;cases h)
def td49:TD UU:={ has:=true,agg:=false,cells:=1,bytes:=24,el:=some 3,zero:=some [.nil] }
theorem zRk:Facts CC Tryz.prog 49 td49:=by constructor<;>first|kernel_rfl|(intro N;kernel_rfl)|(intro i h;cases h<;>exact ⟨rfl,rfl⟩)|(intro n i h;cases h)
def td57:TD UU:={ has:=true,agg:=false,cells:=1,bytes:=24,el:=some 9,zero:=some [.nil] }
theorem zQQ:Facts CC Tryz.prog 57 td57:=by constructor<;>first|kernel_rfl|(intro N;kernel_rfl)|(intro i h;cases h<;>exact ⟨rfl,rfl⟩)|(intro n i h;cases h)
def td58:TD UU:={ has:=true,agg:=true,cells:=33,bytes:=528,zero:=some [.str [],.str [],.str [],.str [],.str [],.str [],.str [],.str [],.str [],.str [],.str [],.str [],.str [],.str [],.str [],.str [],.str [],.str [],.str [],.str [],.str [],.str [],.str [],.str [],.str [],.str [],.str [],.str [],.str [],.str [],.str [],.str [],.str []],arr:=some (33,TI.str) }
set_option maxRecDepth 100000 in
theorem zPo:Facts CC Tryz.prog 58 td58:=⟨by kernel_rfl,by kernel_rfl,by kernel_rfl,by kernel_rfl,by kernel_rfl,by kernel_rfl,by kernel_rfl,by kernel_rfl,by kernel_rfl,by kernel_rfl,by kernel_rfl,fun N=>by kernel_rfl,fun i h=>(by first | (injection h with h; subst h; exact ⟨rfl,rfl⟩) | cases h),fun n i h=>(by injection h with h; injection h with h _; subst h; kernel_rfl)⟩
def td61:TD UU:={ has:=true,agg:=true,cells:=0,bytes:=0,flds:=[],isStruct:=true,zero:=some [] }
theorem zQ6:Facts CC Tryz.prog 61 td61:=by constructor<;>first|kernel_rfl|(intro N;kernel_rfl)|(intro i h;cases h<;>exact ⟨rfl,rfl⟩)|(intro n i h;cases h)
def td62:TD UU:={ has:=true,agg:=false,cells:=1,bytes:=8,zero:=some [.con (.pointer none)] }
theorem zQA:Facts CC Tryz.prog 62 td62:=by constructor<;>first|kernel_rfl|(intro N;kernel_rfl)|(intro i h;cases h<;>exact ⟨rfl,rfl⟩)|(intro n i h;cases h)
def td63:TD UU:={ has:=true,agg:=false,cells:=1,bytes:=8,zero:=some [.con (.map none)] }
theorem zPl:Facts CC Tryz.prog 63 td63:=by constructor<;>first|kernel_rfl|(intro N;kernel_rfl)|(intro i h;cases h<;>exact ⟨rfl,rfl⟩)|(intro n i h;cases h)
def td64:TD UU:={ has:=true,agg:=false,cells:=1,bytes:=24,el:=some 63,zero:=some [.nil] }
theorem zPb:Facts CC Tryz.prog 64 td64:=by constructor<;>first|kernel_rfl|(intro N;kernel_rfl)|(intro i h;cases h<;>exact ⟨rfl,rfl⟩)|(intro n i h;cases h)
def td66:TD UU:={ has:=true,agg:=true,cells:=4,bytes:=64,flds:=[(0,24),(1,3),(2,64),(3,63)],isStruct:=true,zero:=some [.nil,.int .i64 0,.nil,.con (.map none)] }
theorem zQY:Facts CC Tryz.prog 66 td66:=by constructor<;>first|kernel_rfl|(intro N;kernel_rfl)|(intro i h;cases h<;>exact ⟨rfl,rfl⟩)|(intro n i h;cases h)
def td68:TD UU:={ has:=true,agg:=true,cells:=1,bytes:=24,flds:=[(0,27)],isStruct:=true,zero:=some [.nil] }
theorem zQC:Facts CC Tryz.prog 68 td68:=by constructor<;>first|kernel_rfl|(intro N;kernel_rfl)|(intro i h;cases h<;>exact ⟨rfl,rfl⟩)|(intro n i h;cases h)
def td76:TD UU:={ has:=true,agg:=false,cells:=1,bytes:=8,zero:=some [.con (.pointer none)] }
theorem zQM:Facts CC Tryz.prog 76 td76:=by constructor<;>first|kernel_rfl|(intro N;kernel_rfl)|(intro i h;cases h<;>exact ⟨rfl,rfl⟩)|(intro n i h;cases h)
def td77:TD UU:={ has:=true,agg:=false,cells:=1,bytes:=8,zero:=some [.con (.pointer none)] }
theorem zQK:Facts CC Tryz.prog 77 td77:=by constructor<;>first|kernel_rfl|(intro N;kernel_rfl)|(intro i h;cases h<;>exact ⟨rfl,rfl⟩)|(intro n i h;cases h)
def td79:TD UU:={ has:=true,agg:=true,cells:=6,bytes:=80,flds:=[(0,24),(1,44),(2,77),(3,63),(4,63),(5,77)],isStruct:=true,zero:=some [.nil,.nil,.con (.pointer none),.con (.map none),.con (.map none),.con (.pointer none)] }
theorem zPn:Facts CC Tryz.prog 79 td79:=by constructor<;>first|kernel_rfl|(intro N;kernel_rfl)|(intro i h;cases h<;>exact ⟨rfl,rfl⟩)|(intro n i h;cases h)
def td88:TD UU:={ has:=true,agg:=false,cells:=1,bytes:=8,zero:=some [.con (.pointer none)] }
theorem zQx:Facts CC Tryz.prog 88 td88:=by constructor<;>first|kernel_rfl|(intro N;kernel_rfl)|(intro i h;cases h<;>exact ⟨rfl,rfl⟩)|(intro n i h;cases h)
def td99:TD UU:={ has:=true,agg:=false,cells:=1,bytes:=24,el:=some 108,zero:=some [.nil] }
theorem zPm:Facts CC Tryz.prog 99 td99:=by constructor<;>first|kernel_rfl|(intro N;kernel_rfl)|(intro i h;cases h<;>exact ⟨rfl,rfl⟩)|(intro n i h;cases h)
def td101:TD UU:={ has:=true,agg:=false,cells:=1,bytes:=8,zero:=some [.con (.pointer none)] }
theorem zOu:Facts CC Tryz.prog 101 td101:=by constructor<;>first|kernel_rfl|(intro N;kernel_rfl)|(intro i h;cases h<;>exact ⟨rfl,rfl⟩)|(intro n i h;cases h)
def td104:TD UU:={ has:=true,agg:=true,cells:=2,bytes:=24,flds:=[(0,9),(1,3)],isStruct:=true,zero:=some [.str [],.int .i64 0] }
theorem zPQ:Facts CC Tryz.prog 104 td104:=by constructor<;>first|kernel_rfl|(intro N;kernel_rfl)|(intro i h;cases h<;>exact ⟨rfl,rfl⟩)|(intro n i h;cases h)
def td108:TD UU:={ has:=true,agg:=true,cells:=2,bytes:=16,code:=some TI.char,flds:=[(0,5),(1,3)],isStruct:=true,zero:=some [.int .u8 0,.int .i64 0] }
theorem zPS:Facts CC Tryz.prog 108 td108:=by constructor<;>first|kernel_rfl|(intro N;kernel_rfl)|(intro i h;cases h<;>exact ⟨rfl,rfl⟩)|(intro n i h;cases h)
def td109:TD UU:={ has:=true,agg:=false,cells:=1,bytes:=8,ik:=some .u64,zero:=some [.int .u64 0] }
theorem zPT:Facts CC Tryz.prog 109 td109:=by constructor<;>first|kernel_rfl|(intro N;kernel_rfl)|(intro i h;cases h<;>exact ⟨rfl,rfl⟩)|(intro n i h;cases h)
def td114:TD UU:={ has:=true,agg:=true,cells:=2,bytes:=16,flds:=[(0,63),(1,63)],isStruct:=true,zero:=some [.con (.map none),.con (.map none)] }
theorem zOS:Facts CC Tryz.prog 114 td114:=by constructor<;>first|kernel_rfl|(intro N;kernel_rfl)|(intro i h;cases h<;>exact ⟨rfl,rfl⟩)|(intro n i h;cases h)
def td116:TD UU:={ has:=true,agg:=true,cells:=3,bytes:=24,flds:=[(0,114),(2,77)],isStruct:=true,zero:=some [.con (.map none),.con (.map none),.con (.pointer none)] }
theorem zOb:Facts CC Tryz.prog 116 td116:=by constructor<;>first|kernel_rfl|(intro N;kernel_rfl)|(intro i h;cases h<;>exact ⟨rfl,rfl⟩)|(intro n i h;cases h)
def td118:TD UU:={ has:=true,agg:=true,cells:=8,bytes:=128,zero:=some [.str [],.str [],.str [],.str [],.str [],.str [],.str [],.str []],arr:=some (8,TI.str) }
set_option maxRecDepth 100000 in
theorem zOO:Facts CC Tryz.prog 118 td118:=⟨by kernel_rfl,by kernel_rfl,by kernel_rfl,by kernel_rfl,by kernel_rfl,by kernel_rfl,by kernel_rfl,by kernel_rfl,by kernel_rfl,by kernel_rfl,by kernel_rfl,fun N=>by kernel_rfl,fun i h=>(by first | (injection h with h; subst h; exact ⟨rfl,rfl⟩) | cases h),fun n i h=>(by injection h with h; injection h with h _; subst h; kernel_rfl)⟩
def td119:TD UU:={ has:=true,agg:=true,cells:=9,bytes:=144,zero:=some [.str [],.str [],.str [],.str [],.str [],.str [],.str [],.str [],.str []],arr:=some (9,TI.str) }
set_option maxRecDepth 100000 in
theorem zOk:Facts CC Tryz.prog 119 td119:=⟨by kernel_rfl,by kernel_rfl,by kernel_rfl,by kernel_rfl,by kernel_rfl,by kernel_rfl,by kernel_rfl,by kernel_rfl,by kernel_rfl,by kernel_rfl,by kernel_rfl,fun N=>by kernel_rfl,fun i h=>(by first | (injection h with h; subst h; exact ⟨rfl,rfl⟩) | cases h),fun n i h=>(by injection h with h; injection h with h _; subst h; kernel_rfl)⟩
def td125:TD UU:={ has:=true,agg:=false,cells:=1,bytes:=24,el:=some 5,zero:=some [.nil] }
theorem zOp:Facts CC Tryz.prog 125 td125:=by constructor<;>first|kernel_rfl|(intro N;kernel_rfl)|(intro i h;cases h<;>exact ⟨rfl,rfl⟩)|(intro n i h;cases h)
def td146:TD UU:={ has:=true,agg:=true,cells:=48,bytes:=768,zero:=some [.str [],.str [],.str [],.str [],.str [],.str [],.str [],.str [],.str [],.str [],.str [],.str [],.str [],.str [],.str [],.str [],.str [],.str [],.str [],.str [],.str [],.str [],.str [],.str [],.str [],.str [],.str [],.str [],.str [],.str [],.str [],.str [],.str [],.str [],.str [],.str [],.str [],.str [],.str [],.str [],.str [],.str [],.str [],.str [],.str [],.str [],.str [],.str []],arr:=some (48,TI.str) }
set_option maxRecDepth 100000 in
theorem zOt:Facts CC Tryz.prog 146 td146:=⟨by kernel_rfl,by kernel_rfl,by kernel_rfl,by kernel_rfl,by kernel_rfl,by kernel_rfl,by kernel_rfl,by kernel_rfl,by kernel_rfl,by kernel_rfl,by kernel_rfl,fun N=>by kernel_rfl,fun i h=>(by first | (injection h with h; subst h; exact ⟨rfl,rfl⟩) | cases h),fun n i h=>(by injection h with h; injection h with h _; subst h; kernel_rfl)⟩
def tdL:List (Nat×TD UU):=[(3,td3),(4,td4),(5,td5),(9,td9),(20,td20),(24,td24),(26,td26),(27,td27),(29,td29),(30,td30),(44,td44),(47,td47),(49,td49),(57,td57),(58,td58),(61,td61),(62,td62),(63,td63),(64,td64),(66,td66),(68,td68),(76,td76),(77,td77),(79,td79),(88,td88),(99,td99),(101,td101),(104,td104),(108,td108),(109,td109),(114,td114),(116,td116),(118,td118),(119,td119),(125,td125),(146,td146)]
def Tb:Nat->TD UU:=zGB tdL
theorem yo:TbOk CC Tryz.prog Tb:=zJX (by
 intro p hp
 simp only [tdL,List.mem_cons,List.not_mem_nil,or_false] at hp
 rcases hp with rfl | rfl | rfl | rfl | rfl | rfl | rfl | rfl | rfl | rfl | rfl | rfl | rfl | rfl | rfl | rfl | rfl | rfl | rfl | rfl | rfl | rfl | rfl | rfl | rfl | rfl | rfl | rfl | rfl | rfl | rfl | rfl | rfl | rfl | rfl | rfl
 · exact td3_ok
 · exact td4_ok
 · exact td5_ok
 · exact td9_ok
 · exact zQd
 · exact zQc
 · exact zQb
 · exact zRI
 · exact zPy
 · exact zRU
 · exact zQm
 · exact zRS
 · exact zRk
 · exact zQQ
 · exact zPo
 · exact zQ6
 · exact zQA
 · exact zPl
 · exact zPb
 · exact zQY
 · exact zQC
 · exact zQM
 · exact zQK
 · exact zPn
 · exact zQx
 · exact zPm
 · exact zOu
 · exact zPQ
 · exact zPS
 · exact zPT
 · exact zOS
 · exact zOb
 · exact zOO
 · exact zOk
 · exact zOp
 · exact zOt)
end
end Go.Proofs.YtnamdpbcpnnhaaaGreatDoor
section
namespace Go.Den
def zf (l:List (Nat×List (Nat×Nat×Nat))) (n:Nat):List (Nat×Nat×Nat):=(zB l n).getD []
end Go.Den
namespace Go.Proofs.YtnamdpbcpnnhaaaGreatDoor
open Go.Al Go.Den
abbrev PSt:=Int×List MT
abbrev MM (α:Type):=List TokT->PSt->Option (Option (α×PSt))
abbrev LK:=List (SK UU)
abbrev Str:=List UInt8
abbrev NdsT:=List Nd×Unit
def ndE (x:Nd):Nd:=Nd.mk (Nd.kind x) (Nd.tok x) (Nd.kids x)
theorem zg (x:Nd):ndE x=x:=by cases x; rfl
abbrev parK:SK UU:=.box [.dl TI.tok,.int .i64,.scs,.jm]
abbrev parL:SK UU:=.box [.dl TI.tok,.int .i64,.scs,.mpo]
abbrev ptsK:SK UU:=.box [.ow true TI.node]
def syn:List PanicEntry:=[{ v:=.iface 61 (.agg #[]),recovered:=false }]
abbrev ParT:=List TokT×Int×List MT×Unit×Unit
abbrev k0:LK:=[]
abbrev kN:LK:=[.st TI.node]
abbrev kB:LK:=[.bool]
abbrev kS:LK:=[.str]
abbrev kI:LK:=[.int .i64]
abbrev kL:LK:=[.dl TI.str]
abbrev kM:LK:=[.mpo]
abbrev CQ:=CPOk CC Tryz.prog syn
abbrev JT:=Int×(Int×NdsT)
abbrev LT:=List TokT
abbrev ck {ρ:Type} (n:Nat) (x:Option ρ):Option ρ:=cond (okN 40 n) x none
abbrev bo {α ρ:Type} (x:Option (Option α)) (f:α->Option (Option ρ)):Option (Option ρ):=Option.bind x fun o=>zJ o (some none) f
abbrev zBM:=List TokT×Int×List MT×Option MT×Unit
def fM {aa rs:List (SK UU)} (m:zA aa->MM (zA rs)) {R:Type} (x:ParT×Unit) (a:zA aa) (pan:Option R) (K:ParT×Unit->zA rs->Option R):Option R:=
 Option.bind (m a x.1.1 (x.1.2.1,x.1.2.2.1)) fun o=>zJ o pan fun y=>K ((x.1.1,y.2.1,y.2.2,(),()),()) y.1
abbrev cM (aa rs:List (SK UU)) (m:zA aa->MM (zA rs)):CP UU:=⟨[parK],[parK],aa,rs,fun x a pan K=>fM m x a pan K⟩
def fX {aa rs:List (SK UU)} (m:zA aa->List Nd->MM (zA rs×List Nd)) {R:Type} (x:ParT×(List Nd×Unit)×Unit) (a:zA aa) (pan:Option R) (K:ParT×(List Nd×Unit)×Unit->zA rs->Option R):Option R:=
 Option.bind (m a x.2.1.1 x.1.1 (x.1.2.1,x.1.2.2.1)) fun o=>zJ o pan fun y=>K ((x.1.1,y.2.1,y.2.2,(),()),(y.1.2,()),()) y.1.1
abbrev cX (aa rs:List (SK UU)) (m:zA aa->List Nd->MM (zA rs×List Nd)):CP UU:=⟨[parK,ptsK],[parK,ptsK],aa,rs,fun x a pan K=>fX m x a pan K⟩
def fL {aa rs:List (SK UU)} (m:zA aa->MM (zA rs×Option MT)) {R:Type} (x:ParT×Unit) (a:zA aa) (pan:Option R) (K:zBM×Unit->zA rs->Option R):Option R:=
 Option.bind (m a x.1.1 (x.1.2.1,x.1.2.2.1)) fun o=>zJ o pan fun y=>K ((x.1.1,y.2.1,y.2.2,y.1.2,()),()) y.1.1
abbrev cL (aa rs:List (SK UU)) (m:zA aa->MM (zA rs×Option MT)):CP UU:=⟨[parK],[parL],aa,rs,fun x a pan K=>fL m x a pan K⟩
def fLj {aa rs:List (SK UU)} (m:zA aa->MM (zA rs×Option MT)) {R:Type} (x:ParT×Unit) (a:zA aa) (pan:Option R) (K:ParT×Unit->zA rs->Option R):Option R:=
 Option.bind (m a x.1.1 (x.1.2.1,x.1.2.2.1)) fun o=>zJ o pan fun y=>K ((x.1.1,y.2.1,y.2.2,(),()),()) y.1.1
abbrev cLj (aa rs:List (SK UU)) (m:zA aa->MM (zA rs×Option MT)):CP UU:=⟨[parK],[parK],aa,rs,fun x a pan K=>fLj m x a pan K⟩
abbrev parJ:SK UU:=.box [.dl TI.tok,.int .i64,.scs,.mpj]
abbrev xl:=List TokT×Int×List MT×Option (Option MT)×Unit
def fJ {aa rs:List (SK UU)} (m:zA aa->MM (zA rs)) {R:Type} (x:xl×Unit) (a:zA aa) (pan:Option R) (K:xl×Unit->zA rs->Option R):Option R:=
 Option.bind (m a x.1.1 (x.1.2.1,x.1.2.2.1)) fun o=>zJ o pan fun y=>K ((x.1.1,y.2.1,y.2.2,x.1.2.2.2.1,()),()) y.1
abbrev cJ (aa rs:List (SK UU)) (m:zA aa->MM (zA rs)):CP UU:=⟨[parJ],[parJ],aa,rs,fun x a pan K=>fJ m x a pan K⟩
def fN {aa rs:List (SK UU)} (m:zA aa->MM (zA rs×Option (Option MT))) {R:Type} (x:ParT×Unit) (a:zA aa) (pan:Option R) (K:xl×Unit->zA rs->Option R):Option R:=
 Option.bind (m a x.1.1 (x.1.2.1,x.1.2.2.1)) fun o=>zJ o pan fun y=>K ((x.1.1,y.2.1,y.2.2,y.1.2,()),()) y.1.1
abbrev cN (aa rs:List (SK UU)) (m:zA aa->MM (zA rs×Option (Option MT))):CP UU:=⟨[parK],[parJ],aa,rs,fun x a pan K=>fN m x a pan K⟩
def fNj {aa rs:List (SK UU)} (m:zA aa->MM (zA rs×Option (Option MT))) {R:Type} (x:ParT×Unit) (a:zA aa) (pan:Option R) (K:ParT×Unit->zA rs->Option R):Option R:=
 Option.bind (m a x.1.1 (x.1.2.1,x.1.2.2.1)) fun o=>zJ o pan fun y=>K ((x.1.1,y.2.1,y.2.2,(),()),()) y.1.1
abbrev cNj (aa rs:List (SK UU)) (m:zA aa->MM (zA rs×Option (Option MT))):CP UU:=⟨[parK],[parK],aa,rs,fun x a pan K=>fNj m x a pan K⟩
abbrev zAO:CP UU:=⟨[],[],[.bool],[],fun x a pan K=>cond (show Bool×Unit from a).1 (K () ()) pan⟩
abbrev jg:CR UU:=⟨[ptsK,.int .i64],[.st TI.node],fun x K=>K (Nd.mk (show (List Nd×Unit)×Int×Unit from x).2.1 0 (show (List Nd×Unit)×Int×Unit from x).1.1,())⟩
abbrev rdK:SK UU:=.box [.str,.int .i64]
abbrev RdT:=Str×Int×Unit
abbrev DD (α:Type):=Str->Int->Option (α×Int)
def fD {aa rs:List (SK UU)} (m:zA aa->DD (zA rs)) {R:Type} (x:RdT×Unit) (a:zA aa) (K:RdT×Unit->zA rs->Option R):Option R:=
 Option.bind (m a x.1.1 x.1.2.1) fun y=>K ((x.1.1,y.2,()),()) y.1
abbrev cD (aa rs:List (SK UU)) (m:zA aa->DD (zA rs)):CP UU:=⟨[rdK],[rdK],aa,rs,fun x a _ K=>fD m x a K⟩
def fRD {aa rs:List (SK UU)} (m:zA aa->Str->Int->Option (zA rs)) {R:Type} (x:RdT×zA aa) (K:zA rs->Option R):Option R:=
 Option.bind (m x.2 x.1.1 x.1.2.1) fun y=>K y
abbrev cRD (aa rs:List (SK UU)) (m:zA aa->Str->Int->Option (zA rs)):CR UU:=⟨rdK::aa,rs,fun x K=>fRD m x K⟩
end Go.Proofs.YtnamdpbcpnnhaaaGreatDoor
end
namespace Go.Proofs.YtnamdpbcpnnhaaaGreatDoor
section
open Go.Al Go.Den
abbrev as15:List (AK UU):=[.str]
abbrev rs15:List (AK UU):=[.bool]
abbrev as33:List (AK UU):=[.dl TI.str,.str]
abbrev rs33:List (AK UU):=[.bool]
def kf40:Nat->List Nat
 | 0=>[0,2]
 | 1=>[2]
 | _=>[]
def hd40:List (Nat×Head UU):=[]
def jn40:List (Nat×Head UU):=[]
noncomputable def fd40:FD UU:=⟨⟨fun d=>hasN [] d,fun d=>hasN [] d,kf40,zB hd40,zB jn40,zf []⟩,zV Tryz.f40,5,[.cell 2 29]⟩
def kf54:Nat->List Nat
 | 0=>[0,1]
 | 1=>[0,1,5]
 | 2=>[0,4]
 | _=>[]
def hd54:List (Nat×Head UU):=[]
def jn54:List (Nat×Head UU):=[]
noncomputable def fd54:FD UU:=⟨⟨fun d=>hasN [] d,fun d=>hasN [] d,kf54,zB hd54,zB jn54,zf []⟩,zV Tryz.f54,15,[.tmp 4]⟩
def kf72:Nat->List Nat
 | 0=>[0,1]
 | 1=>[0,1,17]
 | 2=>[0,4]
 | 3=>[0,5]
 | 4=>[0,5,37]
 | 5=>[0,4]
 | 6=>[0,4]
 | _=>[]
def hd72:List (Nat×Head UU):=[]
def jn72:List (Nat×Head UU):=[]
noncomputable def fd72:FD UU:=⟨⟨fun d=>hasN [] d,fun d=>hasN [] d,kf72,zB hd72,zB jn72,zf []⟩,zV Tryz.f72,40,[.tmp 4]⟩
def kf73:Nat->List Nat
 | 0=>[0,2]
 | 1=>[0,2]
 | 2=>[0,2]
 | 3=>[0,2]
 | _=>[]
def hd73:List (Nat×Head UU):=[]
def jn73:List (Nat×Head UU):=[]
noncomputable def fd73:FD UU:=⟨⟨fun d=>hasN [] d,fun d=>hasN [] d,kf73,zB hd73,zB jn73,zf []⟩,zV Tryz.f73,27,[.cell 2 29]⟩
def kf78:Nat->List Nat
 | 0=>[0,1,4]
 | 1=>[0,4]
 | 2=>[0,4]
 | _=>[]
def hd78:List (Nat×Head UU):=[]
def jn78:List (Nat×Head UU):=[]
noncomputable def fd78:FD UU:=⟨⟨fun d=>hasN [] d,fun d=>hasN [] d,kf78,zB hd78,zB jn78,zf []⟩,zV Tryz.f78,12,[.cell 4 29]⟩
def kf80:Nat->List Nat
 | 0=>[0,2]
 | 1=>[0,2]
 | 2=>[0,2]
 | _=>[]
def hd80:List (Nat×Head UU):=[]
def jn80:List (Nat×Head UU):=[]
noncomputable def fd80:FD UU:=⟨⟨fun d=>hasN [] d,fun d=>hasN [] d,kf80,zB hd80,zB jn80,zf []⟩,zV Tryz.f80,8,[.cell 2 29]⟩
def kf84:Nat->List Nat
 | 0=>[0,1]
 | 1=>[0,1,5]
 | 2=>[0,4]
 | _=>[]
def hd84:List (Nat×Head UU):=[]
def jn84:List (Nat×Head UU):=[]
noncomputable def fd84:FD UU:=⟨⟨fun d=>hasN [] d,fun d=>hasN [] d,kf84,zB hd84,zB jn84,zf []⟩,zV Tryz.f84,34,[.tmp 4]⟩
def kf85:Nat->List Nat
 | 0=>[0,1]
 | 1=>[0,4]
 | _=>[]
def hd85:List (Nat×Head UU):=[]
def jn85:List (Nat×Head UU):=[]
noncomputable def fd85:FD UU:=⟨⟨fun d=>hasN [] d,fun d=>hasN [] d,kf85,zB hd85,zB jn85,zf []⟩,zV Tryz.f85,50,[.tmp 4]⟩
def kf112:Nat->List Nat
 | 0=>[0,1]
 | 1=>[0,4]
 | _=>[]
def hd112:List (Nat×Head UU):=[]
def jn112:List (Nat×Head UU):=[]
noncomputable def fd112:FD UU:=⟨⟨fun d=>hasN [] d,fun d=>hasN [] d,kf112,zB hd112,zB jn112,zf []⟩,zV Tryz.f112,30,[.tmp 4]⟩
noncomputable def run72 (fu:Nat) (x:zA [parJ]) (a:zA ([.int .i64]:LK)):Option (Option (zA [parJ]×zA ([.str]:LK))):=
 runP CC Tb fu 2 (zB []) (zB []) (zB []) (zB []) fd72 [parJ] [parJ] ([.int .i64]:LK) ([.str]:LK) x a
theorem fdok72:FDOk Tryz.prog (hasN []) (hasN []) 72 fd72:=⟨⟨Tryz.f72,Tryz.func72,by kernel_rfl,Tryz.ntmps72,Tryz.results72⟩,by kernel_rfl,by kernel_rfl,by kernel_rfl⟩
noncomputable def run54 (fu:Nat) (c33:List (List UInt8)×List UInt8×Unit->Option (Bool×Unit)) (c72:zA ([.int .i64]:LK)->MM (zA ([.str]:LK))) (x:zA [parJ]) (a:zA ([.dl TI.str]:LK)):Option (Option (zA [parJ]×zA ([.bool]:LK))):=
 runP CC Tb fu 2 (zB []) (zB [(33,(⟨as33,rs33,c33⟩:Con UU))]) (zB []) (zB [(72,cJ ([.int .i64]:LK) ([.str]:LK) c72)]) fd54 [parJ] [parJ] ([.dl TI.str]:LK) ([.bool]:LK) x a
theorem fdok54:FDOk Tryz.prog (hasN [33]) (hasN []) 54 fd54:=⟨⟨Tryz.f54,Tryz.func54,by kernel_rfl,Tryz.ntmps54,Tryz.results54⟩,by kernel_rfl,by kernel_rfl,by kernel_rfl⟩
noncomputable def run85 (fu:Nat) (c15:List UInt8×Unit->Option (Bool×Unit)) (x:zA [parK]) (a:zA ([.int .i64]:LK)):Option (Option (zA [parK]×zA ([.bool]:LK))):=
 runP CC Tb fu 2 (zB []) (zB [(15,(⟨as15,rs15,c15⟩:Con UU))]) (zB []) (zB []) fd85 [parK] [parK] ([.int .i64]:LK) ([.bool]:LK) x a
theorem fdok85:FDOk Tryz.prog (hasN [15]) (hasN []) 85 fd85:=⟨⟨Tryz.f85,Tryz.func85,by kernel_rfl,Tryz.ntmps85,Tryz.results85⟩,by kernel_rfl,by kernel_rfl,by kernel_rfl⟩
noncomputable def run112 (fu:Nat) (x:zA [parK]) (a:zA ([.int .i64]:LK)):Option (Option (zA [parK]×zA ([.bool]:LK))):=
 runP CC Tb fu 2 (zB []) (zB []) (zB []) (zB []) fd112 [parK] [parK] ([.int .i64]:LK) ([.bool]:LK) x a
theorem zRB:FDOk Tryz.prog (hasN []) (hasN []) 112 fd112:=⟨⟨Tryz.f112,Tryz.func112,by kernel_rfl,Tryz.ntmps112,Tryz.results112⟩,by kernel_rfl,by kernel_rfl,by kernel_rfl⟩
noncomputable def run73 (fu:Nat) (x:zA [parK]) (a:zA ([]:LK)):Option (Option (zA [parK]×zA ([.st TI.node]:LK))):=
 runP CC Tb fu 3 (zB [(40,fd40)]) (zB []) (zB []) (zB [(77,zAO)]) fd73 [parK] [parK] ([]:LK) ([.st TI.node]:LK) x a
theorem fdok73:FDOk Tryz.prog (hasN []) (hasN []) 73 fd73:=⟨⟨Tryz.f73,Tryz.func73,by kernel_rfl,Tryz.ntmps73,Tryz.results73⟩,by kernel_rfl,by kernel_rfl,by kernel_rfl⟩
theorem zNJ:FDOk Tryz.prog (hasN []) (hasN []) 40 fd40:=⟨⟨Tryz.f40,Tryz.func40,by kernel_rfl,Tryz.ntmps40,Tryz.results40⟩,by kernel_rfl,by kernel_rfl,by kernel_rfl⟩
noncomputable def run78 (fu:Nat) (c54:zA ([.dl TI.str]:LK)->MM (zA ([.bool]:LK))) (c73:zA ([]:LK)->MM (zA ([.st TI.node]:LK))) (x:zA [parK]) (a:zA ([.str]:LK)):Option (Option (zA [parK]×zA ([.st TI.node]:LK))):=
 runP CC Tb fu 2 (zB []) (zB []) (zB []) (zB [(54,cJ ([.dl TI.str]:LK) ([.bool]:LK) c54),(73,cM ([]:LK) ([.st TI.node]:LK) c73),(77,zAO)]) fd78 [parK] [parK] ([.str]:LK) ([.st TI.node]:LK) x a
theorem fdok78:FDOk Tryz.prog (hasN []) (hasN []) 78 fd78:=⟨⟨Tryz.f78,Tryz.func78,by kernel_rfl,Tryz.ntmps78,Tryz.results78⟩,by kernel_rfl,by kernel_rfl,by kernel_rfl⟩
noncomputable def run80 (fu:Nat) (c73:zA ([]:LK)->MM (zA ([.st TI.node]:LK))) (c85:zA ([.int .i64]:LK)->MM (zA ([.bool]:LK))) (x:zA [parK]) (a:zA ([]:LK)):Option (Option (zA [parK]×zA ([.st TI.node]:LK))):=
 runP CC Tb fu 2 (zB []) (zB []) (zB []) (zB [(73,cM ([]:LK) ([.st TI.node]:LK) c73),(77,zAO),(85,cM ([.int .i64]:LK) ([.bool]:LK) c85)]) fd80 [parK] [parK] ([]:LK) ([.st TI.node]:LK) x a
theorem fdok80:FDOk Tryz.prog (hasN []) (hasN []) 80 fd80:=⟨⟨Tryz.f80,Tryz.func80,by kernel_rfl,Tryz.ntmps80,Tryz.results80⟩,by kernel_rfl,by kernel_rfl,by kernel_rfl⟩
noncomputable def run84 (fu:Nat) (c33:List (List UInt8)×List UInt8×Unit->Option (Bool×Unit)) (c72:zA ([.int .i64]:LK)->MM (zA ([.str]:LK))) (c76:zA ([.int .i64]:LK)->MM (zA ([.bool]:LK))) (x:zA [parK]) (a:zA ([.int .i64]:LK)):Option (Option (zA [parK]×zA ([.bool]:LK))):=
 runP CC Tb fu 2 (zB []) (zB [(33,(⟨as33,rs33,c33⟩:Con UU))]) (zB []) (zB [(72,cJ ([.int .i64]:LK) ([.str]:LK) c72),(76,cM ([.int .i64]:LK) ([.bool]:LK) c76)]) fd84 [parK] [parK] ([.int .i64]:LK) ([.bool]:LK) x a
theorem fdok84:FDOk Tryz.prog (hasN [33]) (hasN []) 84 fd84:=⟨⟨Tryz.f84,Tryz.func84,by kernel_rfl,Tryz.ntmps84,Tryz.results84⟩,by kernel_rfl,by kernel_rfl,by kernel_rfl⟩
end
section
open Go.Al Go.Den
instance:DecidableEq TokT:=fun a b=>
 if h:a.kind=b.kind/\a.text=b.text/\a.file=b.file/\a.ffrom=b.ffrom/\a.fto=b.fto/\a.blank=b.blank then
  isTrue (by obtain ⟨_,_,_,_,_,_⟩:=a; obtain ⟨_,_,_,_,_,_⟩:=b; simp only at h; obtain ⟨rfl,rfl,rfl,rfl,rfl,rfl⟩:=h; rfl)
 else isFalse fun e=>h (by subst e; exact ⟨rfl,rfl,rfl,rfl,rfl,rfl⟩)
theorem zB5 {P:Program} {f:Nat} {io oo aa rs:List (SK UU)} {sh:zA io->zA aa->Option (Option (zA oo×zA rs))} (h:CPOk CC P syn f ⟨io,oo,aa,rs,fnP sh⟩) (x:zA io) (a:zA aa) (oc:Option (zA oo×zA rs)) (hx:sh x a=some oc) :
 ∀ s vx va r1 r2,VKs CC s io x vx r1->VKs CC s aa a va r2->(r1++r2).Nodup->FnC P f (vx++va) (subS s (r1++r2)) (ju CC syn oo rs vx oc):=by
 cases oc with
 | none=>
  obtain ⟨oc,h1,h2⟩:=h x a (R:=Unit) (some ()) (fun _ _=>none) () (by simp only [fnP,hx]; rfl)
  cases oc with
  | none=>exact h2
  | some y=>cases h1
 | some y=>
  obtain ⟨oc,h1,h2⟩:=h x a (R:=zA oo×zA rs) none (fun u v=>some (u,v)) y (by simp only [fnP,hx]; rfl)
  cases oc with
  | none=>cases h1
  | some y'=>
   injection h1 with h1
   have:y' = y:=h1
   subst this
   exact h2
def outM {β:Type} (l:List TokT):Option (Option ((ParT×Unit)×β))->Option (Option (β×PSt))
 | none=>none
 | some none=>some none
 | some (some y)=>if y.1.1.1=l then some (some (y.2,y.1.1.2.1,y.1.1.2.2.1)) else none
def outX {β:Type} (l:List TokT):Option (Option ((ParT×NdsT×Unit)×β))->Option (Option ((β×List Nd)×PSt))
 | none=>none
 | some none=>some none
 | some (some y)=>if y.1.1.1=l then some (some ((y.2,y.1.2.1.1),y.1.1.2.1,y.1.1.2.2.1)) else none
def outL {β:Type} (l:List TokT):Option (Option ((zBM×Unit)×β))->Option (Option ((β×Option MT)×PSt))
 | none=>none
 | some none=>some none
 | some (some y)=>if y.1.1.1=l then some (some ((y.2,y.1.1.2.2.2.1),y.1.1.2.1,y.1.1.2.2.1)) else none
noncomputable def mM {aa rs:LK} (sh:ParT×Unit->zA aa->Option (Option ((ParT×Unit)×zA rs))):zA aa->MM (zA rs):=fun a l s=>outM l (sh ((l,s.1,s.2,(),()),()) a)
noncomputable def mX {aa rs:LK} (sh:ParT×NdsT×Unit->zA aa->Option (Option ((ParT×NdsT×Unit)×zA rs))):zA aa->List Nd->MM (zA rs×List Nd):=fun a pts l s=>outX l (sh ((l,s.1,s.2,(),()),(pts,()),()) a)
noncomputable def mL {aa rs:LK} (sh:ParT×Unit->zA aa->Option (Option ((zBM×Unit)×zA rs))):zA aa->MM (zA rs×Option MT):=fun a l s=>outL l (sh ((l,s.1,s.2,(),()),()) a)
theorem zD3 {P:Program} {f:Nat} {aa rs:List (SK UU)} {m:zA aa->MM (zA rs)} (h:∀ l i xs a o,m a l (i,xs)=some o->∀ (st:S) vx va r1 r2,VKs CC st [parK] ((l,i,xs,(),()),()) vx r1->VKs CC st aa a va r2->(r1++r2).Nodup ->
 FnC P f (vx++va) (subS st (r1++r2)) (ju CC syn [parK] rs vx (o.map fun y=>(((l,y.2.1,y.2.2,(),()),()),y.1)))):CPOk CC P syn f (cM aa rs m):=by
 intro x a R pan K r hr
 obtain ⟨⟨l,i,xs,u,u'⟩,u''⟩:=x
 replace hr:fM m ((l,i,xs,u,u'),u'') a pan K=some r:=hr
 simp only [fM] at hr
 cases hm:m a l (i,xs) with
 | none=>rw [hm] at hr; cases hr
 | some o=>
  rw [hm] at hr
  refine ⟨_,?_,fun s vx va r1 r2 h1 h2 h3=>h l i xs a o hm s vx va r1 r2 h1 h2 h3⟩
  cases o <;> exact hr
theorem xF {P:Program} {f:Nat} {aa rs:LK} {sh:zA ([parK]:LK)->zA aa->Option (Option (zA ([parK]:LK)×zA rs))} (h:CPOk CC P syn f ⟨[parK],[parK],aa,rs,fnP sh⟩):CPOk CC P syn f (cM aa rs (mM sh)):=by
 refine zD3 fun l i xs a o ho st vx va r1 r2 h1 h2 hn=>?_
 have key:∀ oo:Option (Option ((ParT×Unit)×zA rs)),sh ((l,i,xs,(),()),()) a=oo->outM l oo=some o->FnC P f (vx++va) (subS st (r1++r2)) (ju CC syn [parK] rs vx (o.map fun y=>(((l,y.2.1,y.2.2,(),()),()),y.1))):=by
  intro oo hs ho
  cases oo with
  | none=>cases ho
  | some oc=>
   have hh:=zB5 h ((l,i,xs,(),()),()) a oc hs st vx va r1 r2 h1 h2 hn
   cases oc with
   | none=>injection ho with ho; subst ho; exact hh
   | some y=>
    obtain ⟨⟨⟨l',i',xs',u,u'⟩,u''⟩,z⟩:=y
    unfold outM at ho
    simp only at ho
    split at ho
    · rename_i hy
      injection ho with ho
      subst ho
      subst hy
      exact hh
    · cases ho
 exact key _ rfl ho
theorem zIM {P:Program} {f:Nat} {aa rs:LK} {sh:zA ([parK,ptsK]:LK)->zA aa->Option (Option (zA ([parK,ptsK]:LK)×zA rs))} (h:CPOk CC P syn f ⟨[parK,ptsK],[parK,ptsK],aa,rs,fnP sh⟩):CPOk CC P syn f (cX aa rs (mX sh)):=by
 intro x a R pan K r hr
 obtain ⟨⟨l,i,xs,u,u'⟩,⟨pts,v⟩,v'⟩:=x
 have key:∀ oo:Option (Option ((ParT×NdsT×Unit)×zA rs)),sh ((l,i,xs,(),()),(pts,()),()) a=oo->(Option.bind (outX l oo) fun o=>zJ o pan fun y=>K ((l,y.2.1,y.2.2,(),()),(y.1.2,()),()) y.1.1)=some r ->
  ∃ oc:Option (zA ([parK,ptsK]:LK)×zA rs),(match oc with | none=>pan=some r | some y=>K y.1 y.2=some r)/\∀ s vx va r1 r2,VKs CC s [parK,ptsK] ((l,i,xs,u,u'),(pts,v),v') vx r1->VKs CC s aa a va r2->(r1++r2).Nodup->FnC P f (vx++va) (subS s (r1++r2)) (ju CC syn [parK,ptsK] rs vx oc):=by
  intro oo hs hr
  cases oo with
  | none=>cases hr
  | some oc=>
   have hh:=zB5 h ((l,i,xs,(),()),(pts,()),()) a oc hs
   cases oc with
   | none=>exact ⟨none,hr,hh⟩
   | some y=>
    obtain ⟨⟨⟨l',i',xs',w,w'⟩,⟨pts',v1⟩,v2⟩,z⟩:=y
    unfold outX at hr
    simp only at hr
    split at hr
    · rename_i hy
      subst hy
      exact ⟨some (((l',i',xs',(),()),(pts',()),()),z),hr,hh⟩
    · cases hr
 obtain ⟨oc,h1,h2⟩:=key _ rfl hr
 exact ⟨oc,by cases oc <;> exact h1,h2⟩
theorem cL_of {P:Program} {f:Nat} {aa rs:LK} {sh:zA ([parK]:LK)->zA aa->Option (Option (zA ([parL]:LK)×zA rs))} (h:CPOk CC P syn f ⟨[parK],[parL],aa,rs,fnP sh⟩):CPOk CC P syn f (cL aa rs (mL sh)):=by
 intro x a R pan K r hr
 obtain ⟨⟨l,i,xs,u,u'⟩,u''⟩:=x
 have key:∀ oo:Option (Option ((zBM×Unit)×zA rs)),sh ((l,i,xs,(),()),()) a=oo->(Option.bind (outL l oo) fun o=>zJ o pan fun y=>K ((l,y.2.1,y.2.2,y.1.2,()),()) y.1.1)=some r ->
  ∃ oc:Option (zA ([parL]:LK)×zA rs),(match oc with | none=>pan=some r | some y=>K y.1 y.2=some r)/\∀ s vx va r1 r2,VKs CC s [parK] ((l,i,xs,u,u'),u'') vx r1->VKs CC s aa a va r2->(r1++r2).Nodup->FnC P f (vx++va) (subS s (r1++r2)) (ju CC syn [parL] rs vx oc):=by
  intro oo hs hr
  cases oo with
  | none=>cases hr
  | some oc=>
   have hh:=zB5 h ((l,i,xs,(),()),()) a oc hs
   cases oc with
   | none=>exact ⟨none,hr,hh⟩
   | some y=>
    obtain ⟨⟨⟨l',i',xs',m,w'⟩,v2⟩,z⟩:=y
    unfold outL at hr
    simp only at hr
    split at hr
    · rename_i hy
      subst hy
      exact ⟨some (((l',i',xs',m,()),()),z),hr,hh⟩
    · cases hr
 obtain ⟨oc,h1,h2⟩:=key _ rfl hr
 exact ⟨oc,by cases oc <;> exact h1,h2⟩
theorem cLj_of {P:Program} {f:Nat} {aa rs:LK} {m:zA aa->MM (zA rs×Option MT)} (h:CPOk CC P syn f (cL aa rs m)):CPOk CC P syn f (cLj aa rs m):=by
 intro x a R pan K r hr
 obtain ⟨oc,h1,h2⟩:=h x a (R:=R) pan (fun y z=>K ((y.1.1,y.1.2.1,y.1.2.2.1,(),()),()) z) r hr
 cases oc with
 | none=>exact ⟨none,h1,h2⟩
 | some y=>
  obtain ⟨⟨⟨l',i',xs',mm,w'⟩,v2⟩,z⟩:=y
  refine ⟨some (((l',i',xs',(),()),()),z),h1,fun s vx va r1 r2 k1 k2 k3=>?_⟩
  have hh:=h2 s vx va r1 r2 k1 k2 k3
  intro B g w vs hi hgl hv
  refine (hh B g w vs hi hgl hv).mono ?_
  rintro e w' ⟨g',s1,q1,q2,q3⟩
  cases e with
  | outgrown=>exact q3.elim
  | panicked c=>exact ⟨g',s1,q1,q2,q3⟩
  | returned v=>
   obtain ⟨ru,q4,q5⟩:=q3
   refine ⟨g',s1,q1,q2,ru,q4,?_⟩
   obtain ⟨ws,p1,p2,p3,p4,p5,p6⟩:=q5
   simp only [VKs,VK] at p3
   obtain ⟨v0,vs0,t1,t2,rfl,rfl,⟨b0,cs,t3,rfl,e1,e2,rfl⟩,rfl,rfl⟩:=p3
   obtain ⟨v1,w1,a1,a2,rfl,rfl,⟨rfl,rfl⟩,v2,w2,a3,a4,rfl,rfl,⟨rfl,rfl⟩,v3,w3,a5,a6,rfl,rfl,⟨b,cap,fp,rfl,e3,rfl⟩,v4,w4,a7,a8,rfl,rfl,e4,rfl,rfl⟩:=e2
   have hv4:∃ m,v4 = .at (.map m):=by
    cases mm with
    | none=>exact ⟨none,e4.1⟩
    | some c=>obtain ⟨bm,_,rfl,_⟩:=e4; exact ⟨some bm,rfl⟩
   refine ⟨ws,[.inr b0,.ob b],p2,?_,p4,?_,p6⟩
   · simp only [VKs,VK]
     exact ⟨_,[],_,[],rfl,rfl,⟨b0,_,[.ob b],rfl,e1,⟨_,_,[],[.ob b],rfl,rfl,⟨rfl,rfl⟩,_,_,[],[.ob b],rfl,rfl,⟨rfl,rfl⟩,_,_,[.ob b],[],rfl,rfl,⟨b,cap,fp,rfl,e3,rfl⟩,_,_,[],[],rfl,rfl,⟨hv4,rfl⟩,rfl,rfl⟩,rfl⟩,rfl,rfl⟩
   · simp only [List.nil_append,List.append_nil,List.cons_append] at p5 ⊢
     refine p5.sublist ?_
     refine List.Sublist.cons_cons _ (List.Sublist.cons_cons _ ?_)
     exact List.sublist_append_right a7 p2
def outN {β:Type} (l:List TokT):Option (Option ((xl×Unit)×β))->Option (Option ((β×Option (Option MT))×PSt))
 | none=>none
 | some none=>some none
 | some (some y)=>if y.1.1.1=l then some (some ((y.2,y.1.1.2.2.2.1),y.1.1.2.1,y.1.1.2.2.1)) else none
noncomputable def mN {aa rs:LK} (sh:ParT×Unit->zA aa->Option (Option ((xl×Unit)×zA rs))):zA aa->MM (zA rs×Option (Option MT)):=fun a l s=>outN l (sh ((l,s.1,s.2,(),()),()) a)
theorem cN_of {P:Program} {f:Nat} {aa rs:LK} {sh:zA ([parK]:LK)->zA aa->Option (Option (zA ([parJ]:LK)×zA rs))} (h:CPOk CC P syn f ⟨[parK],[parJ],aa,rs,fnP sh⟩):CPOk CC P syn f (cN aa rs (mN sh)):=by
 intro x a R pan K r hr
 obtain ⟨⟨l,i,xs,u,u'⟩,u''⟩:=x
 have key:∀ oo:Option (Option ((xl×Unit)×zA rs)),sh ((l,i,xs,(),()),()) a=oo->(Option.bind (outN l oo) fun o=>zJ o pan fun y=>K ((l,y.2.1,y.2.2,y.1.2,()),()) y.1.1)=some r ->
  ∃ oc:Option (zA ([parJ]:LK)×zA rs),(match oc with | none=>pan=some r | some y=>K y.1 y.2=some r)/\∀ s vx va r1 r2,VKs CC s [parK] ((l,i,xs,u,u'),u'') vx r1->VKs CC s aa a va r2->(r1++r2).Nodup->FnC P f (vx++va) (subS s (r1++r2)) (ju CC syn [parJ] rs vx oc):=by
  intro oo hs hr
  cases oo with
  | none=>cases hr
  | some oc=>
   have hh:=zB5 h ((l,i,xs,(),()),()) a oc hs
   cases oc with
   | none=>exact ⟨none,hr,hh⟩
   | some y=>
    obtain ⟨⟨⟨l',i',xs',m,w'⟩,v2⟩,z⟩:=y
    unfold outN at hr
    simp only at hr
    split at hr
    · rename_i hy
      subst hy
      exact ⟨some (((l',i',xs',m,()),()),z),hr,hh⟩
    · cases hr
 obtain ⟨oc,h1,h2⟩:=key _ rfl hr
 exact ⟨oc,by cases oc <;> exact h1,h2⟩
theorem cNj_of {P:Program} {f:Nat} {aa rs:LK} {m:zA aa->MM (zA rs×Option (Option MT))} (h:CPOk CC P syn f (cN aa rs m)):CPOk CC P syn f (cNj aa rs m):=by
 intro x a R pan K r hr
 obtain ⟨oc,h1,h2⟩:=h x a (R:=R) pan (fun y z=>K ((y.1.1,y.1.2.1,y.1.2.2.1,(),()),()) z) r hr
 cases oc with
 | none=>exact ⟨none,h1,h2⟩
 | some y=>
  obtain ⟨⟨⟨l',i',xs',mm,w'⟩,v2⟩,z⟩:=y
  refine ⟨some (((l',i',xs',(),()),()),z),h1,fun s vx va r1 r2 k1 k2 k3=>?_⟩
  have hh:=h2 s vx va r1 r2 k1 k2 k3
  intro B g w vs hi hgl hv
  refine (hh B g w vs hi hgl hv).mono ?_
  rintro e w' ⟨g',s1,q1,q2,q3⟩
  cases e with
  | outgrown=>exact q3.elim
  | panicked c=>exact ⟨g',s1,q1,q2,q3⟩
  | returned v=>
   obtain ⟨ru,q4,q5⟩:=q3
   refine ⟨g',s1,q1,q2,ru,q4,?_⟩
   obtain ⟨ws,p1,p2,p3,p4,p5,p6⟩:=q5
   simp only [VKs,VK] at p3
   obtain ⟨v0,vs0,t1,t2,rfl,rfl,⟨b0,cs,t3,rfl,e1,e2,rfl⟩,rfl,rfl⟩:=p3
   obtain ⟨v1,w1,a1,a2,rfl,rfl,⟨rfl,rfl⟩,v2,w2,a3,a4,rfl,rfl,⟨rfl,rfl⟩,v3,w3,a5,a6,rfl,rfl,⟨b,cap,fp,rfl,e3,rfl⟩,v4,w4,a7,a8,rfl,rfl,e4,rfl,rfl⟩:=e2
   have hv4:∃ m,v4 = .at (.map m):=by
    cases mm with
    | none=>exact e4.1
    | some mm=>
     cases mm with
     | none=>exact ⟨none,e4.1⟩
     | some c=>obtain ⟨bm,_,rfl,_⟩:=e4; exact ⟨some bm,rfl⟩
   refine ⟨ws,[.inr b0,.ob b],p2,?_,p4,?_,p6⟩
   · simp only [VKs,VK]
     exact ⟨_,[],_,[],rfl,rfl,⟨b0,_,[.ob b],rfl,e1,⟨_,_,[],[.ob b],rfl,rfl,⟨rfl,rfl⟩,_,_,[],[.ob b],rfl,rfl,⟨rfl,rfl⟩,_,_,[.ob b],[],rfl,rfl,⟨b,cap,fp,rfl,e3,rfl⟩,_,_,[],[],rfl,rfl,⟨hv4,rfl⟩,rfl,rfl⟩,rfl⟩,rfl,rfl⟩
   · simp only [List.nil_append,List.append_nil,List.cons_append] at p5 ⊢
     refine p5.sublist ?_
     refine List.Sublist.cons_cons _ (List.Sublist.cons_cons _ ?_)
     exact List.sublist_append_right a7 p2
def outJ {β:Type} (l:List TokT):Option (Option ((xl×Unit)×β))->Option (Option (β×PSt))
 | none=>none
 | some none=>some none
 | some (some y)=>if y.1.1.1=l then some (some (y.2,y.1.1.2.1,y.1.1.2.2.1)) else none
noncomputable def mJ {aa rs:LK} (sh:xl×Unit->zA aa->Option (Option ((xl×Unit)×zA rs))):zA aa->MM (zA rs):=fun a l s=>outJ l (sh ((l,s.1,s.2,none,()),()) a)
def putJ {β:Type} (m:Option (Option MT)) (o:Option (Option ((xl×Unit)×β))):Option (Option ((xl×Unit)×β)):=o.map fun o=>o.map fun y=>(((y.1.1.1,y.1.1.2.1,y.1.1.2.2.1,m,()),()),y.2)
section
variable {β γ:Type} (m:Option (Option MT))
theorem zMm:putJ m (none:Option (Option ((xl×Unit)×β)))=none:=rfl
theorem zPH:putJ m (some none:Option (Option ((xl×Unit)×β)))=some none:=rfl
theorem zNy (l:List TokT) (i:Int) (xs:List MT) (m':Option (Option MT)) (u u':Unit) (z:β):putJ m (some (some (((l,i,xs,m',u),u'),z)))=some (some (((l,i,xs,m,()),()),z)):=rfl
theorem zMo (b:Bool) (x y:Option (Option ((xl×Unit)×β))):putJ m (cond b x y)=cond b (putJ m x) (putJ m y):=by cases b <;> rfl
theorem zNL (o:Option γ) (f:γ->Option (Option ((xl×Unit)×β))):putJ m (Option.bind o f)=Option.bind o fun y=>putJ m (f y):=by cases o <;> rfl
theorem zLw (o:Option γ) (p:Option (Option ((xl×Unit)×β))) (f:γ->Option (Option ((xl×Unit)×β))):putJ m (zJ o p f)=zJ o (putJ m p) fun y=>putJ m (f y):=by cases o <;> rfl
theorem zX {R:Type} (p:R) (f:γ->R):zJ none p f=p:=rfl
theorem zY {R:Type} (x:γ) (p:R) (f:γ->R):zJ (some x) p f=f x:=rfl
end
theorem cJ_of {P:Program} {f:Nat} {aa rs:LK} {sh:zA ([parJ]:LK)->zA aa->Option (Option (zA ([parJ]:LK)×zA rs))} (h:CPOk CC P syn f ⟨[parJ],[parJ],aa,rs,fnP sh⟩)
 (hsh:∀ l i xs m a,sh ((l,i,xs,m,()),()) a=putJ m (sh ((l,i,xs,none,()),()) a)):CPOk CC P syn f (cJ aa rs (mJ sh)):=by
 intro x a R pan K r hr
 obtain ⟨⟨l,i,xs,m,u'⟩,u''⟩:=x
 have key:∀ oo:Option (Option ((xl×Unit)×zA rs)),sh ((l,i,xs,none,()),()) a=oo->(Option.bind (outJ l oo) fun o=>zJ o pan fun y=>K ((l,y.2.1,y.2.2,m,()),()) y.1)=some r ->
  ∃ oc:Option (zA ([parJ]:LK)×zA rs),(match oc with | none=>pan=some r | some y=>K y.1 y.2=some r)/\∀ s vx va r1 r2,VKs CC s [parJ] ((l,i,xs,m,u'),u'') vx r1->VKs CC s aa a va r2->(r1++r2).Nodup->FnC P f (vx++va) (subS s (r1++r2)) (ju CC syn [parJ] rs vx oc):=by
  intro oo hs hr
  have hm:=hsh l i xs m a
  rw [hs] at hm
  cases oo with
  | none=>cases hr
  | some oc=>
   cases oc with
   | none=>exact ⟨none,hr,zB5 h ((l,i,xs,m,()),()) a none hm⟩
   | some y=>
    obtain ⟨⟨⟨l',i',xs',m',w'⟩,v2⟩,z⟩:=y
    have hh:=zB5 h ((l,i,xs,m,()),()) a (some (((l',i',xs',m,()),()),z)) hm
    unfold outJ at hr
    simp only at hr
    split at hr
    · rename_i hy
      subst hy
      exact ⟨some (((l',i',xs',m,()),()),z),hr,hh⟩
    · cases hr
 obtain ⟨oc,h1,h2⟩:=key _ rfl hr
 exact ⟨oc,by cases oc <;> exact h1,h2⟩
def outD {β:Type} (l:Str):Option (Option ((RdT×Unit)×β))->Option (β×Int)
 | some (some y)=>if y.1.1.1=l then some (y.2,y.1.1.2.1) else none
 | _=>none
noncomputable def mD {aa rs:LK} (sh:RdT×Unit->zA aa->Option (Option ((RdT×Unit)×zA rs))):zA aa->DD (zA rs):=fun a l i=>outD l (sh ((l,i,()),()) a)
theorem zDM {P:Program} {f:Nat} {aa rs:LK} {sh:zA ([rdK]:LK)->zA aa->Option (Option (zA ([rdK]:LK)×zA rs))} (h:CPOk CC P syn f ⟨[rdK],[rdK],aa,rs,fnP sh⟩):CPOk CC P syn f (cD aa rs (mD sh)):=by
 intro x a R pan K r hr
 obtain ⟨⟨l,i,u⟩,u'⟩:=x
 have key:∀ oo:Option (Option ((RdT×Unit)×zA rs)),sh ((l,i,()),()) a=oo->(Option.bind (outD l oo) fun y=>K ((l,y.2,()),()) y.1)=some r ->
  ∃ oc:Option (zA ([rdK]:LK)×zA rs),(match oc with | none=>pan=some r | some y=>K y.1 y.2=some r)/\∀ s vx va r1 r2,VKs CC s [rdK] ((l,i,u),u') vx r1->VKs CC s aa a va r2->(r1++r2).Nodup->FnC P f (vx++va) (subS s (r1++r2)) (ju CC syn [rdK] rs vx oc):=by
  intro oo hs hr
  cases oo with
  | none=>cases hr
  | some oc=>
   have hh:=zB5 h ((l,i,()),()) a oc hs
   cases oc with
   | none=>cases hr
   | some y=>
    obtain ⟨⟨⟨l',i',w⟩,v2⟩,z⟩:=y
    unfold outD at hr
    simp only at hr
    split at hr
    · rename_i hy
      subst hy
      exact ⟨some (((l',i',()),()),z),hr,hh⟩
    · cases hr
 obtain ⟨oc,h1,h2⟩:=key _ rfl hr
 exact ⟨oc,by cases oc <;> exact h1,h2⟩
end
section
open Go.Al Go.Den
def sh72 (fu:Nat) (x:((LT×(Int×((List MT)×((Option (Option MT))×Unit))))×Unit)) (a:(Int×Unit)):(Option (Option (((LT×(Int×((List MT)×((Option (Option MT))×Unit))))×Unit)×(Str×Unit)))):=zJ x.1.2.2.2.1 (cond (ile (lenI x.1.1) (iadd .i64 x.1.2.1 a.1)) (some (some (((x.1.1,(x.1.2.1,(x.1.2.2.1,(none,())))),()),([],())))) (cond (inB (iadd .i64 x.1.2.1 a.1) (List.length x.1.1)) (cond (ine (TokT.kind (List.getD x.1.1 (Int.toNat (iadd .i64 x.1.2.1 a.1)) tokD)) 1) (cond (ine (TokT.kind (List.getD x.1.1 (Int.toNat (iadd .i64 x.1.2.1 a.1)) tokD)) 5) (some (some (((x.1.1,(x.1.2.1,(x.1.2.2.1,(none,())))),()),([],())))) (some (some (((x.1.1,(x.1.2.1,(x.1.2.2.1,(none,())))),()),((TokT.text (List.getD x.1.1 (Int.toNat (iadd .i64 x.1.2.1 a.1)) tokD)),()))))) (some (some (((x.1.1,(x.1.2.1,(x.1.2.2.1,(none,())))),()),((TokT.text (List.getD x.1.1 (Int.toNat (iadd .i64 x.1.2.1 a.1)) tokD)),()))))) (none))) fun y0=>zJ y0 (cond (ile (lenI x.1.1) (iadd .i64 x.1.2.1 a.1)) (some (some (((x.1.1,(x.1.2.1,(x.1.2.2.1,((some none),())))),()),([],())))) (cond (inB (iadd .i64 x.1.2.1 a.1) (List.length x.1.1)) (cond (ine (TokT.kind (List.getD x.1.1 (Int.toNat (iadd .i64 x.1.2.1 a.1)) tokD)) 1) (cond (ine (TokT.kind (List.getD x.1.1 (Int.toNat (iadd .i64 x.1.2.1 a.1)) tokD)) 5) (some (some (((x.1.1,(x.1.2.1,(x.1.2.2.1,((some none),())))),()),([],())))) (some (some (((x.1.1,(x.1.2.1,(x.1.2.2.1,((some none),())))),()),((TokT.text (List.getD x.1.1 (Int.toNat (iadd .i64 x.1.2.1 a.1)) tokD)),()))))) (some (some (((x.1.1,(x.1.2.1,(x.1.2.2.1,((some none),())))),()),((TokT.text (List.getD x.1.1 (Int.toNat (iadd .i64 x.1.2.1 a.1)) tokD)),()))))) (none))) fun y1=>cond (ile (lenI x.1.1) (iadd .i64 x.1.2.1 a.1)) (some (some (((x.1.1,(x.1.2.1,(x.1.2.2.1,((some (some y1)),())))),()),([],())))) (cond (inB (iadd .i64 x.1.2.1 a.1) (List.length x.1.1)) (cond (ine (TokT.kind (List.getD x.1.1 (Int.toNat (iadd .i64 x.1.2.1 a.1)) tokD)) 1) (cond (ine (TokT.kind (List.getD x.1.1 (Int.toNat (iadd .i64 x.1.2.1 a.1)) tokD)) 5) (some (some (((x.1.1,(x.1.2.1,(x.1.2.2.1,((some (some y1)),())))),()),([],())))) (some (some (((x.1.1,(x.1.2.1,(x.1.2.2.1,((some (some y1)),())))),()),((TokT.text (List.getD x.1.1 (Int.toNat (iadd .i64 x.1.2.1 a.1)) tokD)),()))))) (some (some (((x.1.1,(x.1.2.1,(x.1.2.2.1,((some (some y1)),())))),()),((TokT.text (List.getD x.1.1 (Int.toNat (iadd .i64 x.1.2.1 a.1)) tokD)),()))))) (none))
theorem eq72:@run72 = @sh72:=by kernel_rfl
def sh54 (fu:Nat) (c33:((List Str)×(Str×Unit))->(Option (Bool×Unit))) (c72:(Int×Unit)->MM (Str×Unit)) (x:((LT×(Int×((List MT)×((Option (Option MT))×Unit))))×Unit)) (a:((List Str)×Unit)):(Option (Option (((LT×(Int×((List MT)×((Option (Option MT))×Unit))))×Unit)×(Bool×Unit)))):=zJ x.1.2.2.2.1 (bo (c72 (0,()) x.1.1 (x.1.2.1,x.1.2.2.1)) fun y1=>cond (!(seq y1.1.1 [])) (Option.bind (c33 (a.1,(y1.1.1,()))) fun y2=>some (some (((x.1.1,(y1.2.1,(y1.2.2,(none,())))),()),(y2.1,())))) (some (some (((x.1.1,(y1.2.1,(y1.2.2,(none,())))),()),(false,()))))) fun y0=>zJ y0 (bo (c72 (0,()) x.1.1 (x.1.2.1,x.1.2.2.1)) fun y2=>cond (!(seq y2.1.1 [])) (Option.bind (c33 (a.1,(y2.1.1,()))) fun y3=>some (some (((x.1.1,(y2.2.1,(y2.2.2,((some none),())))),()),(y3.1,())))) (some (some (((x.1.1,(y2.2.1,(y2.2.2,((some none),())))),()),(false,()))))) fun y1=>bo (c72 (0,()) x.1.1 (x.1.2.1,x.1.2.2.1)) fun y3=>cond (!(seq y3.1.1 [])) (Option.bind (c33 (a.1,(y3.1.1,()))) fun y4=>some (some (((x.1.1,(y3.2.1,(y3.2.2,((some (some y1)),())))),()),(y4.1,())))) (some (some (((x.1.1,(y3.2.1,(y3.2.2,((some (some y1)),())))),()),(false,()))))
theorem eq54:@run54 = @sh54:=by kernel_rfl
def sh85 (fu:Nat) (c15:(Str×Unit)->(Option (Bool×Unit))) (x:(ParT×Unit)) (a:(Int×Unit)):(Option (Option ((ParT×Unit)×(Bool×Unit)))):=cond (ilt (iadd .i64 x.1.2.1 a.1) (lenI x.1.1)) (cond (inB (iadd .i64 x.1.2.1 a.1) (List.length x.1.1)) (cond (ieq (TokT.kind (List.getD x.1.1 (Int.toNat (iadd .i64 x.1.2.1 a.1)) tokD)) 1) (cond (inB (iadd .i64 x.1.2.1 a.1) (List.length x.1.1)) (Option.bind (c15 ((TokT.text (List.getD x.1.1 (Int.toNat (iadd .i64 x.1.2.1 a.1)) tokD)),())) fun y0=>some (some (((x.1.1,(x.1.2.1,(x.1.2.2.1,((),())))),()),((!y0.1),())))) (none)) (some (some (((x.1.1,(x.1.2.1,(x.1.2.2.1,((),())))),()),(false,()))))) (none)) (some (some (((x.1.1,(x.1.2.1,(x.1.2.2.1,((),())))),()),(false,()))))
theorem eq85:@run85 = @sh85:=by kernel_rfl
def sh112 (fu:Nat) (x:(ParT×Unit)) (a:(Int×Unit)):(Option (Option ((ParT×Unit)×(Bool×Unit)))):=cond (ilt x.1.2.1 (lenI x.1.1)) (cond (inB x.1.2.1 (List.length x.1.1)) (some (some (((x.1.1,(x.1.2.1,(x.1.2.2.1,((),())))),()),((ieq (TokT.kind (List.getD x.1.1 (Int.toNat x.1.2.1) tokD)) a.1),())))) (none)) (some (some (((x.1.1,(x.1.2.1,(x.1.2.2.1,((),())))),()),(false,()))))
theorem eq112:@run112 = @sh112:=by kernel_rfl
def sh73 (fu:Nat) (x:(ParT×Unit)) (a:Unit):(Option (Option ((ParT×Unit)×(Nd×Unit)))):=cond (ilt x.1.2.1 (lenI x.1.1)) (some (some (((x.1.1,((iadd .i64 x.1.2.1 1),(x.1.2.2.1,((),())))),()),((Nd.mk 0 (isub .i64 (iadd .i64 x.1.2.1 1) 1) []),())))) (some none)
theorem eq73:@run73 = @sh73:=by kernel_rfl
def sh78 (fu:Nat) (c54:((List Str)×Unit)->MM (Bool×Unit)) (c73:Unit->MM (Nd×Unit)) (x:(ParT×Unit)) (a:(Str×Unit)):(Option (Option ((ParT×Unit)×(Nd×Unit)))):=bo (c54 ([a.1],()) x.1.1 (x.1.2.1,x.1.2.2.1)) fun y1=>cond y1.1.1 (bo (c73 () x.1.1 (y1.2.1,y1.2.2)) fun y3=>some (some (((x.1.1,(y3.2.1,(y3.2.2,((),())))),()),((ndE y3.1.1),())))) (some none)
theorem eq78:@run78 = @sh78:=by kernel_rfl
def sh80 (fu:Nat) (c73:Unit->MM (Nd×Unit)) (c85:(Int×Unit)->MM (Bool×Unit)) (x:(ParT×Unit)) (a:Unit):(Option (Option ((ParT×Unit)×(Nd×Unit)))):=bo (c85 (0,()) x.1.1 (x.1.2.1,x.1.2.2.1)) fun y1=>cond y1.1.1 (bo (c73 () x.1.1 (y1.2.1,y1.2.2)) fun y3=>some (some (((x.1.1,(y3.2.1,(y3.2.2,((),())))),()),((ndE y3.1.1),())))) (some none)
theorem eq80:@run80 = @sh80:=by kernel_rfl
def sh84 (fu:Nat) (c33:((List Str)×(Str×Unit))->(Option (Bool×Unit))) (c72:(Int×Unit)->MM (Str×Unit)) (c76:(Int×Unit)->MM (Bool×Unit)) (x:(ParT×Unit)) (a:(Int×Unit)):(Option (Option ((ParT×Unit)×(Bool×Unit)))):=bo (c72 (a.1,()) x.1.1 (x.1.2.1,x.1.2.2.1)) fun y1=>bo (c76 (a.1,()) x.1.1 (y1.2.1,y1.2.2)) fun y3=>cond y3.1.1 (some (some (((x.1.1,(y3.2.1,(y3.2.2,((),())))),()),(true,())))) (Option.bind (c33 ([[99,111,110,115,116],[101,120,116,101,114,110],[105,110,108,105,110,101],[114,101,103,105,115,116,101,114],[115,116,97,116,105,99],[97,117,116,111],[116,121,112,101,100,101,102],[118,111,108,97,116,105,108,101]],(y1.1.1,()))) fun y4=>cond y4.1 (some (some (((x.1.1,(y3.2.1,(y3.2.2,((),())))),()),(true,())))) (Option.bind (c33 ([[99,104,97,114],[100,111,117,98,108,101],[102,108,111,97,116],[105,110,116],[108,111,110,103],[115,104,111,114,116],[115,105,103,110,101,100],[117,110,115,105,103,110,101,100],[118,111,105,100]],(y1.1.1,()))) fun y5=>cond y5.1 (some (some (((x.1.1,(y3.2.1,(y3.2.2,((),())))),()),(true,())))) (cond (seq y1.1.1 [101,110,117,109]) (some (some (((x.1.1,(y3.2.1,(y3.2.2,((),())))),()),(true,())))) (cond (seq y1.1.1 [115,116,114,117,99,116]) (some (some (((x.1.1,(y3.2.1,(y3.2.2,((),())))),()),(true,())))) (some (some (((x.1.1,(y3.2.1,(y3.2.2,((),())))),()),((seq y1.1.1 [117,110,105,111,110]),()))))))))
theorem eq84:@run84 = @sh84:=by kernel_rfl
theorem hj72 (fu:Nat)  (l:List TokT) (i:Int) (xs:List MT) (m:Option (Option MT)) (a:zA ([.int .i64]:LK)):sh72 fu ((l,i,xs,m,()),()) a=putJ m (sh72 fu ((l,i,xs,none,()),()) a):=by
 unfold sh72
 rcases m with _ | _ | c <;> simp only [zX,zY,zMo,zNL,zLw,zMm,zPH,zNy]
theorem con72 (fu:Nat) :CQ 72 (cJ kI kS (mJ (sh72 fu))):=
 cJ_of (xr (syn:=syn) (fu:=fu) (d:=2) (inl:=zB []) (orc:=zB []) (orr:=zB []) (orp:=zB []) (pf:=hasN []) (rf:=hasN []) yo CCok mixed (fun g=>(zL (α:=Con UU) (l:=[]) g).symm) (fun g=>(zL (α:=CR UU) (l:=[]) g).symm) (zD) (zD) (zD) (zD) fdok72 (by show ([parJ]:LK).length+(kI:LK).length<=40; decide) (fun x a=>by show run72 fu x a=sh72 fu x a; rw [eq72])) (hj72 fu )
theorem hj54 (fu:Nat) (c33:zR as33->Option (zR rs33)) (h33:ConOk CC Tryz.prog 33 ⟨as33,rs33,c33⟩) (c72:zA ([.int .i64]:LK)->MM (zA ([.str]:LK))) (h72:CPOk CC Tryz.prog syn 72 (cJ ([.int .i64]:LK) ([.str]:LK) c72)) (l:List TokT) (i:Int) (xs:List MT) (m:Option (Option MT)) (a:zA ([.dl TI.str]:LK)):sh54 fu c33 c72 ((l,i,xs,m,()),()) a=putJ m (sh54 fu c33 c72 ((l,i,xs,none,()),()) a):=by
 unfold sh54
 have key:∀ (m:Option (Option MT)) (o:Option (Option ((Str×Unit)×PSt))) (f:Str->Option (Bool×Unit)),(Option.bind o fun y0=>zJ y0 (some none) fun y1=>cond (!(seq y1.1.1 [])) (Option.bind (f y1.1.1) fun y2=>some (some (((l,(y1.2.1,(y1.2.2,(m,())))),()),(y2.1,())))) (some (some (((l,(y1.2.1,(y1.2.2,(m,())))),()),(false,()))))) =
  putJ m (Option.bind o fun y0=>zJ y0 (some none) fun y1=>cond (!(seq y1.1.1 [])) (Option.bind (f y1.1.1) fun y2=>some (some (((l,(y1.2.1,(y1.2.2,(none,())))),()),(y2.1,())))) (some (some (((l,(y1.2.1,(y1.2.2,(none,())))),()),(false,()))))):=by
  intro m o f
  rcases o with _ | _ | y
  · rfl
  · rfl
  · show cond (!(seq y.1.1 [])) _ _=putJ m (cond (!(seq y.1.1 [])) _ _)
    cases (!(seq y.1.1 [])) with
    | false=>rfl
    | true=>
     show Option.bind (f y.1.1) _=putJ m (Option.bind (f y.1.1) _)
     cases f y.1.1 <;> rfl
 rcases m with _ | _ | c
 · exact key none (c72 (show Int×Unit from (0,())) l (i,xs)) fun s=>c33 (a.1,(s,()))
 · exact key (some none) (c72 (show Int×Unit from (0,())) l (i,xs)) fun s=>c33 (a.1,(s,()))
 · exact key (some (some c)) (c72 (show Int×Unit from (0,())) l (i,xs)) fun s=>c33 (a.1,(s,()))
theorem con54 (fu:Nat) (c33:zR as33->Option (zR rs33)) (h33:ConOk CC Tryz.prog 33 ⟨as33,rs33,c33⟩) (c72:zA kI->MM (zA kS)) (h72:CQ 72 (cJ kI kS c72)):CQ 54 (cJ kL kB (mJ (sh54 fu c33 c72))):=
 cJ_of (xr (syn:=syn) (fu:=fu) (d:=2) (inl:=zB []) (orc:=zB [(33,(⟨as33,rs33,c33⟩:Con UU))]) (orr:=zB []) (orp:=zB [(72,cJ kI kS c72)]) (pf:=hasN [33]) (rf:=hasN []) yo CCok mixed (fun g=>(zL (α:=Con UU) (l:=[(33,(⟨as33,rs33,c33⟩:Con UU))]) g).symm) (fun g=>(zL (α:=CR UU) (l:=[]) g).symm) (zD) (zE ⟨zGO,h33⟩ (zD)) (zD) (zE ⟨zJ8,h72⟩ (zD)) fdok54 (by show ([parJ]:LK).length+(kL:LK).length<=15; decide) (fun x a=>by show run54 fu c33 c72 x a=sh54 fu c33 c72 x a; rw [eq54])) (hj54 fu c33 h33 c72 h72)
theorem con85 (fu:Nat) (c15:zR as15->Option (zR rs15)) (h15:ConOk CC Tryz.prog 15 ⟨as15,rs15,c15⟩):CQ 85 (cM kI kB (mM (sh85 fu c15))):=
 xF (xr (syn:=syn) (fu:=fu) (d:=2) (inl:=zB []) (orc:=zB [(15,(⟨as15,rs15,c15⟩:Con UU))]) (orr:=zB []) (orp:=zB []) (pf:=hasN [15]) (rf:=hasN []) yo CCok mixed (fun g=>(zL (α:=Con UU) (l:=[(15,(⟨as15,rs15,c15⟩:Con UU))]) g).symm) (fun g=>(zL (α:=CR UU) (l:=[]) g).symm) (zD) (zE ⟨zOG,h15⟩ (zD)) (zD) (zD) fdok85 (by show ([parK]:LK).length+(kI:LK).length<=50; decide) (fun x a=>by show run85 fu c15 x a=sh85 fu c15 x a; rw [eq85]))
theorem con112 (fu:Nat) :CQ 112 (cM kI kB (mM (sh112 fu))):=
 xF (xr (syn:=syn) (fu:=fu) (d:=2) (inl:=zB []) (orc:=zB []) (orr:=zB []) (orp:=zB []) (pf:=hasN []) (rf:=hasN []) yo CCok mixed (fun g=>(zL (α:=Con UU) (l:=[]) g).symm) (fun g=>(zL (α:=CR UU) (l:=[]) g).symm) (zD) (zD) (zD) (zD) zRB (by show ([parK]:LK).length+(kI:LK).length<=30; decide) (fun x a=>by show run112 fu x a=sh112 fu x a; rw [eq112]))
theorem con73 (fu:Nat) (h77:CQ 77 (zAO)):CQ 73 (cM k0 kN (mM (sh73 fu))):=
 xF (xr (syn:=syn) (fu:=fu) (d:=3) (inl:=zB [(40,fd40)]) (orc:=zB []) (orr:=zB []) (orp:=zB [(77,zAO)]) (pf:=hasN []) (rf:=hasN []) yo CCok mixed (fun g=>(zL (α:=Con UU) (l:=[]) g).symm) (fun g=>(zL (α:=CR UU) (l:=[]) g).symm) (zE zNJ (zD)) (zD) (zD) (zE ⟨zF2,h77⟩ (zD)) fdok73 (by show ([parK]:LK).length+(k0:LK).length<=27; decide) (fun x a=>by show run73 fu x a=sh73 fu x a; rw [eq73]))
theorem con78 (fu:Nat) (c54:zA kL->MM (zA kB)) (h54:CQ 54 (cJ kL kB c54)) (c73:zA k0->MM (zA kN)) (h73:CQ 73 (cM k0 kN c73)) (h77:CQ 77 (zAO)):CQ 78 (cM kS kN (mM (sh78 fu c54 c73))):=
 xF (xr (syn:=syn) (fu:=fu) (d:=2) (inl:=zB []) (orc:=zB []) (orr:=zB []) (orp:=zB [(54,cJ kL kB c54),(73,cM k0 kN c73),(77,zAO)]) (pf:=hasN []) (rf:=hasN []) yo CCok mixed (fun g=>(zL (α:=Con UU) (l:=[]) g).symm) (fun g=>(zL (α:=CR UU) (l:=[]) g).symm) (zD) (zD) (zD) (zE ⟨zNc,h54⟩ (zE ⟨zJq,h73⟩ (zE ⟨zF2,h77⟩ (zD)))) fdok78 (by show ([parK]:LK).length+(kS:LK).length<=12; decide) (fun x a=>by show run78 fu c54 c73 x a=sh78 fu c54 c73 x a; rw [eq78]))
theorem con80 (fu:Nat) (c73:zA k0->MM (zA kN)) (h73:CQ 73 (cM k0 kN c73)) (h77:CQ 77 (zAO)) (c85:zA kI->MM (zA kB)) (h85:CQ 85 (cM kI kB c85)):CQ 80 (cM k0 kN (mM (sh80 fu c73 c85))):=
 xF (xr (syn:=syn) (fu:=fu) (d:=2) (inl:=zB []) (orc:=zB []) (orr:=zB []) (orp:=zB [(73,cM k0 kN c73),(77,zAO),(85,cM kI kB c85)]) (pf:=hasN []) (rf:=hasN []) yo CCok mixed (fun g=>(zL (α:=Con UU) (l:=[]) g).symm) (fun g=>(zL (α:=CR UU) (l:=[]) g).symm) (zD) (zD) (zD) (zE ⟨zJq,h73⟩ (zE ⟨zF2,h77⟩ (zE ⟨zMv,h85⟩ (zD)))) fdok80 (by show ([parK]:LK).length+(k0:LK).length<=8; decide) (fun x a=>by show run80 fu c73 c85 x a=sh80 fu c73 c85 x a; rw [eq80]))
theorem con84 (fu:Nat) (c33:zR as33->Option (zR rs33)) (h33:ConOk CC Tryz.prog 33 ⟨as33,rs33,c33⟩) (c72:zA kI->MM (zA kS)) (h72:CQ 72 (cJ kI kS c72)) (c76:zA kI->MM (zA kB)) (h76:CQ 76 (cM kI kB c76)):CQ 84 (cM kI kB (mM (sh84 fu c33 c72 c76))):=
 xF (xr (syn:=syn) (fu:=fu) (d:=2) (inl:=zB []) (orc:=zB [(33,(⟨as33,rs33,c33⟩:Con UU))]) (orr:=zB []) (orp:=zB [(72,cJ kI kS c72),(76,cM kI kB c76)]) (pf:=hasN [33]) (rf:=hasN []) yo CCok mixed (fun g=>(zL (α:=Con UU) (l:=[(33,(⟨as33,rs33,c33⟩:Con UU))]) g).symm) (fun g=>(zL (α:=CR UU) (l:=[]) g).symm) (zD) (zE ⟨zGO,h33⟩ (zD)) (zD) (zE ⟨zJ8,h72⟩ (zE ⟨zNb,h76⟩ (zD))) fdok84 (by show ([parK]:LK).length+(kI:LK).length<=34; decide) (fun x a=>by show run84 fu c33 c72 c76 x a=sh84 fu c33 c72 c76 x a; rw [eq84]))
end
section
open Go.Al Go.Den
abbrev zDs:List (AK UU):=[.str]
abbrev zCX:List (AK UU):=[.int .i64]
def kf36:Nat->List Nat
 | 0=>[]
 | _=>[]
def hd36:List (Nat×Head UU):=[]
def jn36:List (Nat×Head UU):=[]
noncomputable def fd36:FD UU:=⟨⟨fun d=>hasN [] d,fun d=>hasN [] d,kf36,zB hd36,zB jn36,zf []⟩,zV Tryz.f36,13,[]⟩
def kf37:Nat->List Nat
 | 0=>[0,1,4]
 | 1=>[0,1,4,5]
 | 2=>[0,1,4,5,6,7]
 | 3=>[0,1,4,5,7]
 | 4=>[0,1,4,5,7,22]
 | 5=>[0,4]
 | 6=>[0,1,4,5,7,8,9,10]
 | 7=>[0,4,5,7,8,9,47]
 | 8=>[0,4,5,7]
 | 9=>[0,4]
 | 10=>[0,4,5,8,9,11]
 | 11=>[0,4,5,8,11]
 | 12=>[0,4,5,8]
 | 13=>[0,4,5]
 | 14=>[0,4,5]
 | 15=>[0,4]
 | _=>[]
def hd37:List (Nat×Head UU):=[]
def jn37:List (Nat×Head UU):=[]
noncomputable def fd37:FD UU:=⟨⟨fun d=>hasN [] d,fun d=>hasN [] d,kf37,zB hd37,zB jn37,zf [(13,[(71,8,8)])]⟩,zV Tryz.f37,77,[.cell 4 29]⟩
def kf41:Nat->List Nat
 | 0=>[0,1,4]
 | 1=>[4]
 | _=>[]
def hd41:List (Nat×Head UU):=[]
def jn41:List (Nat×Head UU):=[]
noncomputable def fd41:FD UU:=⟨⟨fun d=>hasN [] d,fun d=>hasN [] d,kf41,zB hd41,zB jn41,zf []⟩,zV Tryz.f41,8,[.cell 4 29]⟩
def kf53:Nat->List Nat
 | 0=>[0,2,3]
 | 1=>[0,2,3,4]
 | 2=>[0,2,3,4,5,6]
 | 3=>[0,2,3,4,5,6,7]
 | 4=>[0,2,3,4,5,6,7,10]
 | 5=>[0,2,3,4,5,6]
 | 6=>[0,2,3,4,5,6]
 | 7=>[0,2,3,4,5,6,7,23]
 | 8=>[0,2,3,4,5,6]
 | 9=>[0,2,3,4,5,6]
 | 10=>[0,2,3,4,5,7,35]
 | 11=>[0,2,3,4,5,7,40]
 | 12=>[0,2,3,4,5]
 | 13=>[0,2,3,4,5,6]
 | 14=>[0,2,3,4,5,51]
 | 15=>[0,2,3,4,5]
 | 16=>[0,2,3,4,5,6]
 | 17=>[0,2,3,4,5,58]
 | 18=>[0,2,3,4,5]
 | 19=>[0,2,3,4,5,6]
 | 20=>[0,2,3,4]
 | 21=>[0,2,3]
 | _=>[]
def hd53:List (Nat×Head UU):=[(3,⟨[0,2,4],[(3,.bool),(5,.bool),(6,.bool)],[(0,parK),(2,.box [.int .i64,.int .i64,.dl TI.node]),(4,ptsK)]⟩)]
def jn53:List (Nat×Head UU):=[(20,⟨[0,2,4],[(3,.bool)],[(0,parK),(2,.box [.int .i64,.int .i64,.dl TI.node]),(4,ptsK)]⟩)]
noncomputable def fd53:FD UU:=⟨⟨fun d=>hasN [] d,fun d=>hasN [] d,kf53,zB hd53,zB jn53,zf []⟩,zV Tryz.f53,72,[.cell 2 29,.tmp 3]⟩
def kf55:Nat->List Nat
 | 0=>[0,2,4,6]
 | 1=>[0,2,4,6,12]
 | 2=>[0,2,4,6]
 | 3=>[0,2,4,6,7,8]
 | 4=>[0,2,4,6]
 | 5=>[0,4,6]
 | 6=>[0,6]
 | _=>[]
def hd55:List (Nat×Head UU):=[(1,⟨[0,2,4,6],[],[(0,parK),(4,ptsK),(6,.box [.int .i64,.int .i64,.dl TI.node])]⟩)]
def jn55:List (Nat×Head UU):=[]
noncomputable def fd55:FD UU:=⟨⟨fun d=>hasN [] d,fun d=>hasN [] d,kf55,zB hd55,zB jn55,zf []⟩,zV Tryz.f55,35,[.cell 6 29]⟩
def kf56:Nat->List Nat
 | 0=>[0,2,4]
 | 1=>[0,2,4,5]
 | 2=>[0,2,4,5]
 | 3=>[0,2,4,5,14]
 | 4=>[0,2,3,4,5]
 | 5=>[0,2,3,4,5]
 | 6=>[0,2,3,4,5,6]
 | 7=>[0,2,3,4,5,6,23]
 | 8=>[0,2,3,5]
 | 9=>[0,2,3,4,5,6]
 | 10=>[0,2,3,4,5,6]
 | 11=>[0,2,3,4,5]
 | 12=>[0,2,3,4]
 | 13=>[0,2,5]
 | 14=>[0,2,3,5,7]
 | 15=>[0,2,3,5]
 | 16=>[0,2,3,5]
 | 17=>[0,2,3,4]
 | _=>[]
def hd56:List (Nat×Head UU):=[]
def jn56:List (Nat×Head UU):=[(10,⟨[0,2,3,5],[(4,.bool),(6,.mpo)],[(0,parK),(2,.box [.int .i64,.int .i64,.dl TI.node]),(5,ptsK)]⟩)]
noncomputable def fd56:FD UU:=⟨⟨fun d=>hasN [] d,fun d=>hasN [] d,kf56,zB hd56,zB jn56,zf [(15,[(53,7,7)])]⟩,zV Tryz.f56,60,[.cell 2 29,.tmp 3,.tmp 4]⟩
def kf57:Nat->List Nat
 | 0=>[0,2,3,5,8]
 | 1=>[0,2,3,5,8,9]
 | 2=>[0,2,3,8,9]
 | 3=>[0,8,9]
 | 4=>[0,8,9,19]
 | 5=>[0,8,9]
 | 6=>[0,8]
 | _=>[]
def hd57:List (Nat×Head UU):=[]
def jn57:List (Nat×Head UU):=[]
noncomputable def fd57:FD UU:=⟨⟨fun d=>hasN [] d,fun d=>hasN [] d,kf57,zB hd57,zB jn57,zf []⟩,zV Tryz.f57,27,[.cell 8 29]⟩
def kf60:Nat->List Nat
 | 0=>[0,2]
 | 1=>[0,2,3]
 | 2=>[0,2,3]
 | 3=>[0,2,3,11]
 | 4=>[0,2,3,23]
 | 5=>[0,2,3]
 | 6=>[0,2,3]
 | 7=>[0,2,3]
 | 8=>[0,2]
 | _=>[]
def hd60:List (Nat×Head UU):=[(3,⟨[0,2,3],[],[(0,parK),(2,.box [.int .i64,.int .i64,.dl TI.node]),(3,ptsK)]⟩)]
def jn60:List (Nat×Head UU):=[]
noncomputable def fd60:FD UU:=⟨⟨fun d=>hasN [] d,fun d=>hasN [] d,kf60,zB hd60,zB jn60,zf []⟩,zV Tryz.f60,37,[.cell 2 29]⟩
def kf74:Nat->List Nat
 | 0=>[0,2]
 | 1=>[0,2,3]
 | 2=>[0,2,3]
 | 3=>[0,2,3]
 | 4=>[0,2,3,17]
 | 5=>[0,2,3]
 | 6=>[0,2,3,25]
 | 7=>[0,2]
 | 8=>[0,2,3]
 | 9=>[0,2,3,34]
 | 10=>[0,2,3]
 | 11=>[0,2,3]
 | 12=>[0,2]
 | _=>[]
def hd74:List (Nat×Head UU):=[(9,⟨[0,2,3],[],[(0,parK),(2,.box [.int .i64,.int .i64,.dl TI.node]),(3,ptsK)]⟩)]
def jn74:List (Nat×Head UU):=[(6,⟨[0,2,3],[],[(0,parK),(2,.box [.int .i64,.int .i64,.dl TI.node]),(3,ptsK)]⟩)]
noncomputable def fd74:FD UU:=⟨⟨fun d=>hasN [] d,fun d=>hasN [] d,kf74,zB hd74,zB jn74,zf []⟩,zV Tryz.f74,44,[.cell 2 29]⟩
def kf75:Nat->List Nat
 | 0=>[0,2]
 | 1=>[0,2,3]
 | 2=>[0,2,3]
 | 3=>[0,2,3]
 | 4=>[0,2,3,17]
 | 5=>[0,2,3]
 | 6=>[0,2,3,25]
 | 7=>[0,2]
 | 8=>[0,2,3]
 | 9=>[0,2,3]
 | 10=>[0,2,3,37]
 | 11=>[0,2,3]
 | 12=>[0,2,3,45]
 | 13=>[0,2,3]
 | 14=>[0,2]
 | _=>[]
def hd75:List (Nat×Head UU):=[(9,⟨[0,2,3],[],[(0,parK),(2,.box [.int .i64,.int .i64,.dl TI.node]),(3,ptsK)]⟩)]
def jn75:List (Nat×Head UU):=[(13,⟨[0,2,3],[],[(0,parK),(2,.box [.int .i64,.int .i64,.dl TI.node]),(3,ptsK)]⟩),(6,⟨[0,2,3],[],[(0,parK),(2,.box [.int .i64,.int .i64,.dl TI.node]),(3,ptsK)]⟩)]
noncomputable def fd75:FD UU:=⟨⟨fun d=>hasN [] d,fun d=>hasN [] d,kf75,zB hd75,zB jn75,zf []⟩,zV Tryz.f75,51,[.cell 2 29]⟩
def kf79:Nat->List Nat
 | 0=>[0,1,6]
 | 1=>[0,1]
 | 2=>[0,1,14]
 | 3=>[0,1]
 | _=>[]
def hd79:List (Nat×Head UU):=[(0,⟨[0,1],[],[(0,parK),(1,ptsK)]⟩),(2,⟨[0,1],[],[(0,parK),(1,ptsK)]⟩)]
def jn79:List (Nat×Head UU):=[]
noncomputable def fd79:FD UU:=⟨⟨fun d=>hasN [] d,fun d=>hasN [] d,kf79,zB hd79,zB jn79,zf []⟩,zV Tryz.f79,20,[]⟩
def kf81:Nat->List Nat
 | 0=>[0,2]
 | 1=>[0,2,3]
 | 2=>[0,2,3]
 | 3=>[0,2,3]
 | 4=>[0,2,3,4]
 | 5=>[0,2,3,16]
 | 6=>[0,2,3,4]
 | 7=>[0,2,3,23]
 | 8=>[0,2,3]
 | 9=>[0,2,3,30]
 | 10=>[0,2,3]
 | 11=>[0,2,3]
 | 12=>[0,2,3]
 | 13=>[0,2,3]
 | 14=>[0,2]
 | _=>[]
def hd81:List (Nat×Head UU):=[(5,⟨[0,2,3],[(4,.bool)],[(0,parK),(2,.box [.int .i64,.int .i64,.dl TI.node]),(3,ptsK)]⟩)]
def jn81:List (Nat×Head UU):=[]
noncomputable def fd81:FD UU:=⟨⟨fun d=>hasN [] d,fun d=>hasN [] d,kf81,zB hd81,zB jn81,zf []⟩,zV Tryz.f81,49,[.cell 2 29]⟩
def kf82:Nat->List Nat
 | 0=>[0,1,6]
 | 1=>[0,1,9]
 | 2=>[0,1]
 | 3=>[0,1]
 | 4=>[0,1,23]
 | 5=>[0,1]
 | 6=>[0,1]
 | _=>[]
def hd82:List (Nat×Head UU):=[(0,⟨[0,1],[],[(0,parK),(1,ptsK)]⟩)]
def jn82:List (Nat×Head UU):=[]
noncomputable def fd82:FD UU:=⟨⟨fun d=>hasN [] d,fun d=>hasN [] d,kf82,zB hd82,zB jn82,zf []⟩,zV Tryz.f82,34,[]⟩
def kf83:Nat->List Nat
 | 0=>[0,2]
 | 1=>[0,2,7]
 | 2=>[0,2]
 | 3=>[0,2,3]
 | 4=>[0,2,3]
 | 5=>[0,2,3,17]
 | 6=>[0,2,3]
 | 7=>[0,2,3,25]
 | 8=>[0,2,3]
 | 9=>[0,2,3]
 | 10=>[0,2]
 | _=>[]
def hd83:List (Nat×Head UU):=[(5,⟨[0,2,3],[],[(0,parK),(2,.box [.int .i64,.int .i64,.dl TI.node]),(3,ptsK)]⟩)]
def jn83:List (Nat×Head UU):=[]
noncomputable def fd83:FD UU:=⟨⟨fun d=>hasN [] d,fun d=>hasN [] d,kf83,zB hd83,zB jn83,zf []⟩,zV Tryz.f83,35,[.cell 2 29]⟩
def kf86:Nat->List Nat
 | 0=>[0,2]
 | 1=>[0,2,3]
 | 2=>[0,2,3,4]
 | 3=>[0,2,3,4,8]
 | 4=>[0,2]
 | 5=>[0,2,5]
 | 6=>[0,2,5]
 | 7=>[0,2]
 | 8=>[0,2,3,4,19]
 | 9=>[0,2,3]
 | 10=>[0,2]
 | 11=>[0,2,3,4,27]
 | 12=>[0,2,3]
 | 13=>[0,2]
 | 14=>[0,2,3,4,44]
 | 15=>[0,2,3]
 | 16=>[0,2]
 | 17=>[0,2,3,4]
 | 18=>[0,2,3,4,67]
 | 19=>[0,2,3,4,67,68]
 | 20=>[0,2,3]
 | 21=>[0,2]
 | 22=>[0,2,3,4,67,79]
 | 23=>[0,2,3]
 | 24=>[0,2]
 | 25=>[0,2,3,4,67,88]
 | 26=>[0,2,3]
 | 27=>[0,2,3]
 | 28=>[0,2,3,98]
 | 29=>[0,2,3]
 | 30=>[0,2]
 | 31=>[0,2,3,4,67,106]
 | 32=>[0,2,3,4,67,106]
 | 33=>[0,2,3,4]
 | 34=>[0,2,3,4]
 | 35=>[0,2,3,116]
 | 36=>[0,2]
 | 37=>[0,2]
 | 38=>[0,2,3,4,67,119]
 | 39=>[0,2,3]
 | 40=>[0,2,3]
 | 41=>[0,2,3]
 | 42=>[0,2]
 | 43=>[0,2,3,4,67,134]
 | 44=>[0,2]
 | 45=>[0,2,3,4,67,139]
 | 46=>[0,2,3]
 | 47=>[0,2]
 | 48=>[0,2,3,4,67,144]
 | 49=>[0,2,3,4,144]
 | 50=>[0,2,3]
 | 51=>[0,2]
 | 52=>[0,2,3]
 | 53=>[0,2,3]
 | 54=>[0,2]
 | _=>[]
def hd86:List (Nat×Head UU):=[]
def jn86:List (Nat×Head UU):=[(50,⟨[0,2,3,4],[(144,.bool)],[(0,parK),(2,.box [.int .i64,.int .i64,.dl TI.node]),(3,ptsK)]⟩),(33,⟨[0,2,3,4,67],[(106,.bool)],[(0,parK),(2,.box [.int .i64,.int .i64,.dl TI.node]),(3,ptsK)]⟩),(52,⟨[0,2,3,4],[],[(0,parK),(2,.box [.int .i64,.int .i64,.dl TI.node]),(3,ptsK)]⟩)]
noncomputable def fd86:FD UU:=⟨⟨fun d=>hasN [] d,fun d=>hasN [] d,kf86,zB hd86,zB jn86,zf []⟩,zV Tryz.f86,162,[.cell 2 29]⟩
def kf107:Nat->List Nat
 | 0=>[0,2]
 | 1=>[0,2,3]
 | 2=>[0,2,3,4]
 | 3=>[0,2,3]
 | 4=>[0,2,3,6]
 | 5=>[0,2,3,22]
 | 6=>[0,2,3,6]
 | 7=>[0,2,3,29]
 | 8=>[0,2,3]
 | 9=>[0,2,3,7]
 | 10=>[0,2,3]
 | 11=>[0,2,3]
 | 12=>[0,2]
 | _=>[]
def hd107:List (Nat×Head UU):=[(5,⟨[0,2,3],[(6,.bool)],[(0,parK),(2,.box [.int .i64,.int .i64,.dl TI.node]),(3,ptsK)]⟩)]
def jn107:List (Nat×Head UU):=[(9,⟨[0,2,3],[],[(0,parK),(2,.box [.int .i64,.int .i64,.dl TI.node]),(3,ptsK)]⟩)]
noncomputable def fd107:FD UU:=⟨⟨fun d=>hasN [] d,fun d=>hasN [] d,kf107,zB hd107,zB jn107,zf []⟩,zV Tryz.f107,48,[.cell 2 29]⟩
def kf108:Nat->List Nat
 | 0=>[0,2]
 | 1=>[0,2,3]
 | 2=>[0,2,3,4]
 | 3=>[0,2,3,4]
 | 4=>[0,2,3,4,13]
 | 5=>[0,2,3,4]
 | 6=>[0,2,3]
 | 7=>[0,2]
 | _=>[]
def hd108:List (Nat×Head UU):=[]
def jn108:List (Nat×Head UU):=[]
noncomputable def fd108:FD UU:=⟨⟨fun d=>hasN [] d,fun d=>hasN [] d,kf108,zB hd108,zB jn108,zf []⟩,zV Tryz.f108,24,[.cell 2 29]⟩
def kf110:Nat->List Nat
 | 0=>[0,2]
 | 1=>[0,2,3]
 | 2=>[0,2,3,4,5]
 | 3=>[0,2,3,5]
 | 4=>[0,2,3,5,6,7,8]
 | 5=>[0,2,3,5,6,7,23]
 | 6=>[0,2,3,5,7]
 | 7=>[0,2,3]
 | 8=>[0,2]
 | _=>[]
def hd110:List (Nat×Head UU):=[]
def jn110:List (Nat×Head UU):=[(7,⟨[0,2,3,5,7],[],[(0,parK),(2,.box [.int .i64,.int .i64,.dl TI.node]),(3,ptsK)]⟩)]
noncomputable def fd110:FD UU:=⟨⟨fun d=>hasN [] d,fun d=>hasN [] d,kf110,zB hd110,zB jn110,zf []⟩,zV Tryz.f110,32,[.cell 2 29]⟩
def kf111:Nat->List Nat
 | 0=>[0,2]
 | 1=>[0,2,3]
 | 2=>[0,2,3,10]
 | 3=>[0,2]
 | 4=>[0,2,3,4]
 | 5=>[0,2]
 | _=>[]
def hd111:List (Nat×Head UU):=[]
def jn111:List (Nat×Head UU):=[]
noncomputable def fd111:FD UU:=⟨⟨fun d=>hasN [] d,fun d=>hasN [] d,kf111,zB hd111,zB jn111,zf [(5,[(17,3,3),(17,4,4)])]⟩,zV Tryz.f111,20,[.cell 2 29]⟩
def kf113:Nat->List Nat
 | 0=>[0,2]
 | 1=>[0,2,3]
 | 2=>[0,2,3,10]
 | 3=>[0,2]
 | 4=>[0,2,3,4]
 | 5=>[0,2]
 | _=>[]
def hd113:List (Nat×Head UU):=[]
def jn113:List (Nat×Head UU):=[]
noncomputable def fd113:FD UU:=⟨⟨fun d=>hasN [] d,fun d=>hasN [] d,kf113,zB hd113,zB jn113,zf [(5,[(17,3,3),(17,4,4)])]⟩,zV Tryz.f113,20,[.cell 2 29]⟩
def kf114:Nat->List Nat
 | 0=>[0,2]
 | 1=>[0,2,3]
 | 2=>[0,2,3,10]
 | 3=>[0,2]
 | 4=>[0,2,3,4]
 | 5=>[0,2,4]
 | 6=>[0,2]
 | _=>[]
def hd114:List (Nat×Head UU):=[]
def jn114:List (Nat×Head UU):=[]
noncomputable def fd114:FD UU:=⟨⟨fun d=>hasN [] d,fun d=>hasN [] d,kf114,zB hd114,zB jn114,zf [(5,[(14,3,3),(16,3,3),(18,3,3),(20,3,3)])]⟩,zV Tryz.f114,24,[.cell 2 29]⟩
def kf115:Nat->List Nat
 | 0=>[0,1]
 | _=>[]
def hd115:List (Nat×Head UU):=[]
def jn115:List (Nat×Head UU):=[]
noncomputable def fd115:FD UU:=⟨⟨fun d=>hasN [] d,fun d=>hasN [] d,kf115,zB hd115,zB jn115,zf []⟩,zV Tryz.f115,13,[]⟩
def kf116:Nat->List Nat
 | 0=>[0,3,4]
 | 1=>[0,3,4]
 | 2=>[0,3,4]
 | 3=>[0,3,4,13]
 | 4=>[0,3,4]
 | 5=>[0,3,4]
 | 6=>[0,3,4]
 | 7=>[0,3,4]
 | 8=>[0,3,4]
 | 9=>[0,3,4]
 | 10=>[0,4]
 | _=>[]
def hd116:List (Nat×Head UU):=[]
def jn116:List (Nat×Head UU):=[(6,⟨[0,3,4],[],[(0,parK),(3,ptsK),(4,.box [.int .i64,.int .i64,.dl TI.node])]⟩)]
noncomputable def fd116:FD UU:=⟨⟨fun d=>hasN [] d,fun d=>hasN [] d,kf116,zB hd116,zB jn116,zf []⟩,zV Tryz.f116,31,[.cell 4 29]⟩
def kf117:Nat->List Nat
 | 0=>[0,1,2,10]
 | 1=>[0,1,2]
 | 2=>[0,1]
 | _=>[]
def hd117:List (Nat×Head UU):=[]
def jn117:List (Nat×Head UU):=[(2,⟨[0,1,2],[],[(0,parK),(1,ptsK)]⟩)]
noncomputable def fd117:FD UU:=⟨⟨fun d=>hasN [] d,fun d=>hasN [] d,kf117,zB hd117,zB jn117,zf []⟩,zV Tryz.f117,22,[]⟩
def kf130:Nat->List Nat
 | 0=>[0,1,4,5]
 | 1=>[0,1,4,5,7]
 | 2=>[0,1,4,5,7]
 | 3=>[0,1,4,5,7,8]
 | 4=>[0,1,4,5,7,8,16]
 | 5=>[0,4,5,7]
 | 6=>[0,4,5,7]
 | 7=>[0,1,4,5,7,28]
 | 8=>[0,1,4,7]
 | 9=>[0,4,7,9,10,11]
 | 10=>[0,4,7,9,10,67]
 | 11=>[0,4,7,10]
 | 12=>[0,4,5,7]
 | 13=>[0,4,5,7]
 | 14=>[0,4,5,7]
 | 15=>[0,4,5,6]
 | _=>[]
def hd130:List (Nat×Head UU):=[]
def jn130:List (Nat×Head UU):=[(12,⟨[0,4,7,10],[],[(0,parK),(4,.box [.int .i64,.int .i64,.dl TI.node]),(7,ptsK)]⟩),(14,⟨[0,4,7],[(5,.str)],[(0,parK),(4,.box [.int .i64,.int .i64,.dl TI.node]),(7,ptsK)]⟩)]
noncomputable def fd130:FD UU:=⟨⟨fun d=>hasN [] d,fun d=>hasN [] d,kf130,zB hd130,zB jn130,zf [(15,[(1000004,80,7)])]⟩,zV Tryz.f130,84,[.cell 4 29,.tmp 5,.tmp 6]⟩
def kf131:Nat->List Nat
 | 0=>[0,1,4]
 | 1=>[0,1,4,5]
 | 2=>[0,1,4,5,6]
 | 3=>[0,1,4,5,6,19]
 | 4=>[0,4]
 | 5=>[0,1,4,5,6,7]
 | 6=>[0,1,4,5]
 | _=>[]
def hd131:List (Nat×Head UU):=[(2,⟨[0,1,4,5],[],[(0,parK),(4,.box [.int .i64,.int .i64,.dl TI.node]),(5,.box [.int .i64,.int .i64,.dl TI.node])]⟩)]
def jn131:List (Nat×Head UU):=[]
noncomputable def fd131:FD UU:=⟨⟨fun d=>hasN [] d,fun d=>hasN [] d,kf131,zB hd131,zB jn131,zf [(6,[(28,5,5),(28,7,7)])]⟩,zV Tryz.f131,31,[.cell 4 29]⟩
def kf142:Nat->List Nat
 | 0=>[0,2]
 | 1=>[0,2,12]
 | 2=>[0,2]
 | 3=>[0,2,3]
 | 4=>[0,2,3]
 | 5=>[0,2]
 | _=>[]
def hd142:List (Nat×Head UU):=[]
def jn142:List (Nat×Head UU):=[]
noncomputable def fd142:FD UU:=⟨⟨fun d=>hasN [] d,fun d=>hasN [] d,kf142,zB hd142,zB jn142,zf []⟩,zV Tryz.f142,26,[.cell 2 29]⟩
def kf143:Nat->List Nat
 | 0=>[0]
 | 1=>[3]
 | 2=>[3,4]
 | 3=>[2]
 | 4=>[3,6]
 | 5=>[2]
 | 6=>[3,8]
 | 7=>[2]
 | 8=>[3,10]
 | 9=>[2]
 | 10=>[3,12]
 | 11=>[2]
 | 12=>[3,14]
 | 13=>[3,14]
 | 14=>[2]
 | 15=>[3,17]
 | 16=>[3,17]
 | 17=>[3,17]
 | 18=>[3,17]
 | 19=>[2]
 | 20=>[3,22]
 | 21=>[3,22]
 | 22=>[2]
 | 23=>[3,25]
 | 24=>[3,25]
 | 25=>[2]
 | 26=>[3,28]
 | 27=>[3,28]
 | 28=>[28]
 | 29=>[2]
 | 30=>[2]
 | _=>[]
def hd143:List (Nat×Head UU):=[]
def jn143:List (Nat×Head UU):=[]
noncomputable def fd143:FD UU:=⟨⟨fun d=>hasN [] d,fun d=>hasN [] d,kf143,zB hd143,zB jn143,zf []⟩,zV Tryz.f143,32,[.tmp 2]⟩
def kf150:Nat->List Nat
 | 0=>[0,2]
 | 1=>[0,2,3]
 | 2=>[0,2,3,4]
 | 3=>[0,2,3]
 | 4=>[0,2]
 | 5=>[0,2,3,15]
 | 6=>[0,2,3]
 | 7=>[0,2]
 | 8=>[0,2,3,26]
 | 9=>[0,2,3]
 | 10=>[0,2,3,40]
 | 11=>[0,2,3]
 | 12=>[0,2,3]
 | 13=>[0,2]
 | 14=>[0,2]
 | _=>[]
def hd150:List (Nat×Head UU):=[]
def jn150:List (Nat×Head UU):=[]
noncomputable def fd150:FD UU:=⟨⟨fun d=>hasN [] d,fun d=>hasN [] d,kf150,zB hd150,zB jn150,zf []⟩,zV Tryz.f150,58,[.cell 2 29]⟩
def kf151:Nat->List Nat
 | 0=>[0,2]
 | 1=>[0,2,3]
 | 2=>[0,2,3,4]
 | 3=>[0,2,3]
 | 4=>[0,2,3,6,8]
 | 5=>[0,2,3,6,23]
 | 6=>[0,2,3]
 | 7=>[0,2]
 | _=>[]
def hd151:List (Nat×Head UU):=[]
def jn151:List (Nat×Head UU):=[]
noncomputable def fd151:FD UU:=⟨⟨fun d=>hasN [] d,fun d=>hasN [] d,kf151,zB hd151,zB jn151,zf []⟩,zV Tryz.f151,28,[.cell 2 29]⟩
def kf154:Nat->List Nat
 | 0=>[0,3,4]
 | 1=>[0,3,4,5]
 | 2=>[0,3,4,5]
 | 3=>[0,4]
 | 4=>[0,3,4,5,11]
 | 5=>[0,3,4,5]
 | 6=>[0,3,4]
 | 7=>[0,3,4,5,24]
 | 8=>[0,3,4,5]
 | 9=>[0,3,4,5,6]
 | 10=>[0,3,4,5,36]
 | 11=>[0,3,4,5,6]
 | 12=>[0,3,4,5,43]
 | 13=>[0,3,4,5]
 | 14=>[0,3,4,5]
 | 15=>[0,3,4,5]
 | 16=>[0,3,4]
 | 17=>[0,3,4,5,57]
 | 18=>[0,3,4,5]
 | 19=>[0,3,4]
 | 20=>[0,3,4,5,68]
 | 21=>[0,3,4,5]
 | 22=>[0,3,4]
 | _=>[]
def hd154:List (Nat×Head UU):=[(1,⟨[0,3,4],[],[(0,parK),(3,.box [.int .i64,.int .i64,.dl TI.node]),(4,.box [.int .i64,.int .i64,.dl TI.node])]⟩),(10,⟨[0,3,4,5],[(6,.bool)],[(0,parK),(3,.box [.int .i64,.int .i64,.dl TI.node]),(4,.box [.int .i64,.int .i64,.dl TI.node]),(5,ptsK)]⟩)]
def jn154:List (Nat×Head UU):=[]
noncomputable def fd154:FD UU:=⟨⟨fun d=>hasN [] d,fun d=>hasN [] d,kf154,zB hd154,zB jn154,zf []⟩,zV Tryz.f154,77,[.cell 4 29]⟩
def kf155:Nat->List Nat
 | 0=>[0,2]
 | 1=>[0,2,3]
 | 2=>[0,2,3,4]
 | 3=>[0,2,3]
 | 4=>[0,2]
 | 5=>[0,2,3,12]
 | 6=>[0,2,3]
 | 7=>[0,2]
 | 8=>[0,2,3,24]
 | 9=>[0,2,3,28]
 | 10=>[0,2,3]
 | 11=>[0,2]
 | 12=>[0,2,3]
 | 13=>[0,2]
 | _=>[]
def hd155:List (Nat×Head UU):=[(9,⟨[0,2,3],[],[(0,parK),(2,.box [.int .i64,.int .i64,.dl TI.node]),(3,ptsK)]⟩)]
def jn155:List (Nat×Head UU):=[]
noncomputable def fd155:FD UU:=⟨⟨fun d=>hasN [] d,fun d=>hasN [] d,kf155,zB hd155,zB jn155,zf []⟩,zV Tryz.f155,37,[.cell 2 29]⟩
theorem fdok53:FDOk Tryz.prog (hasN [33,143]) (hasN [38]) 53 fd53:=⟨⟨Tryz.f53,Tryz.func53,by kernel_rfl,Tryz.ntmps53,Tryz.results53⟩,by kernel_rfl,by kernel_rfl,by kernel_rfl⟩
theorem fdok74:FDOk Tryz.prog (hasN [33,143]) (hasN [38]) 74 fd74:=⟨⟨Tryz.f74,Tryz.func74,by kernel_rfl,Tryz.ntmps74,Tryz.results74⟩,by kernel_rfl,by kernel_rfl,by kernel_rfl⟩
theorem zRG:FDOk Tryz.prog (hasN [33,143]) (hasN [38]) 107 fd107:=⟨⟨Tryz.f107,Tryz.func107,by kernel_rfl,Tryz.ntmps107,Tryz.results107⟩,by kernel_rfl,by kernel_rfl,by kernel_rfl⟩
theorem fdok75:FDOk Tryz.prog (hasN [33,143]) (hasN [38]) 75 fd75:=⟨⟨Tryz.f75,Tryz.func75,by kernel_rfl,Tryz.ntmps75,Tryz.results75⟩,by kernel_rfl,by kernel_rfl,by kernel_rfl⟩
theorem zQB:FDOk Tryz.prog (hasN [33,143]) (hasN [38]) 108 fd108:=⟨⟨Tryz.f108,Tryz.func108,by kernel_rfl,Tryz.ntmps108,Tryz.results108⟩,by kernel_rfl,by kernel_rfl,by kernel_rfl⟩
theorem fdok79:FDOk Tryz.prog (hasN [33,143]) (hasN [38]) 79 fd79:=⟨⟨Tryz.f79,Tryz.func79,by kernel_rfl,Tryz.ntmps79,Tryz.results79⟩,by kernel_rfl,by kernel_rfl,by kernel_rfl⟩
theorem fdok82:FDOk Tryz.prog (hasN [33,143]) (hasN [38]) 82 fd82:=⟨⟨Tryz.f82,Tryz.func82,by kernel_rfl,Tryz.ntmps82,Tryz.results82⟩,by kernel_rfl,by kernel_rfl,by kernel_rfl⟩
theorem fdok56:FDOk Tryz.prog (hasN [33,143]) (hasN [38]) 56 fd56:=⟨⟨Tryz.f56,Tryz.func56,by kernel_rfl,Tryz.ntmps56,Tryz.results56⟩,by kernel_rfl,by kernel_rfl,by kernel_rfl⟩
theorem zQl:FDOk Tryz.prog (hasN [33,143]) (hasN [38]) 130 fd130:=⟨⟨Tryz.f130,Tryz.func130,by kernel_rfl,Tryz.ntmps130,Tryz.results130⟩,by kernel_rfl,by kernel_rfl,by kernel_rfl⟩
theorem fdok81:FDOk Tryz.prog (hasN [33,143]) (hasN [38]) 81 fd81:=⟨⟨Tryz.f81,Tryz.func81,by kernel_rfl,Tryz.ntmps81,Tryz.results81⟩,by kernel_rfl,by kernel_rfl,by kernel_rfl⟩
theorem zQ7:FDOk Tryz.prog (hasN [33,143]) (hasN [38]) 110 fd110:=⟨⟨Tryz.f110,Tryz.func110,by kernel_rfl,Tryz.ntmps110,Tryz.results110⟩,by kernel_rfl,by kernel_rfl,by kernel_rfl⟩
theorem zRW:FDOk Tryz.prog (hasN [33,143]) (hasN [38]) 151 fd151:=⟨⟨Tryz.f151,Tryz.func151,by kernel_rfl,Tryz.ntmps151,Tryz.results151⟩,by kernel_rfl,by kernel_rfl,by kernel_rfl⟩
theorem fdok83:FDOk Tryz.prog (hasN [33,143]) (hasN [38]) 83 fd83:=⟨⟨Tryz.f83,Tryz.func83,by kernel_rfl,Tryz.ntmps83,Tryz.results83⟩,by kernel_rfl,by kernel_rfl,by kernel_rfl⟩
theorem fdok57:FDOk Tryz.prog (hasN [33,143]) (hasN [38]) 57 fd57:=⟨⟨Tryz.f57,Tryz.func57,by kernel_rfl,Tryz.ntmps57,Tryz.results57⟩,by kernel_rfl,by kernel_rfl,by kernel_rfl⟩
theorem fdok55:FDOk Tryz.prog (hasN [33,143]) (hasN [38]) 55 fd55:=⟨⟨Tryz.f55,Tryz.func55,by kernel_rfl,Tryz.ntmps55,Tryz.results55⟩,by kernel_rfl,by kernel_rfl,by kernel_rfl⟩
theorem fdok37:FDOk Tryz.prog (hasN [33,143]) (hasN [38]) 37 fd37:=⟨⟨Tryz.f37,Tryz.func37,by kernel_rfl,Tryz.ntmps37,Tryz.results37⟩,by kernel_rfl,by kernel_rfl,by kernel_rfl⟩
theorem fdok60:FDOk Tryz.prog (hasN [33,143]) (hasN [38]) 60 fd60:=⟨⟨Tryz.f60,Tryz.func60,by kernel_rfl,Tryz.ntmps60,Tryz.results60⟩,by kernel_rfl,by kernel_rfl,by kernel_rfl⟩
theorem fdok86:FDOk Tryz.prog (hasN [33,143]) (hasN [38]) 86 fd86:=⟨⟨Tryz.f86,Tryz.func86,by kernel_rfl,Tryz.ntmps86,Tryz.results86⟩,by kernel_rfl,by kernel_rfl,by kernel_rfl⟩
theorem zPt:FDOk Tryz.prog (hasN [33,143]) (hasN [38]) 116 fd116:=⟨⟨Tryz.f116,Tryz.func116,by kernel_rfl,Tryz.ntmps116,Tryz.results116⟩,by kernel_rfl,by kernel_rfl,by kernel_rfl⟩
theorem zP3:FDOk Tryz.prog (hasN [33,143]) (hasN [38]) 115 fd115:=⟨⟨Tryz.f115,Tryz.func115,by kernel_rfl,Tryz.ntmps115,Tryz.results115⟩,by kernel_rfl,by kernel_rfl,by kernel_rfl⟩
theorem zPr:FDOk Tryz.prog (hasN [33,143]) (hasN [38]) 117 fd117:=⟨⟨Tryz.f117,Tryz.func117,by kernel_rfl,Tryz.ntmps117,Tryz.results117⟩,by kernel_rfl,by kernel_rfl,by kernel_rfl⟩
theorem zQE:FDOk Tryz.prog (hasN [33,143]) (hasN [38]) 113 fd113:=⟨⟨Tryz.f113,Tryz.func113,by kernel_rfl,Tryz.ntmps113,Tryz.results113⟩,by kernel_rfl,by kernel_rfl,by kernel_rfl⟩
theorem zRX:FDOk Tryz.prog (hasN [33,143]) (hasN [38]) 111 fd111:=⟨⟨Tryz.f111,Tryz.func111,by kernel_rfl,Tryz.ntmps111,Tryz.results111⟩,by kernel_rfl,by kernel_rfl,by kernel_rfl⟩
theorem zPw:FDOk Tryz.prog (hasN [33,143]) (hasN [38]) 114 fd114:=⟨⟨Tryz.f114,Tryz.func114,by kernel_rfl,Tryz.ntmps114,Tryz.results114⟩,by kernel_rfl,by kernel_rfl,by kernel_rfl⟩
theorem zQi:FDOk Tryz.prog (hasN [33,143]) (hasN [38]) 131 fd131:=⟨⟨Tryz.f131,Tryz.func131,by kernel_rfl,Tryz.ntmps131,Tryz.results131⟩,by kernel_rfl,by kernel_rfl,by kernel_rfl⟩
theorem zQZ:FDOk Tryz.prog (hasN [33,143]) (hasN [38]) 142 fd142:=⟨⟨Tryz.f142,Tryz.func142,by kernel_rfl,Tryz.ntmps142,Tryz.results142⟩,by kernel_rfl,by kernel_rfl,by kernel_rfl⟩
theorem zRM:FDOk Tryz.prog (hasN [33,143]) (hasN [38]) 150 fd150:=⟨⟨Tryz.f150,Tryz.func150,by kernel_rfl,Tryz.ntmps150,Tryz.results150⟩,by kernel_rfl,by kernel_rfl,by kernel_rfl⟩
theorem zPe:FDOk Tryz.prog (hasN [33,143]) (hasN [38]) 154 fd154:=⟨⟨Tryz.f154,Tryz.func154,by kernel_rfl,Tryz.ntmps154,Tryz.results154⟩,by kernel_rfl,by kernel_rfl,by kernel_rfl⟩
theorem zQr:FDOk Tryz.prog (hasN [33,143]) (hasN [38]) 155 fd155:=⟨⟨Tryz.f155,Tryz.func155,by kernel_rfl,Tryz.ntmps155,Tryz.results155⟩,by kernel_rfl,by kernel_rfl,by kernel_rfl⟩
noncomputable def run143 (fu:Nat) (nf:Nat->Bool) (x0:List UInt8):Option (zR zCX):=
 jv CC Tb fu 2 (zB []) (zB []) (zB []) (zB []) fd143 zDs zCX nf (x0,())
theorem zRV:FDOk Tryz.prog (hasN []) (hasN []) 143 fd143:=⟨⟨Tryz.f143,Tryz.func143,by kernel_rfl,Tryz.ntmps143,Tryz.results143⟩,by kernel_rfl,by kernel_rfl,by kernel_rfl⟩
theorem zPx:FDOk Tryz.prog (hasN [33,143]) (hasN [38]) 36 fd36:=⟨⟨Tryz.f36,Tryz.func36,by kernel_rfl,Tryz.ntmps36,Tryz.results36⟩,by kernel_rfl,by kernel_rfl,by kernel_rfl⟩
theorem zQj:FDOk Tryz.prog (hasN [33,143]) (hasN [38]) 41 fd41:=⟨⟨Tryz.f41,Tryz.func41,by kernel_rfl,Tryz.ntmps41,Tryz.results41⟩,by kernel_rfl,by kernel_rfl,by kernel_rfl⟩
end
section
open Go.Al Go.Den
structure PS where
 c33:List Str×Str×Unit->Option (Bool×Unit)
 c143:Str×Unit->Option (Int×Unit)
 c54:zA ([.dl TI.str]:LK)->MM (zA ([.bool]:LK))
 c72:zA ([.int .i64]:LK)->MM (zA ([.str]:LK))
 c73:zA ([]:LK)->MM (zA ([.st TI.node]:LK))
 c76:zA ([.int .i64]:LK)->MM (zA ([.bool]:LK))
 c78:zA ([.str]:LK)->MM (zA ([.st TI.node]:LK))
 c80:zA ([]:LK)->MM (zA ([.st TI.node]:LK))
 c84:zA ([.int .i64]:LK)->MM (zA ([.bool]:LK))
 c85:zA ([.int .i64]:LK)->MM (zA ([.bool]:LK))
 c112:zA ([.int .i64]:LK)->MM (zA ([.bool]:LK))
 c58:zA ([.str,.bool]:LK)->MM (zA ([]:LK))
 c59:zA ([.mpo]:LK)->MM (zA ([]:LK))
 c61:zA ([]:LK)->MM (zA ([.mpo]:LK))
structure POk (p:PS):Prop where
 h33:ConOk CC Tryz.prog 33 ⟨as33,rs33,p.c33⟩
 h143:ConOk CC Tryz.prog 143 ⟨zDs,zCX,p.c143⟩
 h38:CROk CC Tryz.prog 38 jg
 h77:CPOk CC Tryz.prog syn 77 zAO
 h54:CPOk CC Tryz.prog syn 54 (cJ ([.dl TI.str]:LK) ([.bool]:LK) p.c54)
 h72:CPOk CC Tryz.prog syn 72 (cJ ([.int .i64]:LK) ([.str]:LK) p.c72)
 h73:CPOk CC Tryz.prog syn 73 (cM ([]:LK) ([.st TI.node]:LK) p.c73)
 h76:CPOk CC Tryz.prog syn 76 (cM ([.int .i64]:LK) ([.bool]:LK) p.c76)
 h78:CPOk CC Tryz.prog syn 78 (cM ([.str]:LK) ([.st TI.node]:LK) p.c78)
 h80:CPOk CC Tryz.prog syn 80 (cM ([]:LK) ([.st TI.node]:LK) p.c80)
 h84:CPOk CC Tryz.prog syn 84 (cM ([.int .i64]:LK) ([.bool]:LK) p.c84)
 h85:CPOk CC Tryz.prog syn 85 (cM ([.int .i64]:LK) ([.bool]:LK) p.c85)
 h112:CPOk CC Tryz.prog syn 112 (cM ([.int .i64]:LK) ([.bool]:LK) p.c112)
 h58:CPOk CC Tryz.prog syn 58 (cM ([.str,.bool]:LK) ([]:LK) p.c58)
 h59:CPOk CC Tryz.prog syn 59 (cM ([.mpo]:LK) ([]:LK) p.c59)
 h61:CPOk CC Tryz.prog syn 61 (cM ([]:LK) ([.mpo]:LK) p.c61)
structure RS where
 c53:zA ([]:LK)->MM (zA ([.st TI.node,.bool]:LK))
 c74:zA ([]:LK)->MM (zA ([.st TI.node]:LK))
 c107:zA ([]:LK)->MM (zA ([.st TI.node]:LK))
 c75:zA ([]:LK)->MM (zA ([.st TI.node]:LK))
 c108:zA ([]:LK)->MM (zA ([.st TI.node]:LK))
 c79:zA ([]:LK)->List Nd->MM (zA ([]:LK)×List Nd)
 c82:zA ([]:LK)->List Nd->MM (zA ([]:LK)×List Nd)
 c56:zA ([]:LK)->MM (zA ([.st TI.node,.str,.bool]:LK)×Option (Option MT))
 c130:zA ([.bool]:LK)->MM (zA ([.st TI.node,.str,.bool]:LK))
 c81:zA ([]:LK)->MM (zA ([.st TI.node]:LK)×Option MT)
 c110:zA ([]:LK)->MM (zA ([.st TI.node]:LK))
 c151:zA ([]:LK)->MM (zA ([.st TI.node]:LK))
 c83:zA ([]:LK)->MM (zA ([.st TI.node]:LK))
 c57:zA ([.st TI.node,.str,.bool]:LK)->MM (zA ([.st TI.node]:LK))
 c55:zA ([.ag [.ow true TI.node],.bool]:LK)->MM (zA ([.st TI.node]:LK))
 c37:zA ([.bool]:LK)->MM (zA ([.st TI.node]:LK))
 c60:zA ([]:LK)->MM (zA ([.st TI.node]:LK))
 c86:zA ([]:LK)->MM (zA ([.st TI.node]:LK))
 c116:zA ([.ag [.ow true TI.node]]:LK)->MM (zA ([.st TI.node]:LK))
 c115:zA ([]:LK)->List Nd->MM (zA ([]:LK)×List Nd)
 c117:zA ([.str]:LK)->List Nd->MM (zA ([]:LK)×List Nd)
 c113:zA ([]:LK)->MM (zA ([.st TI.node]:LK))
 c111:zA ([]:LK)->MM (zA ([.st TI.node]:LK))
 c114:zA ([]:LK)->MM (zA ([.st TI.node]:LK))
 c131:zA ([.int .i64]:LK)->MM (zA ([.st TI.node]:LK))
 c142:zA ([]:LK)->MM (zA ([.st TI.node]:LK))
 c150:zA ([]:LK)->MM (zA ([.st TI.node]:LK))
 c154:zA ([.st TI.node]:LK)->MM (zA ([.st TI.node]:LK))
 c155:zA ([]:LK)->MM (zA ([.st TI.node]:LK))
def RS.zero:RS where
 c53:=fun _ _ _=>none
 c74:=fun _ _ _=>none
 c107:=fun _ _ _=>none
 c75:=fun _ _ _=>none
 c108:=fun _ _ _=>none
 c79:=fun _ _ _ _=>none
 c82:=fun _ _ _ _=>none
 c56:=fun _ _ _=>none
 c130:=fun _ _ _=>none
 c81:=fun _ _ _=>none
 c110:=fun _ _ _=>none
 c151:=fun _ _ _=>none
 c83:=fun _ _ _=>none
 c57:=fun _ _ _=>none
 c55:=fun _ _ _=>none
 c37:=fun _ _ _=>none
 c60:=fun _ _ _=>none
 c86:=fun _ _ _=>none
 c116:=fun _ _ _=>none
 c115:=fun _ _ _ _=>none
 c117:=fun _ _ _ _=>none
 c113:=fun _ _ _=>none
 c111:=fun _ _ _=>none
 c114:=fun _ _ _=>none
 c131:=fun _ _ _=>none
 c142:=fun _ _ _=>none
 c150:=fun _ _ _=>none
 c154:=fun _ _ _=>none
 c155:=fun _ _ _=>none
structure ROk (r:RS):Prop where
 h53:CPOk CC Tryz.prog syn 53 (cM (([]:LK)) (([.st TI.node,.bool]:LK)) r.c53)
 h74:CPOk CC Tryz.prog syn 74 (cM (([]:LK)) (([.st TI.node]:LK)) r.c74)
 h107:CPOk CC Tryz.prog syn 107 (cM (([]:LK)) (([.st TI.node]:LK)) r.c107)
 h75:CPOk CC Tryz.prog syn 75 (cM (([]:LK)) (([.st TI.node]:LK)) r.c75)
 h108:CPOk CC Tryz.prog syn 108 (cM (([]:LK)) (([.st TI.node]:LK)) r.c108)
 h79:CPOk CC Tryz.prog syn 79 (cX (([]:LK)) (([]:LK)) r.c79)
 h82:CPOk CC Tryz.prog syn 82 (cX (([]:LK)) (([]:LK)) r.c82)
 h56:CPOk CC Tryz.prog syn 56 (cN (([]:LK)) (([.st TI.node,.str,.bool]:LK)) r.c56)
 h130:CPOk CC Tryz.prog syn 130 (cM (([.bool]:LK)) (([.st TI.node,.str,.bool]:LK)) r.c130)
 h81:CPOk CC Tryz.prog syn 81 (cL (([]:LK)) (([.st TI.node]:LK)) r.c81)
 h110:CPOk CC Tryz.prog syn 110 (cM (([]:LK)) (([.st TI.node]:LK)) r.c110)
 h151:CPOk CC Tryz.prog syn 151 (cM (([]:LK)) (([.st TI.node]:LK)) r.c151)
 h83:CPOk CC Tryz.prog syn 83 (cM (([]:LK)) (([.st TI.node]:LK)) r.c83)
 h57:CPOk CC Tryz.prog syn 57 (cM (([.st TI.node,.str,.bool]:LK)) (([.st TI.node]:LK)) r.c57)
 h55:CPOk CC Tryz.prog syn 55 (cM (([.ag [.ow true TI.node],.bool]:LK)) (([.st TI.node]:LK)) r.c55)
 h37:CPOk CC Tryz.prog syn 37 (cM (([.bool]:LK)) (([.st TI.node]:LK)) r.c37)
 h60:CPOk CC Tryz.prog syn 60 (cM (([]:LK)) (([.st TI.node]:LK)) r.c60)
 h86:CPOk CC Tryz.prog syn 86 (cM (([]:LK)) (([.st TI.node]:LK)) r.c86)
 h116:CPOk CC Tryz.prog syn 116 (cM (([.ag [.ow true TI.node]]:LK)) (([.st TI.node]:LK)) r.c116)
 h115:CPOk CC Tryz.prog syn 115 (cX (([]:LK)) (([]:LK)) r.c115)
 h117:CPOk CC Tryz.prog syn 117 (cX (([.str]:LK)) (([]:LK)) r.c117)
 h113:CPOk CC Tryz.prog syn 113 (cM (([]:LK)) (([.st TI.node]:LK)) r.c113)
 h111:CPOk CC Tryz.prog syn 111 (cM (([]:LK)) (([.st TI.node]:LK)) r.c111)
 h114:CPOk CC Tryz.prog syn 114 (cM (([]:LK)) (([.st TI.node]:LK)) r.c114)
 h131:CPOk CC Tryz.prog syn 131 (cM (([.int .i64]:LK)) (([.st TI.node]:LK)) r.c131)
 h142:CPOk CC Tryz.prog syn 142 (cM (([]:LK)) (([.st TI.node]:LK)) r.c142)
 h150:CPOk CC Tryz.prog syn 150 (cM (([]:LK)) (([.st TI.node]:LK)) r.c150)
 h154:CPOk CC Tryz.prog syn 154 (cM (([.st TI.node]:LK)) (([.st TI.node]:LK)) r.c154)
 h155:CPOk CC Tryz.prog syn 155 (cM (([]:LK)) (([.st TI.node]:LK)) r.c155)
theorem ROk.zero:ROk RS.zero:=⟨(fun _ _ _ _ _ _ h=>by cases h),(fun _ _ _ _ _ _ h=>by cases h),(fun _ _ _ _ _ _ h=>by cases h),(fun _ _ _ _ _ _ h=>by cases h),(fun _ _ _ _ _ _ h=>by cases h),(fun _ _ _ _ _ _ h=>by cases h),(fun _ _ _ _ _ _ h=>by cases h),(fun _ _ _ _ _ _ h=>by cases h),(fun _ _ _ _ _ _ h=>by cases h),(fun _ _ _ _ _ _ h=>by cases h),(fun _ _ _ _ _ _ h=>by cases h),(fun _ _ _ _ _ _ h=>by cases h),(fun _ _ _ _ _ _ h=>by cases h),(fun _ _ _ _ _ _ h=>by cases h),(fun _ _ _ _ _ _ h=>by cases h),(fun _ _ _ _ _ _ h=>by cases h),(fun _ _ _ _ _ _ h=>by cases h),(fun _ _ _ _ _ _ h=>by cases h),(fun _ _ _ _ _ _ h=>by cases h),(fun _ _ _ _ _ _ h=>by cases h),(fun _ _ _ _ _ _ h=>by cases h),(fun _ _ _ _ _ _ h=>by cases h),(fun _ _ _ _ _ _ h=>by cases h),(fun _ _ _ _ _ _ h=>by cases h),(fun _ _ _ _ _ _ h=>by cases h),(fun _ _ _ _ _ _ h=>by cases h),(fun _ _ _ _ _ _ h=>by cases h),(fun _ _ _ _ _ _ h=>by cases h),(fun _ _ _ _ _ _ h=>by cases h)⟩
def oC (p:PS):Nat->Option (Con UU):=zB [(33,⟨as33,rs33,p.c33⟩),(143,⟨zDs,zCX,p.c143⟩)]
def oR:Nat->Option (CR UU):=zB [(38,jg)]
noncomputable def iI:Nat->Option (FD UU):=zB [(36,fd36),(41,fd41)]
def oA (p:PS) (r:RS) (a b:Bool):Nat->Option (CP UU):=zB [(53,cM ([]:LK) ([.st TI.node,.bool]:LK) r.c53),(74,cM ([]:LK) ([.st TI.node]:LK) r.c74),(107,cM ([]:LK) ([.st TI.node]:LK) r.c107),(75,cM ([]:LK) ([.st TI.node]:LK) r.c75),(108,cM ([]:LK) ([.st TI.node]:LK) r.c108),(79,cX ([]:LK) ([]:LK) r.c79),(82,cX ([]:LK) ([]:LK) r.c82),(56,cond a (cNj ([]:LK) ([.st TI.node,.str,.bool]:LK) r.c56) (cN ([]:LK) ([.st TI.node,.str,.bool]:LK) r.c56)),(130,cM ([.bool]:LK) ([.st TI.node,.str,.bool]:LK) r.c130),(81,cond b (cLj ([]:LK) ([.st TI.node]:LK) r.c81) (cL ([]:LK) ([.st TI.node]:LK) r.c81)),(110,cM ([]:LK) ([.st TI.node]:LK) r.c110),(151,cM ([]:LK) ([.st TI.node]:LK) r.c151),(83,cM ([]:LK) ([.st TI.node]:LK) r.c83),(57,cM ([.st TI.node,.str,.bool]:LK) ([.st TI.node]:LK) r.c57),(55,cM ([.ag [.ow true TI.node],.bool]:LK) ([.st TI.node]:LK) r.c55),(37,cM ([.bool]:LK) ([.st TI.node]:LK) r.c37),(60,cM ([]:LK) ([.st TI.node]:LK) r.c60),(86,cM ([]:LK) ([.st TI.node]:LK) r.c86),(116,cM ([.ag [.ow true TI.node]]:LK) ([.st TI.node]:LK) r.c116),(115,cX ([]:LK) ([]:LK) r.c115),(117,cX ([.str]:LK) ([]:LK) r.c117),(113,cM ([]:LK) ([.st TI.node]:LK) r.c113),(111,cM ([]:LK) ([.st TI.node]:LK) r.c111),(114,cM ([]:LK) ([.st TI.node]:LK) r.c114),(131,cM ([.int .i64]:LK) ([.st TI.node]:LK) r.c131),(142,cM ([]:LK) ([.st TI.node]:LK) r.c142),(150,cM ([]:LK) ([.st TI.node]:LK) r.c150),(154,cM ([.st TI.node]:LK) ([.st TI.node]:LK) r.c154),(155,cM ([]:LK) ([.st TI.node]:LK) r.c155),(54,cJ ([.dl TI.str]:LK) ([.bool]:LK) p.c54),(72,cJ ([.int .i64]:LK) ([.str]:LK) p.c72),(73,cM ([]:LK) ([.st TI.node]:LK) p.c73),(76,cM ([.int .i64]:LK) ([.bool]:LK) p.c76),(78,cM ([.str]:LK) ([.st TI.node]:LK) p.c78),(80,cM ([]:LK) ([.st TI.node]:LK) p.c80),(84,cM ([.int .i64]:LK) ([.bool]:LK) p.c84),(85,cM ([.int .i64]:LK) ([.bool]:LK) p.c85),(112,cM ([.int .i64]:LK) ([.bool]:LK) p.c112),(58,cM ([.str,.bool]:LK) ([]:LK) p.c58),(59,cM ([.mpo]:LK) ([]:LK) p.c59),(61,cM ([]:LK) ([.mpo]:LK) p.c61),(77,zAO)]
theorem oA_ok {p:PS} (hp:POk p) {r:RS} (hr:ROk r) (a b:Bool):∀ f c,oA p r a b f=some c->zP Tryz.prog f=true/\CPOk CC Tryz.prog syn f c:=
 zE ⟨code53,hr.h53⟩ (zE ⟨code74,hr.h74⟩ (zE ⟨zQs,hr.h107⟩ (zE ⟨code75,hr.h75⟩ (zE ⟨zQg,hr.h108⟩ (zE ⟨code79,hr.h79⟩ (zE ⟨code82,hr.h82⟩ (zE ⟨code56,by cases a; exact hr.h56; exact cNj_of hr.h56⟩ (zE ⟨zRl,hr.h130⟩ (zE ⟨code81,by cases b; exact hr.h81; exact cLj_of hr.h81⟩ (zE ⟨zQn,hr.h110⟩ (zE ⟨zQo,hr.h151⟩ (zE ⟨code83,hr.h83⟩ (zE ⟨code57,hr.h57⟩ (zE ⟨code55,hr.h55⟩ (zE ⟨zOA,hr.h37⟩ (zE ⟨code60,hr.h60⟩ (zE ⟨code86,hr.h86⟩ (zE ⟨zRh,hr.h116⟩ (zE ⟨zQf,hr.h115⟩ (zE ⟨zPp,hr.h117⟩ (zE ⟨zRL,hr.h113⟩ (zE ⟨zRo,hr.h111⟩ (zE ⟨zQS,hr.h114⟩ (zE ⟨zQX,hr.h131⟩ (zE ⟨zRf,hr.h142⟩ (zE ⟨zQu,hr.h150⟩ (zE ⟨zP6,hr.h154⟩ (zE ⟨zRO,hr.h155⟩ (zE ⟨zNc,hp.h54⟩ (zE ⟨zJ8,hp.h72⟩ (zE ⟨zJq,hp.h73⟩ (zE ⟨zNb,hp.h76⟩ (zE ⟨code78,hp.h78⟩ (zE ⟨code80,hp.h80⟩ (zE ⟨code84,hp.h84⟩ (zE ⟨zMv,hp.h85⟩ (zE ⟨zPq,hp.h112⟩ (zE ⟨code58,hp.h58⟩ (zE ⟨code59,hp.h59⟩ (zE ⟨code61,hp.h61⟩ (zE ⟨zF2,hp.h77⟩ zD)))))))))))))))))))))))))))))))))))))))))
noncomputable def rnA (fu:Nat) (p:PS) (r:RS) (a b:Bool) (fd:FD UU) (io oo aa rs:LK) (x:zA io) (y:zA aa):Option (Option (zA oo×zA rs)):=runP CC Tb fu 4 iI (oC p) oR (oA p r a b) fd io oo aa rs x y
theorem xH (fu:Nat) {p:PS} (hp:POk p) {r:RS} (hr:ROk r) {a b:Bool} {f:Nat} {fd:FD UU} (hfd:FDOk Tryz.prog (hasN [33,143]) (hasN [38]) f fd) {io oo aa rs:LK} (hlen:io.length+aa.length<=fd.n) {sh:zA io->zA aa->Option (Option (zA oo×zA rs))}
 (e:∀ x y,rnA fu p r a b fd io oo aa rs x y=sh x y):CPOk CC Tryz.prog syn f ⟨io,oo,aa,rs,fnP sh⟩:=
 xr (syn:=syn) (fu:=fu) (d:=4) (inl:=iI) (orc:=oC p) (orr:=oR) (orp:=oA p r a b) (pf:=hasN [33,143]) (rf:=hasN [38]) yo CCok mixed (fun g=>(zL (α:=Con UU) (l:=[(33,⟨as33,rs33,p.c33⟩),(143,⟨zDs,zCX,p.c143⟩)]) g).symm) (fun g=>(zL (α:=CR UU) (l:=[(38,jg)]) g).symm)
  (zE zPx (zE zQj zD)) (zE ⟨zGO,hp.h33⟩ (zE ⟨zP9,hp.h143⟩ zD)) (zE ⟨zF7,hp.h38⟩ zD) (oA_ok hp hr a b) hfd hlen e
end
section
open Go.Al Go.Den
def sh53 (fu:Nat) (c33:((List Str)×(Str×Unit))->(Option (Bool×Unit))) (c72:(Int×Unit)->MM (Str×Unit)) (c73:Unit->MM (Nd×Unit)) (c74:Unit->MM (Nd×Unit)) (c75:Unit->MM (Nd×Unit)) (c76:(Int×Unit)->MM (Bool×Unit)) (x:(ParT×Unit)) (a:Unit):(Option (Option ((ParT×Unit)×(Nd×(Bool×Unit))))):=iter fu (fun (rec1:((Bool×(Bool×(Bool×Unit)))×(ParT×(JT×(NdsT×Unit))))->Option (Option ((ParT×Unit)×(Nd×(Bool×Unit))))) (s1:((Bool×(Bool×(Bool×Unit)))×(ParT×(JT×(NdsT×Unit)))))=>bo (c72 (0,()) s1.2.1.1 (s1.2.1.2.1,s1.2.1.2.2.1)) fun y1=>zQ (fun (join0:((Bool×Unit)×(ParT×(JT×(NdsT×Unit))))->Option (Option ((ParT×Unit)×(Nd×(Bool×Unit)))))=>Option.bind (c33 ([[99,111,110,115,116],[101,120,116,101,114,110],[105,110,108,105,110,101],[114,101,103,105,115,116,101,114],[115,116,97,116,105,99],[97,117,116,111],[116,121,112,101,100,101,102],[118,111,108,97,116,105,108,101]],(y1.1.1,()))) fun y2=>cond y2.1 (cond s1.1.1 (bo (c73 () s1.2.1.1 (y1.2.1,y1.2.2)) fun y4=>ck ((List.length s1.2.2.2.1.1)+(List.length [(ndE y4.1.1)])) (rec1 ((true,(s1.1.2.1,(s1.1.2.2.1,()))),((s1.2.1.1,(y4.2.1,(y4.2.2,((),())))),(s1.2.2.1,(((s1.2.2.2.1.1++[(ndE y4.1.1)]),()),())))))) (bo (c73 () s1.2.1.1 (y1.2.1,y1.2.2)) fun y4=>ck ((List.length s1.2.2.2.1.1)+(List.length [(ndE y4.1.1)])) (rec1 (((seq y1.1.1 [116,121,112,101,100,101,102]),(s1.1.2.1,(s1.1.2.2.1,()))),((s1.2.1.1,(y4.2.1,(y4.2.2,((),())))),(s1.2.2.1,(((s1.2.2.2.1.1++[(ndE y4.1.1)]),()),()))))))) (Option.bind (c33 ([[99,104,97,114],[100,111,117,98,108,101],[102,108,111,97,116],[105,110,116],[108,111,110,103],[115,104,111,114,116],[115,105,103,110,101,100],[117,110,115,105,103,110,101,100],[118,111,105,100]],(y1.1.1,()))) fun y3=>cond y3.1 (cond (!s1.1.2.2.1) (bo (c73 () s1.2.1.1 (y1.2.1,y1.2.2)) fun y5=>ck ((List.length s1.2.2.2.1.1)+(List.length [(ndE y5.1.1)])) (rec1 ((s1.1.1,(true,(s1.1.2.2.1,()))),((s1.2.1.1,(y5.2.1,(y5.2.2,((),())))),(s1.2.2.1,(((s1.2.2.2.1.1++[(ndE y5.1.1)]),()),())))))) (cond s1.1.2.1 (join0 ((s1.1.1,()),((s1.2.1.1,(y1.2.1,(y1.2.2,((),())))),(s1.2.2.1,((s1.2.2.2.1.1,()),()))))) (cond s1.1.2.2.1 (join0 ((s1.1.1,()),((s1.2.1.1,(y1.2.1,(y1.2.2,((),())))),(s1.2.2.1,((s1.2.2.2.1.1,()),()))))) (cond (seq y1.1.1 [115,116,114,117,99,116]) (bo (c74 () s1.2.1.1 (y1.2.1,y1.2.2)) fun y5=>ck ((List.length s1.2.2.2.1.1)+(List.length [(ndE y5.1.1)])) (rec1 ((s1.1.1,(s1.1.2.1,(true,()))),((s1.2.1.1,(y5.2.1,(y5.2.2,((),())))),(s1.2.2.1,(((s1.2.2.2.1.1++[(ndE y5.1.1)]),()),())))))) (cond (seq y1.1.1 [117,110,105,111,110]) (bo (c74 () s1.2.1.1 (y1.2.1,y1.2.2)) fun y5=>ck ((List.length s1.2.2.2.1.1)+(List.length [(ndE y5.1.1)])) (rec1 ((s1.1.1,(s1.1.2.1,(true,()))),((s1.2.1.1,(y5.2.1,(y5.2.2,((),())))),(s1.2.2.1,(((s1.2.2.2.1.1++[(ndE y5.1.1)]),()),())))))) (cond (seq y1.1.1 [101,110,117,109]) (bo (c75 () s1.2.1.1 (y1.2.1,y1.2.2)) fun y5=>ck ((List.length s1.2.2.2.1.1)+(List.length [(ndE y5.1.1)])) (rec1 ((s1.1.1,(s1.1.2.1,(true,()))),((s1.2.1.1,(y5.2.1,(y5.2.2,((),())))),(s1.2.2.1,(((s1.2.2.2.1.1++[(ndE y5.1.1)]),()),())))))) (bo (c76 (0,()) s1.2.1.1 (y1.2.1,y1.2.2)) fun y5=>cond y5.1.1 (bo (c73 () s1.2.1.1 (y5.2.1,y5.2.2)) fun y7=>ck ((List.length s1.2.2.2.1.1)+(List.length [(ndE y7.1.1)])) (rec1 ((s1.1.1,(s1.1.2.1,(true,()))),((s1.2.1.1,(y7.2.1,(y7.2.2,((),())))),(s1.2.2.1,(((s1.2.2.2.1.1++[(ndE y7.1.1)]),()),())))))) (join0 ((s1.1.1,()),((s1.2.1.1,(y5.2.1,(y5.2.2,((),())))),(s1.2.2.1,((s1.2.2.2.1.1,()),())))))))))))) (cond s1.1.2.1 (join0 ((s1.1.1,()),((s1.2.1.1,(y1.2.1,(y1.2.2,((),())))),(s1.2.2.1,((s1.2.2.2.1.1,()),()))))) (cond s1.1.2.2.1 (join0 ((s1.1.1,()),((s1.2.1.1,(y1.2.1,(y1.2.2,((),())))),(s1.2.2.1,((s1.2.2.2.1.1,()),()))))) (cond (seq y1.1.1 [115,116,114,117,99,116]) (bo (c74 () s1.2.1.1 (y1.2.1,y1.2.2)) fun y5=>ck ((List.length s1.2.2.2.1.1)+(List.length [(ndE y5.1.1)])) (rec1 ((s1.1.1,(s1.1.2.1,(true,()))),((s1.2.1.1,(y5.2.1,(y5.2.2,((),())))),(s1.2.2.1,(((s1.2.2.2.1.1++[(ndE y5.1.1)]),()),())))))) (cond (seq y1.1.1 [117,110,105,111,110]) (bo (c74 () s1.2.1.1 (y1.2.1,y1.2.2)) fun y5=>ck ((List.length s1.2.2.2.1.1)+(List.length [(ndE y5.1.1)])) (rec1 ((s1.1.1,(s1.1.2.1,(true,()))),((s1.2.1.1,(y5.2.1,(y5.2.2,((),())))),(s1.2.2.1,(((s1.2.2.2.1.1++[(ndE y5.1.1)]),()),())))))) (cond (seq y1.1.1 [101,110,117,109]) (bo (c75 () s1.2.1.1 (y1.2.1,y1.2.2)) fun y5=>ck ((List.length s1.2.2.2.1.1)+(List.length [(ndE y5.1.1)])) (rec1 ((s1.1.1,(s1.1.2.1,(true,()))),((s1.2.1.1,(y5.2.1,(y5.2.2,((),())))),(s1.2.2.1,(((s1.2.2.2.1.1++[(ndE y5.1.1)]),()),())))))) (bo (c76 (0,()) s1.2.1.1 (y1.2.1,y1.2.2)) fun y5=>cond y5.1.1 (bo (c73 () s1.2.1.1 (y5.2.1,y5.2.2)) fun y7=>ck ((List.length s1.2.2.2.1.1)+(List.length [(ndE y7.1.1)])) (rec1 ((s1.1.1,(s1.1.2.1,(true,()))),((s1.2.1.1,(y7.2.1,(y7.2.2,((),())))),(s1.2.2.1,(((s1.2.2.2.1.1++[(ndE y7.1.1)]),()),())))))) (join0 ((s1.1.1,()),((s1.2.1.1,(y5.2.1,(y5.2.2,((),())))),(s1.2.2.1,((s1.2.2.2.1.1,()),()))))))))))))) (fun (t0:((Bool×Unit)×(ParT×(JT×(NdsT×Unit)))))=>cond (ilt 0 (lenI t0.2.2.2.1.1)) (some (some (((t0.2.1.1,(t0.2.1.2.1,(t0.2.1.2.2.1,((),())))),()),((ndE (Nd.mk 4 0 t0.2.2.2.1.1)),(t0.1.1,()))))) (some none))) ((false,(false,(false,()))),((x.1.1,(x.1.2.1,(x.1.2.2.1,((),())))),((0,(0,([],()))),(([],()),()))))
theorem eq53 (fu:Nat) (p:PS) (r:RS) x a:rnA fu p r false false fd53 [parK] [parK] ([]:LK) ([.st TI.node,.bool]:LK) x a=sh53 fu p.c33 p.c72 p.c73 r.c74 r.c75 p.c76 x a:=by kernel_rfl
def sh74 (fu:Nat) (c54:((List Str)×Unit)->MM (Bool×Unit)) (c73:Unit->MM (Nd×Unit)) (c85:(Int×Unit)->MM (Bool×Unit)) (c107:Unit->MM (Nd×Unit)) (x:(ParT×Unit)) (a:Unit):(Option (Option ((ParT×Unit)×(Nd×Unit)))):=bo (c73 () x.1.1 (x.1.2.1,x.1.2.2.1)) fun y1=>ck (List.length [(ndE y1.1.1)]) (bo (c85 (0,()) x.1.1 (y1.2.1,y1.2.2)) fun y3=>cond y3.1.1 (zQ (fun (join0:(Unit×(ParT×(JT×(NdsT×Unit))))->Option (Option ((ParT×Unit)×(Nd×Unit))))=>bo (c85 (0,()) x.1.1 (y3.2.1,y3.2.2)) fun y5=>cond y5.1.1 (bo (c73 () x.1.1 (y5.2.1,y5.2.2)) fun y7=>ck ((List.length [(ndE y1.1.1)])+(List.length [(ndE y7.1.1)])) (join0 ((),((x.1.1,(y7.2.1,(y7.2.2,((),())))),((0,(0,([],()))),((([(ndE y1.1.1)]++[(ndE y7.1.1)]),()),())))))) (join0 ((),((x.1.1,(y5.2.1,(y5.2.2,((),())))),((0,(0,([],()))),(([(ndE y1.1.1)],()),())))))) (fun (t0:(Unit×(ParT×(JT×(NdsT×Unit)))))=>bo (c54 ([[123]],()) t0.2.1.1 (t0.2.1.2.1,t0.2.1.2.2.1)) fun y5=>cond (!y5.1.1) (some (some (((t0.2.1.1,(y5.2.1,(y5.2.2,((),())))),()),((ndE (Nd.mk 5 0 t0.2.2.2.1.1)),())))) (bo (c73 () t0.2.1.1 (y5.2.1,y5.2.2)) fun y7=>ck ((List.length t0.2.2.2.1.1)+(List.length [(ndE y7.1.1)])) (iter fu (fun (rec1:(Unit×(ParT×(JT×(NdsT×Unit))))->Option (Option ((ParT×Unit)×(Nd×Unit)))) (s1:(Unit×(ParT×(JT×(NdsT×Unit)))))=>bo (c54 ([[125]],()) s1.2.1.1 (s1.2.1.2.1,s1.2.1.2.2.1)) fun y9=>cond (!y9.1.1) (bo (c107 () s1.2.1.1 (y9.2.1,y9.2.2)) fun y11=>ck ((List.length s1.2.2.2.1.1)+(List.length [(ndE y11.1.1)])) (rec1 ((),((s1.2.1.1,(y11.2.1,(y11.2.2,((),())))),(s1.2.2.1,(((s1.2.2.2.1.1++[(ndE y11.1.1)]),()),())))))) (bo (c73 () s1.2.1.1 (y9.2.1,y9.2.2)) fun y11=>ck ((List.length s1.2.2.2.1.1)+(List.length [(ndE y11.1.1)])) (some (some (((s1.2.1.1,(y11.2.1,(y11.2.2,((),())))),()),((ndE (Nd.mk 5 0 (s1.2.2.2.1.1++[(ndE y11.1.1)]))),())))))) ((),((t0.2.1.1,(y7.2.1,(y7.2.2,((),())))),(t0.2.2.1,(((t0.2.2.2.1.1++[(ndE y7.1.1)]),()),())))))))) (bo (c54 ([[123]],()) x.1.1 (y3.2.1,y3.2.2)) fun y5=>cond y5.1.1 (zQ (fun (join0:(Unit×(ParT×(JT×(NdsT×Unit))))->Option (Option ((ParT×Unit)×(Nd×Unit))))=>bo (c85 (0,()) x.1.1 (y5.2.1,y5.2.2)) fun y7=>cond y7.1.1 (bo (c73 () x.1.1 (y7.2.1,y7.2.2)) fun y9=>ck ((List.length [(ndE y1.1.1)])+(List.length [(ndE y9.1.1)])) (join0 ((),((x.1.1,(y9.2.1,(y9.2.2,((),())))),((0,(0,([],()))),((([(ndE y1.1.1)]++[(ndE y9.1.1)]),()),())))))) (join0 ((),((x.1.1,(y7.2.1,(y7.2.2,((),())))),((0,(0,([],()))),(([(ndE y1.1.1)],()),())))))) (fun (t0:(Unit×(ParT×(JT×(NdsT×Unit)))))=>bo (c54 ([[123]],()) t0.2.1.1 (t0.2.1.2.1,t0.2.1.2.2.1)) fun y7=>cond (!y7.1.1) (some (some (((t0.2.1.1,(y7.2.1,(y7.2.2,((),())))),()),((ndE (Nd.mk 5 0 t0.2.2.2.1.1)),())))) (bo (c73 () t0.2.1.1 (y7.2.1,y7.2.2)) fun y9=>ck ((List.length t0.2.2.2.1.1)+(List.length [(ndE y9.1.1)])) (iter fu (fun (rec1:(Unit×(ParT×(JT×(NdsT×Unit))))->Option (Option ((ParT×Unit)×(Nd×Unit)))) (s1:(Unit×(ParT×(JT×(NdsT×Unit)))))=>bo (c54 ([[125]],()) s1.2.1.1 (s1.2.1.2.1,s1.2.1.2.2.1)) fun y11=>cond (!y11.1.1) (bo (c107 () s1.2.1.1 (y11.2.1,y11.2.2)) fun y13=>ck ((List.length s1.2.2.2.1.1)+(List.length [(ndE y13.1.1)])) (rec1 ((),((s1.2.1.1,(y13.2.1,(y13.2.2,((),())))),(s1.2.2.1,(((s1.2.2.2.1.1++[(ndE y13.1.1)]),()),())))))) (bo (c73 () s1.2.1.1 (y11.2.1,y11.2.2)) fun y13=>ck ((List.length s1.2.2.2.1.1)+(List.length [(ndE y13.1.1)])) (some (some (((s1.2.1.1,(y13.2.1,(y13.2.2,((),())))),()),((ndE (Nd.mk 5 0 (s1.2.2.2.1.1++[(ndE y13.1.1)]))),())))))) ((),((t0.2.1.1,(y9.2.1,(y9.2.2,((),())))),(t0.2.2.1,(((t0.2.2.2.1.1++[(ndE y9.1.1)]),()),())))))))) (some none)))
theorem eq74 (fu:Nat) (p:PS) (r:RS) x a:rnA fu p r false false fd74 [parK] [parK] ([]:LK) ([.st TI.node]:LK) x a=sh74 fu p.c54 p.c73 p.c85 r.c107 x a:=by kernel_rfl
def sh107 (fu:Nat) (c53:Unit->MM (Nd×(Bool×Unit))) (c54:((List Str)×Unit)->MM (Bool×Unit)) (c56:Unit->MM ((Nd×(Str×(Bool×Unit)))×(Option (Option MT)))) (c73:Unit->MM (Nd×Unit)) (c78:(Str×Unit)->MM (Nd×Unit)) (x:(ParT×Unit)) (a:Unit):(Option (Option ((ParT×Unit)×(Nd×Unit)))):=bo (c53 () x.1.1 (x.1.2.1,x.1.2.2.1)) fun y1=>ck (List.length [(ndE y1.1.1)]) (bo (c54 ([[59]],()) x.1.1 (y1.2.1,y1.2.2)) fun y3=>iter fu (fun (rec1:((Bool×Unit)×(ParT×(JT×(NdsT×Unit))))->Option (Option ((ParT×Unit)×(Nd×Unit)))) (s1:((Bool×Unit)×(ParT×(JT×(NdsT×Unit)))))=>cond s1.1.1 (zQ (fun (join0:(Unit×(ParT×(JT×(NdsT×Unit))))->Option (Option ((ParT×Unit)×(Nd×Unit))))=>cond (ilt 1 (lenI s1.2.2.2.1.1)) (bo (c73 () s1.2.1.1 (s1.2.1.2.1,s1.2.1.2.2.1)) fun y5=>ck ((List.length s1.2.2.2.1.1)+(List.length [(ndE y5.1.1)])) (join0 ((),((s1.2.1.1,(y5.2.1,(y5.2.2,((),())))),(s1.2.2.1,(((s1.2.2.2.1.1++[(ndE y5.1.1)]),()),())))))) (join0 ((),((s1.2.1.1,(s1.2.1.2.1,(s1.2.1.2.2.1,((),())))),(s1.2.2.1,((s1.2.2.2.1.1,()),())))))) (fun (t0:(Unit×(ParT×(JT×(NdsT×Unit)))))=>bo (c56 () t0.2.1.1 (t0.2.1.2.1,t0.2.1.2.2.1)) fun y5=>ck ((List.length t0.2.2.2.1.1)+(List.length [(ndE y5.1.1.1)])) (bo (c54 ([[44]],()) t0.2.1.1 (y5.2.1,y5.2.2)) fun y7=>rec1 ((y7.1.1,()),((t0.2.1.1,(y7.2.1,(y7.2.2,((),())))),(t0.2.2.1,(((t0.2.2.2.1.1++[(ndE y5.1.1.1)]),()),()))))))) (bo (c78 ([59],()) s1.2.1.1 (s1.2.1.2.1,s1.2.1.2.2.1)) fun y5=>ck ((List.length s1.2.2.2.1.1)+(List.length [(ndE y5.1.1)])) (some (some (((s1.2.1.1,(y5.2.1,(y5.2.2,((),())))),()),((ndE (Nd.mk 7 0 (s1.2.2.2.1.1++[(ndE y5.1.1)]))),())))))) (((!y3.1.1),()),((x.1.1,(y3.2.1,(y3.2.2,((),())))),((0,(0,([],()))),(([(ndE y1.1.1)],()),())))))
theorem eq107 (fu:Nat) (p:PS) (r:RS) x a:rnA fu p r true false fd107 [parK] [parK] ([]:LK) ([.st TI.node]:LK) x a=sh107 fu r.c53 p.c54 r.c56 p.c73 p.c78 x a:=by kernel_rfl
def sh75 (fu:Nat) (c54:((List Str)×Unit)->MM (Bool×Unit)) (c73:Unit->MM (Nd×Unit)) (c78:(Str×Unit)->MM (Nd×Unit)) (c85:(Int×Unit)->MM (Bool×Unit)) (c108:Unit->MM (Nd×Unit)) (x:(ParT×Unit)) (a:Unit):(Option (Option ((ParT×Unit)×(Nd×Unit)))):=bo (c73 () x.1.1 (x.1.2.1,x.1.2.2.1)) fun y1=>ck (List.length [(ndE y1.1.1)]) (bo (c85 (0,()) x.1.1 (y1.2.1,y1.2.2)) fun y3=>cond y3.1.1 (zQ (fun (join0:(Unit×(ParT×(JT×(NdsT×Unit))))->Option (Option ((ParT×Unit)×(Nd×Unit))))=>bo (c85 (0,()) x.1.1 (y3.2.1,y3.2.2)) fun y5=>cond y5.1.1 (bo (c73 () x.1.1 (y5.2.1,y5.2.2)) fun y7=>ck ((List.length [(ndE y1.1.1)])+(List.length [(ndE y7.1.1)])) (join0 ((),((x.1.1,(y7.2.1,(y7.2.2,((),())))),((0,(0,([],()))),((([(ndE y1.1.1)]++[(ndE y7.1.1)]),()),())))))) (join0 ((),((x.1.1,(y5.2.1,(y5.2.2,((),())))),((0,(0,([],()))),(([(ndE y1.1.1)],()),())))))) (fun (t0:(Unit×(ParT×(JT×(NdsT×Unit)))))=>bo (c54 ([[123]],()) t0.2.1.1 (t0.2.1.2.1,t0.2.1.2.2.1)) fun y5=>cond (!y5.1.1) (some (some (((t0.2.1.1,(y5.2.1,(y5.2.2,((),())))),()),((ndE (Nd.mk 6 0 t0.2.2.2.1.1)),())))) (bo (c73 () t0.2.1.1 (y5.2.1,y5.2.2)) fun y7=>ck ((List.length t0.2.2.2.1.1)+(List.length [(ndE y7.1.1)])) (iter fu (fun (rec1:(Unit×(ParT×(JT×(NdsT×Unit))))->Option (Option ((ParT×Unit)×(Nd×Unit)))) (s1:(Unit×(ParT×(JT×(NdsT×Unit)))))=>bo (c108 () s1.2.1.1 (s1.2.1.2.1,s1.2.1.2.2.1)) fun y9=>ck ((List.length s1.2.2.2.1.1)+(List.length [(ndE y9.1.1)])) (zQ (fun (join0:(Unit×(ParT×(JT×(NdsT×Unit))))->Option (Option ((ParT×Unit)×(Nd×Unit))))=>bo (c54 ([[44]],()) s1.2.1.1 (y9.2.1,y9.2.2)) fun y11=>cond y11.1.1 (bo (c73 () s1.2.1.1 (y11.2.1,y11.2.2)) fun y13=>ck ((List.length (s1.2.2.2.1.1++[(ndE y9.1.1)]))+(List.length [(ndE y13.1.1)])) (bo (c54 ([[125]],()) s1.2.1.1 (y13.2.1,y13.2.2)) fun y15=>cond (!y15.1.1) (rec1 ((),((s1.2.1.1,(y15.2.1,(y15.2.2,((),())))),(s1.2.2.1,((((s1.2.2.2.1.1++[(ndE y9.1.1)])++[(ndE y13.1.1)]),()),()))))) (join0 ((),((s1.2.1.1,(y15.2.1,(y15.2.2,((),())))),(s1.2.2.1,((((s1.2.2.2.1.1++[(ndE y9.1.1)])++[(ndE y13.1.1)]),()),()))))))) (join0 ((),((s1.2.1.1,(y11.2.1,(y11.2.2,((),())))),(s1.2.2.1,(((s1.2.2.2.1.1++[(ndE y9.1.1)]),()),())))))) (fun (t1:(Unit×(ParT×(JT×(NdsT×Unit)))))=>bo (c78 ([125],()) t1.2.1.1 (t1.2.1.2.1,t1.2.1.2.2.1)) fun y11=>ck ((List.length t1.2.2.2.1.1)+(List.length [(ndE y11.1.1)])) (some (some (((t1.2.1.1,(y11.2.1,(y11.2.2,((),())))),()),((ndE (Nd.mk 6 0 (t1.2.2.2.1.1++[(ndE y11.1.1)]))),()))))))) ((),((t0.2.1.1,(y7.2.1,(y7.2.2,((),())))),(t0.2.2.1,(((t0.2.2.2.1.1++[(ndE y7.1.1)]),()),())))))))) (bo (c54 ([[123]],()) x.1.1 (y3.2.1,y3.2.2)) fun y5=>cond y5.1.1 (zQ (fun (join0:(Unit×(ParT×(JT×(NdsT×Unit))))->Option (Option ((ParT×Unit)×(Nd×Unit))))=>bo (c85 (0,()) x.1.1 (y5.2.1,y5.2.2)) fun y7=>cond y7.1.1 (bo (c73 () x.1.1 (y7.2.1,y7.2.2)) fun y9=>ck ((List.length [(ndE y1.1.1)])+(List.length [(ndE y9.1.1)])) (join0 ((),((x.1.1,(y9.2.1,(y9.2.2,((),())))),((0,(0,([],()))),((([(ndE y1.1.1)]++[(ndE y9.1.1)]),()),())))))) (join0 ((),((x.1.1,(y7.2.1,(y7.2.2,((),())))),((0,(0,([],()))),(([(ndE y1.1.1)],()),())))))) (fun (t0:(Unit×(ParT×(JT×(NdsT×Unit)))))=>bo (c54 ([[123]],()) t0.2.1.1 (t0.2.1.2.1,t0.2.1.2.2.1)) fun y7=>cond (!y7.1.1) (some (some (((t0.2.1.1,(y7.2.1,(y7.2.2,((),())))),()),((ndE (Nd.mk 6 0 t0.2.2.2.1.1)),())))) (bo (c73 () t0.2.1.1 (y7.2.1,y7.2.2)) fun y9=>ck ((List.length t0.2.2.2.1.1)+(List.length [(ndE y9.1.1)])) (iter fu (fun (rec1:(Unit×(ParT×(JT×(NdsT×Unit))))->Option (Option ((ParT×Unit)×(Nd×Unit)))) (s1:(Unit×(ParT×(JT×(NdsT×Unit)))))=>bo (c108 () s1.2.1.1 (s1.2.1.2.1,s1.2.1.2.2.1)) fun y11=>ck ((List.length s1.2.2.2.1.1)+(List.length [(ndE y11.1.1)])) (zQ (fun (join0:(Unit×(ParT×(JT×(NdsT×Unit))))->Option (Option ((ParT×Unit)×(Nd×Unit))))=>bo (c54 ([[44]],()) s1.2.1.1 (y11.2.1,y11.2.2)) fun y13=>cond y13.1.1 (bo (c73 () s1.2.1.1 (y13.2.1,y13.2.2)) fun y15=>ck ((List.length (s1.2.2.2.1.1++[(ndE y11.1.1)]))+(List.length [(ndE y15.1.1)])) (bo (c54 ([[125]],()) s1.2.1.1 (y15.2.1,y15.2.2)) fun y17=>cond (!y17.1.1) (rec1 ((),((s1.2.1.1,(y17.2.1,(y17.2.2,((),())))),(s1.2.2.1,((((s1.2.2.2.1.1++[(ndE y11.1.1)])++[(ndE y15.1.1)]),()),()))))) (join0 ((),((s1.2.1.1,(y17.2.1,(y17.2.2,((),())))),(s1.2.2.1,((((s1.2.2.2.1.1++[(ndE y11.1.1)])++[(ndE y15.1.1)]),()),()))))))) (join0 ((),((s1.2.1.1,(y13.2.1,(y13.2.2,((),())))),(s1.2.2.1,(((s1.2.2.2.1.1++[(ndE y11.1.1)]),()),())))))) (fun (t1:(Unit×(ParT×(JT×(NdsT×Unit)))))=>bo (c78 ([125],()) t1.2.1.1 (t1.2.1.2.1,t1.2.1.2.2.1)) fun y13=>ck ((List.length t1.2.2.2.1.1)+(List.length [(ndE y13.1.1)])) (some (some (((t1.2.1.1,(y13.2.1,(y13.2.2,((),())))),()),((ndE (Nd.mk 6 0 (t1.2.2.2.1.1++[(ndE y13.1.1)]))),()))))))) ((),((t0.2.1.1,(y9.2.1,(y9.2.2,((),())))),(t0.2.2.1,(((t0.2.2.2.1.1++[(ndE y9.1.1)]),()),())))))))) (some none)))
theorem eq75 (fu:Nat) (p:PS) (r:RS) x a:rnA fu p r false false fd75 [parK] [parK] ([]:LK) ([.st TI.node]:LK) x a=sh75 fu p.c54 p.c73 p.c78 p.c85 r.c108 x a:=by kernel_rfl
def sh108 (fu:Nat) (c54:((List Str)×Unit)->MM (Bool×Unit)) (c58:(Str×(Bool×Unit))->MM Unit) (c72:(Int×Unit)->MM (Str×Unit)) (c73:Unit->MM (Nd×Unit)) (c80:Unit->MM (Nd×Unit)) (c114:Unit->MM (Nd×Unit)) (x:(ParT×Unit)) (a:Unit):(Option (Option ((ParT×Unit)×(Nd×Unit)))):=bo (c72 (0,()) x.1.1 (x.1.2.1,x.1.2.2.1)) fun y1=>bo (c80 () x.1.1 (y1.2.1,y1.2.2)) fun y3=>ck (List.length [(ndE y3.1.1)]) (bo (c54 ([[61]],()) x.1.1 (y3.2.1,y3.2.2)) fun y5=>cond y5.1.1 (bo (c73 () x.1.1 (y5.2.1,y5.2.2)) fun y7=>bo (c114 () x.1.1 (y7.2.1,y7.2.2)) fun y9=>ck ((List.length [(ndE y3.1.1)])+(List.length [(ndE y7.1.1),(ndE y9.1.1)])) (bo (c58 (y1.1.1,(false,())) x.1.1 (y9.2.1,y9.2.2)) fun y11=>some (some (((x.1.1,(y11.2.1,(y11.2.2,((),())))),()),((ndE (Nd.mk 8 0 ([(ndE y3.1.1)]++[(ndE y7.1.1),(ndE y9.1.1)]))),()))))) (bo (c58 (y1.1.1,(false,())) x.1.1 (y5.2.1,y5.2.2)) fun y7=>some (some (((x.1.1,(y7.2.1,(y7.2.2,((),())))),()),((ndE (Nd.mk 8 0 [(ndE y3.1.1)])),())))))
theorem eq108 (fu:Nat) (p:PS) (r:RS) x a:rnA fu p r false false fd108 [parK] [parK] ([]:LK) ([.st TI.node]:LK) x a=sh108 fu p.c54 p.c58 p.c72 p.c73 p.c80 r.c114 x a:=by kernel_rfl
def sh79 (fu:Nat) (c54:((List Str)×Unit)->MM (Bool×Unit)) (c73:Unit->MM (Nd×Unit)) (x:(ParT×(NdsT×Unit))) (a:Unit):(Option (Option ((ParT×(NdsT×Unit))×Unit))):=iter fu (fun (rec1:(Unit×(ParT×(NdsT×Unit)))->Option (Option ((ParT×(NdsT×Unit))×Unit))) (s1:(Unit×(ParT×(NdsT×Unit))))=>bo (c54 ([[42]],()) s1.2.1.1 (s1.2.1.2.1,s1.2.1.2.2.1)) fun y1=>cond y1.1.1 (bo (c73 () s1.2.1.1 (y1.2.1,y1.2.2)) fun y3=>ck ((List.length s1.2.2.1.1)+(List.length [(ndE y3.1.1)])) (iter fu (fun (rec2:(Unit×(ParT×(NdsT×Unit)))->Option (Option ((ParT×(NdsT×Unit))×Unit))) (s2:(Unit×(ParT×(NdsT×Unit))))=>bo (c54 ([[99,111,110,115,116],[118,111,108,97,116,105,108,101]],()) s2.2.1.1 (s2.2.1.2.1,s2.2.1.2.2.1)) fun y5=>cond y5.1.1 (bo (c73 () s2.2.1.1 (y5.2.1,y5.2.2)) fun y7=>ck ((List.length s2.2.2.1.1)+(List.length [(ndE y7.1.1)])) (rec2 ((),((s2.2.1.1,(y7.2.1,(y7.2.2,((),())))),(((s2.2.2.1.1++[(ndE y7.1.1)]),()),()))))) (rec1 ((),((s2.2.1.1,(y5.2.1,(y5.2.2,((),())))),((s2.2.2.1.1,()),()))))) ((),((s1.2.1.1,(y3.2.1,(y3.2.2,((),())))),(((s1.2.2.1.1++[(ndE y3.1.1)]),()),()))))) (some (some (((s1.2.1.1,(y1.2.1,(y1.2.2,((),())))),((s1.2.2.1.1,()),())),())))) ((),((x.1.1,(x.1.2.1,(x.1.2.2.1,((),())))),((x.2.1.1,()),())))
theorem eq79 (fu:Nat) (p:PS) (r:RS) x a:rnA fu p r false false fd79 [parK,ptsK] [parK,ptsK] ([]:LK) ([]:LK) x a=sh79 fu p.c54 p.c73 x a:=by kernel_rfl
def sh82 (fu:Nat) (c54:((List Str)×Unit)->MM (Bool×Unit)) (c73:Unit->MM (Nd×Unit)) (c78:(Str×Unit)->MM (Nd×Unit)) (c81:Unit->MM ((Nd×Unit)×(Option MT))) (c111:Unit->MM (Nd×Unit)) (x:(ParT×(NdsT×Unit))) (a:Unit):(Option (Option ((ParT×(NdsT×Unit))×Unit))):=iter fu (fun (rec1:(Unit×(ParT×(NdsT×Unit)))->Option (Option ((ParT×(NdsT×Unit))×Unit))) (s1:(Unit×(ParT×(NdsT×Unit))))=>bo (c54 ([[40],[91]],()) s1.2.1.1 (s1.2.1.2.1,s1.2.1.2.2.1)) fun y1=>cond y1.1.1 (bo (c54 ([[40]],()) s1.2.1.1 (y1.2.1,y1.2.2)) fun y3=>cond y3.1.1 (bo (c81 () s1.2.1.1 (y3.2.1,y3.2.2)) fun y5=>ck ((List.length s1.2.2.1.1)+(List.length [(ndE y5.1.1.1)])) (rec1 ((),((s1.2.1.1,(y5.2.1,(y5.2.2,((),())))),(((s1.2.2.1.1++[(ndE y5.1.1.1)]),()),()))))) (bo (c73 () s1.2.1.1 (y3.2.1,y3.2.2)) fun y5=>ck ((List.length s1.2.2.1.1)+(List.length [(ndE y5.1.1)])) (bo (c54 ([[93]],()) s1.2.1.1 (y5.2.1,y5.2.2)) fun y7=>cond (!y7.1.1) (bo (c111 () s1.2.1.1 (y7.2.1,y7.2.2)) fun y9=>ck ((List.length (s1.2.2.1.1++[(ndE y5.1.1)]))+(List.length [(ndE y9.1.1)])) (bo (c78 ([93],()) s1.2.1.1 (y9.2.1,y9.2.2)) fun y11=>ck ((List.length ((s1.2.2.1.1++[(ndE y5.1.1)])++[(ndE y9.1.1)]))+(List.length [(ndE y11.1.1)])) (rec1 ((),((s1.2.1.1,(y11.2.1,(y11.2.2,((),())))),(((((s1.2.2.1.1++[(ndE y5.1.1)])++[(ndE y9.1.1)])++[(ndE y11.1.1)]),()),())))))) (bo (c78 ([93],()) s1.2.1.1 (y7.2.1,y7.2.2)) fun y9=>ck ((List.length (s1.2.2.1.1++[(ndE y5.1.1)]))+(List.length [(ndE y9.1.1)])) (rec1 ((),((s1.2.1.1,(y9.2.1,(y9.2.2,((),())))),((((s1.2.2.1.1++[(ndE y5.1.1)])++[(ndE y9.1.1)]),()),())))))))) (some (some (((s1.2.1.1,(y1.2.1,(y1.2.2,((),())))),((s1.2.2.1.1,()),())),())))) ((),((x.1.1,(x.1.2.1,(x.1.2.2.1,((),())))),((x.2.1.1,()),())))
theorem eq82 (fu:Nat) (p:PS) (r:RS) x a:rnA fu p r false true fd82 [parK,ptsK] [parK,ptsK] ([]:LK) ([]:LK) x a=sh82 fu p.c54 p.c73 p.c78 r.c81 r.c111 x a:=by kernel_rfl
def sh56 (fu:Nat) (c54:((List Str)×Unit)->MM (Bool×Unit)) (c56:Unit->MM ((Nd×(Str×(Bool×Unit)))×(Option (Option MT)))) (c72:(Int×Unit)->MM (Str×Unit)) (c73:Unit->MM (Nd×Unit)) (c78:(Str×Unit)->MM (Nd×Unit)) (c79:Unit->(List Nd)->MM (Unit×(List Nd))) (c80:Unit->MM (Nd×Unit)) (c81:Unit->MM ((Nd×Unit)×(Option MT))) (c82:Unit->(List Nd)->MM (Unit×(List Nd))) (x:(ParT×Unit)) (a:Unit):(Option (Option (((LT×(Int×((List MT)×((Option (Option MT))×Unit))))×Unit)×(Nd×(Str×(Bool×Unit)))))):=bo (c79 () [] x.1.1 (x.1.2.1,x.1.2.2.1)) fun y1=>bo (c54 ([[40]],()) x.1.1 (y1.2.1,y1.2.2)) fun y3=>cond (!y3.1.1) (bo (c72 (0,()) x.1.1 (y3.2.1,y3.2.2)) fun y5=>bo (c80 () x.1.1 (y5.2.1,y5.2.2)) fun y7=>ck ((List.length y1.1.2)+(List.length [(ndE y7.1.1)])) (zQ (fun (join0:((Bool×((Option MT)×Unit))×(ParT×(JT×(NdsT×Unit))))->Option (Option (((LT×(Int×((List MT)×((Option (Option MT))×Unit))))×Unit)×(Nd×(Str×(Bool×Unit))))))=>bo (c54 ([[40]],()) x.1.1 (y7.2.1,y7.2.2)) fun y9=>cond y9.1.1 (bo (c81 () x.1.1 (y9.2.1,y9.2.2)) fun y11=>zJ y11.1.2 (ck ((List.length (y1.1.2++[(ndE y7.1.1)]))+(List.length [(ndE y11.1.1.1)])) (join0 ((true,(none,())),((x.1.1,(y11.2.1,(y11.2.2,((),())))),((0,(0,([],()))),((((y1.1.2++[(ndE y7.1.1)])++[(ndE y11.1.1.1)]),()),())))))) fun y12=>ck ((List.length (y1.1.2++[(ndE y7.1.1)]))+(List.length [(ndE y11.1.1.1)])) (join0 ((true,((some y12),())),((x.1.1,(y11.2.1,(y11.2.2,((),())))),((0,(0,([],()))),((((y1.1.2++[(ndE y7.1.1)])++[(ndE y11.1.1.1)]),()),())))))) (join0 ((false,(none,())),((x.1.1,(y9.2.1,(y9.2.2,((),())))),((0,(0,([],()))),(((y1.1.2++[(ndE y7.1.1)]),()),())))))) (fun (t0:((Bool×((Option MT)×Unit))×(ParT×(JT×(NdsT×Unit)))))=>zJ t0.1.2.1 (bo (c82 () t0.2.2.2.1.1 t0.2.1.1 (t0.2.1.2.1,t0.2.1.2.2.1)) fun y9=>some (some (((t0.2.1.1,(y9.2.1,(y9.2.2,((some none),())))),()),((ndE (Nd.mk 10 0 y9.1.2)),(y5.1.1,(t0.1.1,())))))) fun y8=>bo (c82 () t0.2.2.2.1.1 t0.2.1.1 (t0.2.1.2.1,t0.2.1.2.2.1)) fun y10=>some (some (((t0.2.1.1,(y10.2.1,(y10.2.2,((some (some y8)),())))),()),((ndE (Nd.mk 10 0 y10.1.2)),(y5.1.1,(t0.1.1,())))))))) (bo (c73 () x.1.1 (y3.2.1,y3.2.2)) fun y5=>ck ((List.length y1.1.2)+(List.length [(ndE y5.1.1)])) (bo (c56 () x.1.1 (y5.2.1,y5.2.2)) fun y7=>bo (c78 ([41],()) x.1.1 (y7.2.1,y7.2.2)) fun y9=>ck ((List.length (y1.1.2++[(ndE y5.1.1)]))+(List.length [(ndE y7.1.1.1),(ndE y9.1.1)])) (bo (c82 () ((y1.1.2++[(ndE y5.1.1)])++[(ndE y7.1.1.1),(ndE y9.1.1)]) x.1.1 (y9.2.1,y9.2.2)) fun y11=>some (some (((x.1.1,(y11.2.1,(y11.2.2,(none,())))),()),((ndE (Nd.mk 10 0 y11.1.2)),(y7.1.1.2.1,(false,()))))))))
theorem eq56 (fu:Nat) (p:PS) (r:RS) x a:rnA fu p r true false fd56 [parK] [parJ] ([]:LK) ([.st TI.node,.str,.bool]:LK) x a=sh56 fu p.c54 r.c56 p.c72 p.c73 p.c78 r.c79 p.c80 r.c81 r.c82 x a:=by kernel_rfl
def sh130 (fu:Nat) (c54:((List Str)×Unit)->MM (Bool×Unit)) (c72:(Int×Unit)->MM (Str×Unit)) (c73:Unit->MM (Nd×Unit)) (c76:(Int×Unit)->MM (Bool×Unit)) (c78:(Str×Unit)->MM (Nd×Unit)) (c79:Unit->(List Nd)->MM (Unit×(List Nd))) (c82:Unit->(List Nd)->MM (Unit×(List Nd))) (c85:(Int×Unit)->MM (Bool×Unit)) (c130:(Bool×Unit)->MM (Nd×(Str×(Bool×Unit)))) (x:(ParT×Unit)) (a:(Bool×Unit)):(Option (Option ((ParT×Unit)×(Nd×(Str×(Bool×Unit)))))):=bo (c79 () [] x.1.1 (x.1.2.1,x.1.2.2.1)) fun y1=>bo (c72 (1,()) x.1.1 (y1.2.1,y1.2.2)) fun y3=>zQ (fun (join0:((Str×Unit)×(ParT×(JT×(NdsT×Unit))))->Option (Option ((ParT×Unit)×(Nd×(Str×(Bool×Unit))))))=>cond a.1 (bo (c85 (0,()) x.1.1 (y3.2.1,y3.2.2)) fun y5=>cond y5.1.1 (bo (c72 (0,()) x.1.1 (y5.2.1,y5.2.2)) fun y7=>bo (c73 () x.1.1 (y7.2.1,y7.2.2)) fun y9=>ck ((List.length y1.1.2)+(List.length [(ndE y9.1.1)])) (join0 ((y7.1.1,()),((x.1.1,(y9.2.1,(y9.2.2,((),())))),((0,(0,([],()))),(((y1.1.2++[(ndE y9.1.1)]),()),())))))) (bo (c54 ([[40]],()) x.1.1 (y5.2.1,y5.2.2)) fun y7=>cond y7.1.1 (cond (seq y3.1.1 [42]) (bo (c73 () x.1.1 (y7.2.1,y7.2.2)) fun y9=>ck ((List.length y1.1.2)+(List.length [(ndE y9.1.1)])) (bo (c130 (a.1,()) x.1.1 (y9.2.1,y9.2.2)) fun y11=>zQ (fun (join1:(Unit×(ParT×(JT×(NdsT×Unit))))->Option (Option ((ParT×Unit)×(Nd×(Str×(Bool×Unit))))))=>cond y11.1.2.2.1 (ck ((List.length (y1.1.2++[(ndE y9.1.1)]))+(List.length [(ndE y11.1.1)])) (join1 ((),((x.1.1,(y11.2.1,(y11.2.2,((),())))),((0,(0,([],()))),((((y1.1.2++[(ndE y9.1.1)])++[(ndE y11.1.1)]),()),())))))) (join1 ((),((x.1.1,(y11.2.1,(y11.2.2,((),())))),((0,(0,([],()))),(((y1.1.2++[(ndE y9.1.1)]),()),())))))) (fun (t0:(Unit×(ParT×(JT×(NdsT×Unit)))))=>bo (c78 ([41],()) t0.2.1.1 (t0.2.1.2.1,t0.2.1.2.2.1)) fun y13=>ck ((List.length t0.2.2.2.1.1)+(List.length [(ndE y13.1.1)])) (join0 ((y11.1.2.1,()),((t0.2.1.1,(y13.2.1,(y13.2.2,((),())))),(t0.2.2.1,(((t0.2.2.2.1.1++[(ndE y13.1.1)]),()),())))))))) (cond (seq y3.1.1 [40]) (bo (c73 () x.1.1 (y7.2.1,y7.2.2)) fun y9=>ck ((List.length y1.1.2)+(List.length [(ndE y9.1.1)])) (bo (c130 (a.1,()) x.1.1 (y9.2.1,y9.2.2)) fun y11=>zQ (fun (join1:(Unit×(ParT×(JT×(NdsT×Unit))))->Option (Option ((ParT×Unit)×(Nd×(Str×(Bool×Unit))))))=>cond y11.1.2.2.1 (ck ((List.length (y1.1.2++[(ndE y9.1.1)]))+(List.length [(ndE y11.1.1)])) (join1 ((),((x.1.1,(y11.2.1,(y11.2.2,((),())))),((0,(0,([],()))),((((y1.1.2++[(ndE y9.1.1)])++[(ndE y11.1.1)]),()),())))))) (join1 ((),((x.1.1,(y11.2.1,(y11.2.2,((),())))),((0,(0,([],()))),(((y1.1.2++[(ndE y9.1.1)]),()),())))))) (fun (t0:(Unit×(ParT×(JT×(NdsT×Unit)))))=>bo (c78 ([41],()) t0.2.1.1 (t0.2.1.2.1,t0.2.1.2.2.1)) fun y13=>ck ((List.length t0.2.2.2.1.1)+(List.length [(ndE y13.1.1)])) (join0 ((y11.1.2.1,()),((t0.2.1.1,(y13.2.1,(y13.2.2,((),())))),(t0.2.2.1,(((t0.2.2.2.1.1++[(ndE y13.1.1)]),()),())))))))) (cond (seq y3.1.1 [91]) (bo (c73 () x.1.1 (y7.2.1,y7.2.2)) fun y9=>ck ((List.length y1.1.2)+(List.length [(ndE y9.1.1)])) (bo (c130 (a.1,()) x.1.1 (y9.2.1,y9.2.2)) fun y11=>zQ (fun (join1:(Unit×(ParT×(JT×(NdsT×Unit))))->Option (Option ((ParT×Unit)×(Nd×(Str×(Bool×Unit))))))=>cond y11.1.2.2.1 (ck ((List.length (y1.1.2++[(ndE y9.1.1)]))+(List.length [(ndE y11.1.1)])) (join1 ((),((x.1.1,(y11.2.1,(y11.2.2,((),())))),((0,(0,([],()))),((((y1.1.2++[(ndE y9.1.1)])++[(ndE y11.1.1)]),()),())))))) (join1 ((),((x.1.1,(y11.2.1,(y11.2.2,((),())))),((0,(0,([],()))),(((y1.1.2++[(ndE y9.1.1)]),()),())))))) (fun (t0:(Unit×(ParT×(JT×(NdsT×Unit)))))=>bo (c78 ([41],()) t0.2.1.1 (t0.2.1.2.1,t0.2.1.2.2.1)) fun y13=>ck ((List.length t0.2.2.2.1.1)+(List.length [(ndE y13.1.1)])) (join0 ((y11.1.2.1,()),((t0.2.1.1,(y13.2.1,(y13.2.2,((),())))),(t0.2.2.1,(((t0.2.2.2.1.1++[(ndE y13.1.1)]),()),())))))))) (cond a.1 (bo (c85 (1,()) x.1.1 (y7.2.1,y7.2.2)) fun y9=>cond y9.1.1 (bo (c76 (1,()) x.1.1 (y9.2.1,y9.2.2)) fun y11=>cond (!y11.1.1) (bo (c73 () x.1.1 (y11.2.1,y11.2.2)) fun y13=>ck ((List.length y1.1.2)+(List.length [(ndE y13.1.1)])) (bo (c130 (a.1,()) x.1.1 (y13.2.1,y13.2.2)) fun y15=>zQ (fun (join1:(Unit×(ParT×(JT×(NdsT×Unit))))->Option (Option ((ParT×Unit)×(Nd×(Str×(Bool×Unit))))))=>cond y15.1.2.2.1 (ck ((List.length (y1.1.2++[(ndE y13.1.1)]))+(List.length [(ndE y15.1.1)])) (join1 ((),((x.1.1,(y15.2.1,(y15.2.2,((),())))),((0,(0,([],()))),((((y1.1.2++[(ndE y13.1.1)])++[(ndE y15.1.1)]),()),())))))) (join1 ((),((x.1.1,(y15.2.1,(y15.2.2,((),())))),((0,(0,([],()))),(((y1.1.2++[(ndE y13.1.1)]),()),())))))) (fun (t0:(Unit×(ParT×(JT×(NdsT×Unit)))))=>bo (c78 ([41],()) t0.2.1.1 (t0.2.1.2.1,t0.2.1.2.2.1)) fun y17=>ck ((List.length t0.2.2.2.1.1)+(List.length [(ndE y17.1.1)])) (join0 ((y15.1.2.1,()),((t0.2.1.1,(y17.2.1,(y17.2.2,((),())))),(t0.2.2.1,(((t0.2.2.2.1.1++[(ndE y17.1.1)]),()),())))))))) (join0 (([],()),((x.1.1,(y11.2.1,(y11.2.2,((),())))),((0,(0,([],()))),((y1.1.2,()),())))))) (join0 (([],()),((x.1.1,(y9.2.1,(y9.2.2,((),())))),((0,(0,([],()))),((y1.1.2,()),())))))) (join0 (([],()),((x.1.1,(y7.2.1,(y7.2.2,((),())))),((0,(0,([],()))),((y1.1.2,()),()))))))))) (join0 (([],()),((x.1.1,(y7.2.1,(y7.2.2,((),())))),((0,(0,([],()))),((y1.1.2,()),()))))))) (bo (c54 ([[40]],()) x.1.1 (y3.2.1,y3.2.2)) fun y5=>cond y5.1.1 (cond (seq y3.1.1 [42]) (bo (c73 () x.1.1 (y5.2.1,y5.2.2)) fun y7=>ck ((List.length y1.1.2)+(List.length [(ndE y7.1.1)])) (bo (c130 (a.1,()) x.1.1 (y7.2.1,y7.2.2)) fun y9=>zQ (fun (join1:(Unit×(ParT×(JT×(NdsT×Unit))))->Option (Option ((ParT×Unit)×(Nd×(Str×(Bool×Unit))))))=>cond y9.1.2.2.1 (ck ((List.length (y1.1.2++[(ndE y7.1.1)]))+(List.length [(ndE y9.1.1)])) (join1 ((),((x.1.1,(y9.2.1,(y9.2.2,((),())))),((0,(0,([],()))),((((y1.1.2++[(ndE y7.1.1)])++[(ndE y9.1.1)]),()),())))))) (join1 ((),((x.1.1,(y9.2.1,(y9.2.2,((),())))),((0,(0,([],()))),(((y1.1.2++[(ndE y7.1.1)]),()),())))))) (fun (t0:(Unit×(ParT×(JT×(NdsT×Unit)))))=>bo (c78 ([41],()) t0.2.1.1 (t0.2.1.2.1,t0.2.1.2.2.1)) fun y11=>ck ((List.length t0.2.2.2.1.1)+(List.length [(ndE y11.1.1)])) (join0 ((y9.1.2.1,()),((t0.2.1.1,(y11.2.1,(y11.2.2,((),())))),(t0.2.2.1,(((t0.2.2.2.1.1++[(ndE y11.1.1)]),()),())))))))) (cond (seq y3.1.1 [40]) (bo (c73 () x.1.1 (y5.2.1,y5.2.2)) fun y7=>ck ((List.length y1.1.2)+(List.length [(ndE y7.1.1)])) (bo (c130 (a.1,()) x.1.1 (y7.2.1,y7.2.2)) fun y9=>zQ (fun (join1:(Unit×(ParT×(JT×(NdsT×Unit))))->Option (Option ((ParT×Unit)×(Nd×(Str×(Bool×Unit))))))=>cond y9.1.2.2.1 (ck ((List.length (y1.1.2++[(ndE y7.1.1)]))+(List.length [(ndE y9.1.1)])) (join1 ((),((x.1.1,(y9.2.1,(y9.2.2,((),())))),((0,(0,([],()))),((((y1.1.2++[(ndE y7.1.1)])++[(ndE y9.1.1)]),()),())))))) (join1 ((),((x.1.1,(y9.2.1,(y9.2.2,((),())))),((0,(0,([],()))),(((y1.1.2++[(ndE y7.1.1)]),()),())))))) (fun (t0:(Unit×(ParT×(JT×(NdsT×Unit)))))=>bo (c78 ([41],()) t0.2.1.1 (t0.2.1.2.1,t0.2.1.2.2.1)) fun y11=>ck ((List.length t0.2.2.2.1.1)+(List.length [(ndE y11.1.1)])) (join0 ((y9.1.2.1,()),((t0.2.1.1,(y11.2.1,(y11.2.2,((),())))),(t0.2.2.1,(((t0.2.2.2.1.1++[(ndE y11.1.1)]),()),())))))))) (cond (seq y3.1.1 [91]) (bo (c73 () x.1.1 (y5.2.1,y5.2.2)) fun y7=>ck ((List.length y1.1.2)+(List.length [(ndE y7.1.1)])) (bo (c130 (a.1,()) x.1.1 (y7.2.1,y7.2.2)) fun y9=>zQ (fun (join1:(Unit×(ParT×(JT×(NdsT×Unit))))->Option (Option ((ParT×Unit)×(Nd×(Str×(Bool×Unit))))))=>cond y9.1.2.2.1 (ck ((List.length (y1.1.2++[(ndE y7.1.1)]))+(List.length [(ndE y9.1.1)])) (join1 ((),((x.1.1,(y9.2.1,(y9.2.2,((),())))),((0,(0,([],()))),((((y1.1.2++[(ndE y7.1.1)])++[(ndE y9.1.1)]),()),())))))) (join1 ((),((x.1.1,(y9.2.1,(y9.2.2,((),())))),((0,(0,([],()))),(((y1.1.2++[(ndE y7.1.1)]),()),())))))) (fun (t0:(Unit×(ParT×(JT×(NdsT×Unit)))))=>bo (c78 ([41],()) t0.2.1.1 (t0.2.1.2.1,t0.2.1.2.2.1)) fun y11=>ck ((List.length t0.2.2.2.1.1)+(List.length [(ndE y11.1.1)])) (join0 ((y9.1.2.1,()),((t0.2.1.1,(y11.2.1,(y11.2.2,((),())))),(t0.2.2.1,(((t0.2.2.2.1.1++[(ndE y11.1.1)]),()),())))))))) (cond a.1 (bo (c85 (1,()) x.1.1 (y5.2.1,y5.2.2)) fun y7=>cond y7.1.1 (bo (c76 (1,()) x.1.1 (y7.2.1,y7.2.2)) fun y9=>cond (!y9.1.1) (bo (c73 () x.1.1 (y9.2.1,y9.2.2)) fun y11=>ck ((List.length y1.1.2)+(List.length [(ndE y11.1.1)])) (bo (c130 (a.1,()) x.1.1 (y11.2.1,y11.2.2)) fun y13=>zQ (fun (join1:(Unit×(ParT×(JT×(NdsT×Unit))))->Option (Option ((ParT×Unit)×(Nd×(Str×(Bool×Unit))))))=>cond y13.1.2.2.1 (ck ((List.length (y1.1.2++[(ndE y11.1.1)]))+(List.length [(ndE y13.1.1)])) (join1 ((),((x.1.1,(y13.2.1,(y13.2.2,((),())))),((0,(0,([],()))),((((y1.1.2++[(ndE y11.1.1)])++[(ndE y13.1.1)]),()),())))))) (join1 ((),((x.1.1,(y13.2.1,(y13.2.2,((),())))),((0,(0,([],()))),(((y1.1.2++[(ndE y11.1.1)]),()),())))))) (fun (t0:(Unit×(ParT×(JT×(NdsT×Unit)))))=>bo (c78 ([41],()) t0.2.1.1 (t0.2.1.2.1,t0.2.1.2.2.1)) fun y15=>ck ((List.length t0.2.2.2.1.1)+(List.length [(ndE y15.1.1)])) (join0 ((y13.1.2.1,()),((t0.2.1.1,(y15.2.1,(y15.2.2,((),())))),(t0.2.2.1,(((t0.2.2.2.1.1++[(ndE y15.1.1)]),()),())))))))) (join0 (([],()),((x.1.1,(y9.2.1,(y9.2.2,((),())))),((0,(0,([],()))),((y1.1.2,()),())))))) (join0 (([],()),((x.1.1,(y7.2.1,(y7.2.2,((),())))),((0,(0,([],()))),((y1.1.2,()),())))))) (join0 (([],()),((x.1.1,(y5.2.1,(y5.2.2,((),())))),((0,(0,([],()))),((y1.1.2,()),()))))))))) (join0 (([],()),((x.1.1,(y5.2.1,(y5.2.2,((),())))),((0,(0,([],()))),((y1.1.2,()),()))))))) (fun (t0:((Str×Unit)×(ParT×(JT×(NdsT×Unit)))))=>bo (c82 () t0.2.2.2.1.1 t0.2.1.1 (t0.2.1.2.1,t0.2.1.2.2.1)) fun y5=>some (some (((t0.2.1.1,(y5.2.1,(y5.2.2,((),())))),()),((ndE (Nd.mk 10 0 y5.1.2)),(t0.1.1,((ilt 0 (lenI y5.1.2)),()))))))
theorem eq130 (fu:Nat) (p:PS) (r:RS) x a:rnA fu p r false false fd130 [parK] [parK] ([.bool]:LK) ([.st TI.node,.str,.bool]:LK) x a=sh130 fu p.c54 p.c72 p.c73 p.c76 p.c78 r.c79 r.c82 p.c85 r.c130 x a:=by kernel_rfl
def sh81 (fu:Nat) (c54:((List Str)×Unit)->MM (Bool×Unit)) (c59:((Option MT)×Unit)->MM Unit) (c61:Unit->MM ((Option MT)×Unit)) (c73:Unit->MM (Nd×Unit)) (c78:(Str×Unit)->MM (Nd×Unit)) (c110:Unit->MM (Nd×Unit)) (x:(ParT×Unit)) (a:Unit):(Option (Option ((zBM×Unit)×(Nd×Unit)))):=bo (c78 ([40],()) x.1.1 (x.1.2.1,x.1.2.2.1)) fun y1=>ck (List.length [(ndE y1.1.1)]) (bo (c59 ((some []),()) x.1.1 (y1.2.1,y1.2.2)) fun y3=>bo (c54 ([[41]],()) x.1.1 (y3.2.1,y3.2.2)) fun y5=>iter fu (fun (rec1:((Bool×Unit)×(ParT×(JT×(NdsT×Unit))))->Option (Option ((zBM×Unit)×(Nd×Unit)))) (s1:((Bool×Unit)×(ParT×(JT×(NdsT×Unit)))))=>cond s1.1.1 (cond (ilt 1 (lenI s1.2.2.2.1.1)) (bo (c73 () s1.2.1.1 (s1.2.1.2.1,s1.2.1.2.2.1)) fun y7=>ck ((List.length s1.2.2.2.1.1)+(List.length [(ndE y7.1.1)])) (bo (c54 ([[46,46,46]],()) s1.2.1.1 (y7.2.1,y7.2.2)) fun y9=>cond y9.1.1 (bo (c73 () s1.2.1.1 (y9.2.1,y9.2.2)) fun y11=>ck ((List.length (s1.2.2.2.1.1++[(ndE y7.1.1)]))+(List.length [(ndE y11.1.1)])) (bo (c78 ([41],()) s1.2.1.1 (y11.2.1,y11.2.2)) fun y13=>ck ((List.length ((s1.2.2.2.1.1++[(ndE y7.1.1)])++[(ndE y11.1.1)]))+(List.length [(ndE y13.1.1)])) (bo (c61 () s1.2.1.1 (y13.2.1,y13.2.2)) fun y15=>zJ y15.1.1 (some (some (((s1.2.1.1,(y15.2.1,(y15.2.2,(none,())))),()),((ndE (Nd.mk 11 0 (((s1.2.2.2.1.1++[(ndE y7.1.1)])++[(ndE y11.1.1)])++[(ndE y13.1.1)]))),())))) fun y16=>some (some (((s1.2.1.1,(y15.2.1,(y15.2.2,((some y16),())))),()),((ndE (Nd.mk 11 0 (((s1.2.2.2.1.1++[(ndE y7.1.1)])++[(ndE y11.1.1)])++[(ndE y13.1.1)]))),())))))) (bo (c110 () s1.2.1.1 (y9.2.1,y9.2.2)) fun y11=>ck ((List.length (s1.2.2.2.1.1++[(ndE y7.1.1)]))+(List.length [(ndE y11.1.1)])) (bo (c54 ([[44]],()) s1.2.1.1 (y11.2.1,y11.2.2)) fun y13=>rec1 ((y13.1.1,()),((s1.2.1.1,(y13.2.1,(y13.2.2,((),())))),(s1.2.2.1,((((s1.2.2.2.1.1++[(ndE y7.1.1)])++[(ndE y11.1.1)]),()),())))))))) (bo (c110 () s1.2.1.1 (s1.2.1.2.1,s1.2.1.2.2.1)) fun y7=>ck ((List.length s1.2.2.2.1.1)+(List.length [(ndE y7.1.1)])) (bo (c54 ([[44]],()) s1.2.1.1 (y7.2.1,y7.2.2)) fun y9=>rec1 ((y9.1.1,()),((s1.2.1.1,(y9.2.1,(y9.2.2,((),())))),(s1.2.2.1,(((s1.2.2.2.1.1++[(ndE y7.1.1)]),()),()))))))) (bo (c78 ([41],()) s1.2.1.1 (s1.2.1.2.1,s1.2.1.2.2.1)) fun y7=>ck ((List.length s1.2.2.2.1.1)+(List.length [(ndE y7.1.1)])) (bo (c61 () s1.2.1.1 (y7.2.1,y7.2.2)) fun y9=>zJ y9.1.1 (some (some (((s1.2.1.1,(y9.2.1,(y9.2.2,(none,())))),()),((ndE (Nd.mk 11 0 (s1.2.2.2.1.1++[(ndE y7.1.1)]))),())))) fun y10=>some (some (((s1.2.1.1,(y9.2.1,(y9.2.2,((some y10),())))),()),((ndE (Nd.mk 11 0 (s1.2.2.2.1.1++[(ndE y7.1.1)]))),())))))) (((!y5.1.1),()),((x.1.1,(y5.2.1,(y5.2.2,((),())))),((0,(0,([],()))),(([(ndE y1.1.1)],()),())))))
theorem eq81 (fu:Nat) (p:PS) (r:RS) x a:rnA fu p r false false fd81 [parK] [parL] ([]:LK) ([.st TI.node]:LK) x a=sh81 fu p.c54 p.c59 p.c61 p.c73 p.c78 r.c110 x a:=by kernel_rfl
def sh110 (fu:Nat) (c53:Unit->MM (Nd×(Bool×Unit))) (c58:(Str×(Bool×Unit))->MM Unit) (c130:(Bool×Unit)->MM (Nd×(Str×(Bool×Unit)))) (x:(ParT×Unit)) (a:Unit):(Option (Option ((ParT×Unit)×(Nd×Unit)))):=bo (c53 () x.1.1 (x.1.2.1,x.1.2.2.1)) fun y1=>ck (List.length [(ndE y1.1.1)]) (bo (c130 (true,()) x.1.1 (y1.2.1,y1.2.2)) fun y3=>zQ (fun (join0:(Unit×(ParT×(JT×(NdsT×Unit))))->Option (Option ((ParT×Unit)×(Nd×Unit))))=>cond y3.1.2.2.1 (ck ((List.length [(ndE y1.1.1)])+(List.length [(ndE y3.1.1)])) (join0 ((),((x.1.1,(y3.2.1,(y3.2.2,((),())))),((0,(0,([],()))),((([(ndE y1.1.1)]++[(ndE y3.1.1)]),()),())))))) (join0 ((),((x.1.1,(y3.2.1,(y3.2.2,((),())))),((0,(0,([],()))),(([(ndE y1.1.1)],()),())))))) (fun (t0:(Unit×(ParT×(JT×(NdsT×Unit)))))=>bo (c58 (y3.1.2.1,(y1.1.2.1,())) t0.2.1.1 (t0.2.1.2.1,t0.2.1.2.2.1)) fun y5=>some (some (((t0.2.1.1,(y5.2.1,(y5.2.2,((),())))),()),((ndE (Nd.mk 12 0 t0.2.2.2.1.1)),())))))
theorem eq110 (fu:Nat) (p:PS) (r:RS) x a:rnA fu p r false false fd110 [parK] [parK] ([]:LK) ([.st TI.node]:LK) x a=sh110 fu r.c53 p.c58 r.c130 x a:=by kernel_rfl
def sh151 (fu:Nat) (c53:Unit->MM (Nd×(Bool×Unit))) (c130:(Bool×Unit)->MM (Nd×(Str×(Bool×Unit)))) (x:(ParT×Unit)) (a:Unit):(Option (Option ((ParT×Unit)×(Nd×Unit)))):=bo (c53 () x.1.1 (x.1.2.1,x.1.2.2.1)) fun y1=>ck (List.length [(ndE y1.1.1)]) (bo (c130 (false,()) x.1.1 (y1.2.1,y1.2.2)) fun y3=>cond y3.1.2.2.1 (ck ((List.length [(ndE y1.1.1)])+(List.length [(ndE y3.1.1)])) (some (some (((x.1.1,(y3.2.1,(y3.2.2,((),())))),()),((ndE (Nd.mk 14 0 ([(ndE y1.1.1)]++[(ndE y3.1.1)]))),()))))) (some (some (((x.1.1,(y3.2.1,(y3.2.2,((),())))),()),((ndE (Nd.mk 14 0 [(ndE y1.1.1)])),())))))
theorem eq151 (fu:Nat) (p:PS) (r:RS) x a:rnA fu p r false false fd151 [parK] [parK] ([]:LK) ([.st TI.node]:LK) x a=sh151 fu r.c53 r.c130 x a:=by kernel_rfl
def sh83 (fu:Nat) (c54:((List Str)×Unit)->MM (Bool×Unit)) (c73:Unit->MM (Nd×Unit)) (c78:(Str×Unit)->MM (Nd×Unit)) (c83:Unit->MM (Nd×Unit)) (c111:Unit->MM (Nd×Unit)) (x:(ParT×Unit)) (a:Unit):(Option (Option ((ParT×Unit)×(Nd×Unit)))):=bo (c54 ([[123]],()) x.1.1 (x.1.2.1,x.1.2.2.1)) fun y1=>cond (!y1.1.1) (bo (c111 () x.1.1 (y1.2.1,y1.2.2)) fun y3=>some (some (((x.1.1,(y3.2.1,(y3.2.2,((),())))),()),((ndE y3.1.1),())))) (bo (c73 () x.1.1 (y1.2.1,y1.2.2)) fun y3=>ck (List.length [(ndE y3.1.1)]) (iter fu (fun (rec1:(Unit×(ParT×(JT×(NdsT×Unit))))->Option (Option ((ParT×Unit)×(Nd×Unit)))) (s1:(Unit×(ParT×(JT×(NdsT×Unit)))))=>bo (c54 ([[125]],()) s1.2.1.1 (s1.2.1.2.1,s1.2.1.2.2.1)) fun y5=>cond (!y5.1.1) (bo (c83 () s1.2.1.1 (y5.2.1,y5.2.2)) fun y7=>ck ((List.length s1.2.2.2.1.1)+(List.length [(ndE y7.1.1)])) (bo (c54 ([[44]],()) s1.2.1.1 (y7.2.1,y7.2.2)) fun y9=>cond (!y9.1.1) (bo (c78 ([125],()) s1.2.1.1 (y9.2.1,y9.2.2)) fun y11=>ck ((List.length (s1.2.2.2.1.1++[(ndE y7.1.1)]))+(List.length [(ndE y11.1.1)])) (some (some (((s1.2.1.1,(y11.2.1,(y11.2.2,((),())))),()),((ndE (Nd.mk 13 0 ((s1.2.2.2.1.1++[(ndE y7.1.1)])++[(ndE y11.1.1)]))),()))))) (bo (c73 () s1.2.1.1 (y9.2.1,y9.2.2)) fun y11=>ck ((List.length (s1.2.2.2.1.1++[(ndE y7.1.1)]))+(List.length [(ndE y11.1.1)])) (rec1 ((),((s1.2.1.1,(y11.2.1,(y11.2.2,((),())))),(s1.2.2.1,((((s1.2.2.2.1.1++[(ndE y7.1.1)])++[(ndE y11.1.1)]),()),())))))))) (bo (c78 ([125],()) s1.2.1.1 (y5.2.1,y5.2.2)) fun y7=>ck ((List.length s1.2.2.2.1.1)+(List.length [(ndE y7.1.1)])) (some (some (((s1.2.1.1,(y7.2.1,(y7.2.2,((),())))),()),((ndE (Nd.mk 13 0 (s1.2.2.2.1.1++[(ndE y7.1.1)]))),())))))) ((),((x.1.1,(y3.2.1,(y3.2.2,((),())))),((0,(0,([],()))),(([(ndE y3.1.1)],()),()))))))
theorem eq83 (fu:Nat) (p:PS) (r:RS) x a:rnA fu p r false false fd83 [parK] [parK] ([]:LK) ([.st TI.node]:LK) x a=sh83 fu p.c54 p.c73 p.c78 r.c83 r.c111 x a:=by kernel_rfl
def sh57 (fu:Nat) (c54:((List Str)×Unit)->MM (Bool×Unit)) (c58:(Str×(Bool×Unit))->MM Unit) (c73:Unit->MM (Nd×Unit)) (c83:Unit->MM (Nd×Unit)) (x:(ParT×Unit)) (a:(Nd×(Str×(Bool×Unit)))):(Option (Option ((ParT×Unit)×(Nd×Unit)))):=ck (List.length [(ndE a.1)]) (bo (c58 (a.2.1,(a.2.2.1,())) x.1.1 (x.1.2.1,x.1.2.2.1)) fun y1=>bo (c54 ([[61]],()) x.1.1 (y1.2.1,y1.2.2)) fun y3=>cond y3.1.1 (bo (c73 () x.1.1 (y3.2.1,y3.2.2)) fun y5=>bo (c83 () x.1.1 (y5.2.1,y5.2.2)) fun y7=>ck ((List.length [(ndE a.1)])+(List.length [(ndE y5.1.1),(ndE y7.1.1)])) (some (some (((x.1.1,(y7.2.1,(y7.2.2,((),())))),()),((ndE (Nd.mk 9 0 ([(ndE a.1)]++[(ndE y5.1.1),(ndE y7.1.1)]))),()))))) (some (some (((x.1.1,(y3.2.1,(y3.2.2,((),())))),()),((ndE (Nd.mk 9 0 [(ndE a.1)])),())))))
theorem eq57 (fu:Nat) (p:PS) (r:RS) x a:rnA fu p r false false fd57 [parK] [parK] ([.st TI.node,.str,.bool]:LK) ([.st TI.node]:LK) x a=sh57 fu p.c54 p.c58 p.c73 r.c83 x a:=by kernel_rfl
def sh55 (fu:Nat) (c54:((List Str)×Unit)->MM (Bool×Unit)) (c56:Unit->MM ((Nd×(Str×(Bool×Unit)))×(Option (Option MT)))) (c57:(Nd×(Str×(Bool×Unit)))->MM (Nd×Unit)) (c73:Unit->MM (Nd×Unit)) (c78:(Str×Unit)->MM (Nd×Unit)) (x:(ParT×Unit)) (a:(NdsT×(Bool×Unit))):(Option (Option ((ParT×Unit)×(Nd×Unit)))):=iter fu (fun (rec1:(Unit×(ParT×(NdsT×(JT×Unit))))->Option (Option ((ParT×Unit)×(Nd×Unit)))) (s1:(Unit×(ParT×(NdsT×(JT×Unit)))))=>bo (c54 ([[44]],()) s1.2.1.1 (s1.2.1.2.1,s1.2.1.2.2.1)) fun y1=>cond y1.1.1 (bo (c73 () s1.2.1.1 (y1.2.1,y1.2.2)) fun y3=>ck ((List.length s1.2.2.1.1)+(List.length [(ndE y3.1.1)])) (bo (c56 () s1.2.1.1 (y3.2.1,y3.2.2)) fun y5=>bo (c57 ((ndE y5.1.1.1),(y5.1.1.2.1,(a.2.1,()))) s1.2.1.1 (y5.2.1,y5.2.2)) fun y7=>ck ((List.length (s1.2.2.1.1++[(ndE y3.1.1)]))+(List.length [(ndE y7.1.1)])) (rec1 ((),((s1.2.1.1,(y7.2.1,(y7.2.2,((),())))),((((s1.2.2.1.1++[(ndE y3.1.1)])++[(ndE y7.1.1)]),()),(s1.2.2.2.1,()))))))) (bo (c78 ([59],()) s1.2.1.1 (y1.2.1,y1.2.2)) fun y3=>ck ((List.length s1.2.2.1.1)+(List.length [(ndE y3.1.1)])) (some (some (((s1.2.1.1,(y3.2.1,(y3.2.2,((),())))),()),((ndE (Nd.mk 3 0 (s1.2.2.1.1++[(ndE y3.1.1)]))),())))))) ((),((x.1.1,(x.1.2.1,(x.1.2.2.1,((),())))),((a.1.1,()),((0,(0,([],()))),()))))
theorem eq55 (fu:Nat) (p:PS) (r:RS) x a:rnA fu p r true false fd55 [parK] [parK] ([.ag [.ow true TI.node],.bool]:LK) ([.st TI.node]:LK) x a=sh55 fu p.c54 r.c56 r.c57 p.c73 p.c78 x a:=by kernel_rfl
def sh37 (fu:Nat) (c53:Unit->MM (Nd×(Bool×Unit))) (c54:((List Str)×Unit)->MM (Bool×Unit)) (c55:(NdsT×(Bool×Unit))->MM (Nd×Unit)) (c56:Unit->MM ((Nd×(Str×(Bool×Unit)))×(Option (Option MT)))) (c57:(Nd×(Str×(Bool×Unit)))->MM (Nd×Unit)) (c58:(Str×(Bool×Unit))->MM Unit) (c59:((Option MT)×Unit)->MM Unit) (c60:Unit->MM (Nd×Unit)) (c61:Unit->MM ((Option MT)×Unit)) (x:(ParT×Unit)) (a:(Bool×Unit)):(Option (Option ((ParT×Unit)×(Nd×Unit)))):=bo (c53 () x.1.1 (x.1.2.1,x.1.2.2.1)) fun y1=>ck (List.length [(ndE y1.1.1)]) (bo (c54 ([[59]],()) x.1.1 (y1.2.1,y1.2.2)) fun y3=>cond y3.1.1 (bo (c55 (([(ndE y1.1.1)],()),(y1.1.2.1,())) x.1.1 (y3.2.1,y3.2.2)) fun y5=>some (some (((x.1.1,(y5.2.1,(y5.2.2,((),())))),()),((ndE y5.1.1),())))) (bo (c56 () x.1.1 (y3.2.1,y3.2.2)) fun y5=>zJ y5.1.2 (cond (!a.1) (bo (c57 ((ndE y5.1.1.1),(y5.1.1.2.1,(y1.1.2.1,()))) x.1.1 (y5.2.1,y5.2.2)) fun y7=>ck ((List.length [(ndE y1.1.1)])+(List.length [(ndE y7.1.1)])) (bo (c55 ((([(ndE y1.1.1)]++[(ndE y7.1.1)]),()),(y1.1.2.1,())) x.1.1 (y7.2.1,y7.2.2)) fun y9=>some (some (((x.1.1,(y9.2.1,(y9.2.2,((),())))),()),((ndE y9.1.1),()))))) (cond (!y5.1.1.2.2.1) (bo (c57 ((ndE y5.1.1.1),(y5.1.1.2.1,(y1.1.2.1,()))) x.1.1 (y5.2.1,y5.2.2)) fun y7=>ck ((List.length [(ndE y1.1.1)])+(List.length [(ndE y7.1.1)])) (bo (c55 ((([(ndE y1.1.1)]++[(ndE y7.1.1)]),()),(y1.1.2.1,())) x.1.1 (y7.2.1,y7.2.2)) fun y9=>some (some (((x.1.1,(y9.2.1,(y9.2.2,((),())))),()),((ndE y9.1.1),()))))) (cond y1.1.2.1 (bo (c57 ((ndE y5.1.1.1),(y5.1.1.2.1,(y1.1.2.1,()))) x.1.1 (y5.2.1,y5.2.2)) fun y7=>ck ((List.length [(ndE y1.1.1)])+(List.length [(ndE y7.1.1)])) (bo (c55 ((([(ndE y1.1.1)]++[(ndE y7.1.1)]),()),(y1.1.2.1,())) x.1.1 (y7.2.1,y7.2.2)) fun y9=>some (some (((x.1.1,(y9.2.1,(y9.2.2,((),())))),()),((ndE y9.1.1),()))))) (bo (c54 ([[123]],()) x.1.1 (y5.2.1,y5.2.2)) fun y7=>cond (!y7.1.1) (bo (c57 ((ndE y5.1.1.1),(y5.1.1.2.1,(y1.1.2.1,()))) x.1.1 (y7.2.1,y7.2.2)) fun y9=>ck ((List.length [(ndE y1.1.1)])+(List.length [(ndE y9.1.1)])) (bo (c55 ((([(ndE y1.1.1)]++[(ndE y9.1.1)]),()),(y1.1.2.1,())) x.1.1 (y9.2.1,y9.2.2)) fun y11=>some (some (((x.1.1,(y11.2.1,(y11.2.2,((),())))),()),((ndE y11.1.1),()))))) (bo (c58 (y5.1.1.2.1,(false,())) x.1.1 (y7.2.1,y7.2.2)) fun y9=>none))))) fun y6=>zJ y6 (cond (!a.1) (bo (c57 ((ndE y5.1.1.1),(y5.1.1.2.1,(y1.1.2.1,()))) x.1.1 (y5.2.1,y5.2.2)) fun y8=>ck ((List.length [(ndE y1.1.1)])+(List.length [(ndE y8.1.1)])) (bo (c55 ((([(ndE y1.1.1)]++[(ndE y8.1.1)]),()),(y1.1.2.1,())) x.1.1 (y8.2.1,y8.2.2)) fun y10=>some (some (((x.1.1,(y10.2.1,(y10.2.2,((),())))),()),((ndE y10.1.1),()))))) (cond (!y5.1.1.2.2.1) (bo (c57 ((ndE y5.1.1.1),(y5.1.1.2.1,(y1.1.2.1,()))) x.1.1 (y5.2.1,y5.2.2)) fun y8=>ck ((List.length [(ndE y1.1.1)])+(List.length [(ndE y8.1.1)])) (bo (c55 ((([(ndE y1.1.1)]++[(ndE y8.1.1)]),()),(y1.1.2.1,())) x.1.1 (y8.2.1,y8.2.2)) fun y10=>some (some (((x.1.1,(y10.2.1,(y10.2.2,((),())))),()),((ndE y10.1.1),()))))) (cond y1.1.2.1 (bo (c57 ((ndE y5.1.1.1),(y5.1.1.2.1,(y1.1.2.1,()))) x.1.1 (y5.2.1,y5.2.2)) fun y8=>ck ((List.length [(ndE y1.1.1)])+(List.length [(ndE y8.1.1)])) (bo (c55 ((([(ndE y1.1.1)]++[(ndE y8.1.1)]),()),(y1.1.2.1,())) x.1.1 (y8.2.1,y8.2.2)) fun y10=>some (some (((x.1.1,(y10.2.1,(y10.2.2,((),())))),()),((ndE y10.1.1),()))))) (bo (c54 ([[123]],()) x.1.1 (y5.2.1,y5.2.2)) fun y8=>cond (!y8.1.1) (bo (c57 ((ndE y5.1.1.1),(y5.1.1.2.1,(y1.1.2.1,()))) x.1.1 (y8.2.1,y8.2.2)) fun y10=>ck ((List.length [(ndE y1.1.1)])+(List.length [(ndE y10.1.1)])) (bo (c55 ((([(ndE y1.1.1)]++[(ndE y10.1.1)]),()),(y1.1.2.1,())) x.1.1 (y10.2.1,y10.2.2)) fun y12=>some (some (((x.1.1,(y12.2.1,(y12.2.2,((),())))),()),((ndE y12.1.1),()))))) (bo (c58 (y5.1.1.2.1,(false,())) x.1.1 (y8.2.1,y8.2.2)) fun y10=>bo (c59 (none,()) x.1.1 (y10.2.1,y10.2.2)) fun y12=>bo (c60 () x.1.1 (y12.2.1,y12.2.2)) fun y14=>ck ((List.length [(ndE y1.1.1)])+(List.length [(ndE y5.1.1.1),(ndE y14.1.1)])) (bo (c61 () x.1.1 (y14.2.1,y14.2.2)) fun y16=>zJ y16.1.1 (some (some (((x.1.1,(y16.2.1,(y16.2.2,((),())))),()),((ndE (Nd.mk 2 0 ([(ndE y1.1.1)]++[(ndE y5.1.1.1),(ndE y14.1.1)]))),())))) fun y17=>some (some (((x.1.1,(y16.2.1,(y16.2.2,((),())))),()),((ndE (Nd.mk 2 0 ([(ndE y1.1.1)]++[(ndE y5.1.1.1),(ndE y14.1.1)]))),()))))))))) fun y7=>cond (!a.1) (bo (c57 ((ndE y5.1.1.1),(y5.1.1.2.1,(y1.1.2.1,()))) x.1.1 (y5.2.1,y5.2.2)) fun y9=>ck ((List.length [(ndE y1.1.1)])+(List.length [(ndE y9.1.1)])) (bo (c55 ((([(ndE y1.1.1)]++[(ndE y9.1.1)]),()),(y1.1.2.1,())) x.1.1 (y9.2.1,y9.2.2)) fun y11=>some (some (((x.1.1,(y11.2.1,(y11.2.2,((),())))),()),((ndE y11.1.1),()))))) (cond (!y5.1.1.2.2.1) (bo (c57 ((ndE y5.1.1.1),(y5.1.1.2.1,(y1.1.2.1,()))) x.1.1 (y5.2.1,y5.2.2)) fun y9=>ck ((List.length [(ndE y1.1.1)])+(List.length [(ndE y9.1.1)])) (bo (c55 ((([(ndE y1.1.1)]++[(ndE y9.1.1)]),()),(y1.1.2.1,())) x.1.1 (y9.2.1,y9.2.2)) fun y11=>some (some (((x.1.1,(y11.2.1,(y11.2.2,((),())))),()),((ndE y11.1.1),()))))) (cond y1.1.2.1 (bo (c57 ((ndE y5.1.1.1),(y5.1.1.2.1,(y1.1.2.1,()))) x.1.1 (y5.2.1,y5.2.2)) fun y9=>ck ((List.length [(ndE y1.1.1)])+(List.length [(ndE y9.1.1)])) (bo (c55 ((([(ndE y1.1.1)]++[(ndE y9.1.1)]),()),(y1.1.2.1,())) x.1.1 (y9.2.1,y9.2.2)) fun y11=>some (some (((x.1.1,(y11.2.1,(y11.2.2,((),())))),()),((ndE y11.1.1),()))))) (bo (c54 ([[123]],()) x.1.1 (y5.2.1,y5.2.2)) fun y9=>cond (!y9.1.1) (bo (c57 ((ndE y5.1.1.1),(y5.1.1.2.1,(y1.1.2.1,()))) x.1.1 (y9.2.1,y9.2.2)) fun y11=>ck ((List.length [(ndE y1.1.1)])+(List.length [(ndE y11.1.1)])) (bo (c55 ((([(ndE y1.1.1)]++[(ndE y11.1.1)]),()),(y1.1.2.1,())) x.1.1 (y11.2.1,y11.2.2)) fun y13=>some (some (((x.1.1,(y13.2.1,(y13.2.2,((),())))),()),((ndE y13.1.1),()))))) (bo (c58 (y5.1.1.2.1,(false,())) x.1.1 (y9.2.1,y9.2.2)) fun y11=>bo (c59 ((some y7),()) x.1.1 (y11.2.1,y11.2.2)) fun y13=>bo (c60 () x.1.1 (y13.2.1,y13.2.2)) fun y15=>ck ((List.length [(ndE y1.1.1)])+(List.length [(ndE y5.1.1.1),(ndE y15.1.1)])) (bo (c61 () x.1.1 (y15.2.1,y15.2.2)) fun y17=>zJ y17.1.1 (some (some (((x.1.1,(y17.2.1,(y17.2.2,((),())))),()),((ndE (Nd.mk 2 0 ([(ndE y1.1.1)]++[(ndE y5.1.1.1),(ndE y15.1.1)]))),())))) fun y18=>some (some (((x.1.1,(y17.2.1,(y17.2.2,((),())))),()),((ndE (Nd.mk 2 0 ([(ndE y1.1.1)]++[(ndE y5.1.1.1),(ndE y15.1.1)]))),()))))))))))
theorem eq37 (fu:Nat) (p:PS) (r:RS) x a:rnA fu p r false false fd37 [parK] [parK] ([.bool]:LK) ([.st TI.node]:LK) x a=sh37 fu r.c53 p.c54 r.c55 r.c56 r.c57 p.c58 p.c59 r.c60 p.c61 x a:=by kernel_rfl
def sh60 (fu:Nat) (c37:(Bool×Unit)->MM (Nd×Unit)) (c54:((List Str)×Unit)->MM (Bool×Unit)) (c72:(Int×Unit)->MM (Str×Unit)) (c73:Unit->MM (Nd×Unit)) (c78:(Str×Unit)->MM (Nd×Unit)) (c84:(Int×Unit)->MM (Bool×Unit)) (c85:(Int×Unit)->MM (Bool×Unit)) (c86:Unit->MM (Nd×Unit)) (x:(ParT×Unit)) (a:Unit):(Option (Option ((ParT×Unit)×(Nd×Unit)))):=bo (c78 ([123],()) x.1.1 (x.1.2.1,x.1.2.2.1)) fun y1=>ck (List.length [(ndE y1.1.1)]) (iter fu (fun (rec1:(Unit×(ParT×(JT×(NdsT×Unit))))->Option (Option ((ParT×Unit)×(Nd×Unit)))) (s1:(Unit×(ParT×(JT×(NdsT×Unit)))))=>bo (c54 ([[125]],()) s1.2.1.1 (s1.2.1.2.1,s1.2.1.2.2.1)) fun y3=>cond (!y3.1.1) (bo (c84 (0,()) s1.2.1.1 (y3.2.1,y3.2.2)) fun y5=>cond y5.1.1 (bo (c85 (0,()) s1.2.1.1 (y5.2.1,y5.2.2)) fun y7=>cond y7.1.1 (bo (c72 (1,()) s1.2.1.1 (y7.2.1,y7.2.2)) fun y9=>cond (!(seq y9.1.1 [58])) (bo (c37 (false,()) s1.2.1.1 (y9.2.1,y9.2.2)) fun y11=>ck ((List.length s1.2.2.2.1.1)+(List.length [(ndE y11.1.1)])) (rec1 ((),((s1.2.1.1,(y11.2.1,(y11.2.2,((),())))),(s1.2.2.1,(((s1.2.2.2.1.1++[(ndE y11.1.1)]),()),())))))) (bo (c86 () s1.2.1.1 (y9.2.1,y9.2.2)) fun y11=>ck ((List.length s1.2.2.2.1.1)+(List.length [(ndE y11.1.1)])) (rec1 ((),((s1.2.1.1,(y11.2.1,(y11.2.2,((),())))),(s1.2.2.1,(((s1.2.2.2.1.1++[(ndE y11.1.1)]),()),()))))))) (bo (c37 (false,()) s1.2.1.1 (y7.2.1,y7.2.2)) fun y9=>ck ((List.length s1.2.2.2.1.1)+(List.length [(ndE y9.1.1)])) (rec1 ((),((s1.2.1.1,(y9.2.1,(y9.2.2,((),())))),(s1.2.2.1,(((s1.2.2.2.1.1++[(ndE y9.1.1)]),()),()))))))) (bo (c86 () s1.2.1.1 (y5.2.1,y5.2.2)) fun y7=>ck ((List.length s1.2.2.2.1.1)+(List.length [(ndE y7.1.1)])) (rec1 ((),((s1.2.1.1,(y7.2.1,(y7.2.2,((),())))),(s1.2.2.1,(((s1.2.2.2.1.1++[(ndE y7.1.1)]),()),()))))))) (bo (c73 () s1.2.1.1 (y3.2.1,y3.2.2)) fun y5=>ck ((List.length s1.2.2.2.1.1)+(List.length [(ndE y5.1.1)])) (some (some (((s1.2.1.1,(y5.2.1,(y5.2.2,((),())))),()),((ndE (Nd.mk 20 0 (s1.2.2.2.1.1++[(ndE y5.1.1)]))),())))))) ((),((x.1.1,(y1.2.1,(y1.2.2,((),())))),((0,(0,([],()))),(([(ndE y1.1.1)],()),())))))
theorem eq60 (fu:Nat) (p:PS) (r:RS) x a:rnA fu p r false false fd60 [parK] [parK] ([]:LK) ([.st TI.node]:LK) x a=sh60 fu r.c37 p.c54 p.c72 p.c73 p.c78 p.c84 p.c85 r.c86 x a:=by kernel_rfl
def sh116 (fu:Nat) (c37:(Bool×Unit)->MM (Nd×Unit)) (c59:((Option MT)×Unit)->MM Unit) (c61:Unit->MM ((Option MT)×Unit)) (c78:(Str×Unit)->MM (Nd×Unit)) (c84:(Int×Unit)->MM (Bool×Unit)) (c86:Unit->MM (Nd×Unit)) (c117:(Str×Unit)->(List Nd)->MM (Unit×(List Nd))) (x:(ParT×Unit)) (a:(NdsT×Unit)):(Option (Option ((ParT×Unit)×(Nd×Unit)))):=bo (c59 ((some []),()) x.1.1 (x.1.2.1,x.1.2.2.1)) fun y1=>bo (c78 ([40],()) x.1.1 (y1.2.1,y1.2.2)) fun y3=>ck ((List.length a.1.1)+(List.length [(ndE y3.1.1)])) (zQ (fun (join0:(Unit×(ParT×(NdsT×(JT×Unit))))->Option (Option ((ParT×Unit)×(Nd×Unit))))=>bo (c84 (0,()) x.1.1 (y3.2.1,y3.2.2)) fun y5=>cond y5.1.1 (bo (c37 (false,()) x.1.1 (y5.2.1,y5.2.2)) fun y7=>ck ((List.length (a.1.1++[(ndE y3.1.1)]))+(List.length [(ndE y7.1.1)])) (join0 ((),((x.1.1,(y7.2.1,(y7.2.2,((),())))),((((a.1.1++[(ndE y3.1.1)])++[(ndE y7.1.1)]),()),((0,(0,([],()))),())))))) (bo (c117 ([59],()) (a.1.1++[(ndE y3.1.1)]) x.1.1 (y5.2.1,y5.2.2)) fun y7=>join0 ((),((x.1.1,(y7.2.1,(y7.2.2,((),())))),((y7.1.2,()),((0,(0,([],()))),())))))) (fun (t0:(Unit×(ParT×(NdsT×(JT×Unit)))))=>bo (c117 ([59],()) t0.2.2.1.1 t0.2.1.1 (t0.2.1.2.1,t0.2.1.2.2.1)) fun y5=>bo (c117 ([41],()) y5.1.2 t0.2.1.1 (y5.2.1,y5.2.2)) fun y7=>bo (c86 () t0.2.1.1 (y7.2.1,y7.2.2)) fun y9=>ck ((List.length y7.1.2)+(List.length [(ndE y9.1.1)])) (bo (c61 () t0.2.1.1 (y9.2.1,y9.2.2)) fun y11=>zJ y11.1.1 (some (some (((t0.2.1.1,(y11.2.1,(y11.2.2,((),())))),()),((ndE (Nd.mk 25 0 (y7.1.2++[(ndE y9.1.1)]))),())))) fun y12=>some (some (((t0.2.1.1,(y11.2.1,(y11.2.2,((),())))),()),((ndE (Nd.mk 25 0 (y7.1.2++[(ndE y9.1.1)]))),()))))))
theorem eq116 (fu:Nat) (p:PS) (r:RS) x a:rnA fu p r false false fd116 [parK] [parK] ([.ag [.ow true TI.node]]:LK) ([.st TI.node]:LK) x a=sh116 fu r.c37 p.c59 p.c61 p.c78 p.c84 r.c86 r.c117 x a:=by kernel_rfl
def sh115 (fu:Nat) (c78:(Str×Unit)->MM (Nd×Unit)) (c113:Unit->MM (Nd×Unit)) (x:(ParT×(NdsT×Unit))) (a:Unit):(Option (Option ((ParT×(NdsT×Unit))×Unit))):=bo (c78 ([40],()) x.1.1 (x.1.2.1,x.1.2.2.1)) fun y1=>bo (c113 () x.1.1 (y1.2.1,y1.2.2)) fun y3=>bo (c78 ([41],()) x.1.1 (y3.2.1,y3.2.2)) fun y5=>ck ((List.length x.2.1.1)+(List.length [(ndE y1.1.1),(ndE y3.1.1),(ndE y5.1.1)])) (some (some (((x.1.1,(y5.2.1,(y5.2.2,((),())))),(((x.2.1.1++[(ndE y1.1.1),(ndE y3.1.1),(ndE y5.1.1)]),()),())),())))
theorem eq115 (fu:Nat) (p:PS) (r:RS) x a:rnA fu p r false false fd115 [parK,ptsK] [parK,ptsK] ([]:LK) ([]:LK) x a=sh115 fu p.c78 r.c113 x a:=by kernel_rfl
def sh86 (fu:Nat) (c54:((List Str)×Unit)->MM (Bool×Unit)) (c59:((Option MT)×Unit)->MM Unit) (c60:Unit->MM (Nd×Unit)) (c61:Unit->MM ((Option MT)×Unit)) (c72:(Int×Unit)->MM (Str×Unit)) (c73:Unit->MM (Nd×Unit)) (c78:(Str×Unit)->MM (Nd×Unit)) (c80:Unit->MM (Nd×Unit)) (c85:(Int×Unit)->MM (Bool×Unit)) (c86:Unit->MM (Nd×Unit)) (c112:(Int×Unit)->MM (Bool×Unit)) (c113:Unit->MM (Nd×Unit)) (c114:Unit->MM (Nd×Unit)) (c115:Unit->(List Nd)->MM (Unit×(List Nd))) (c116:(NdsT×Unit)->MM (Nd×Unit)) (c117:(Str×Unit)->(List Nd)->MM (Unit×(List Nd))) (x:(ParT×Unit)) (a:Unit):(Option (Option ((ParT×Unit)×(Nd×Unit)))):=bo (c72 (0,()) x.1.1 (x.1.2.1,x.1.2.2.1)) fun y1=>cond (seq y1.1.1 [123]) (bo (c59 ((some []),()) x.1.1 (y1.2.1,y1.2.2)) fun y3=>bo (c60 () x.1.1 (y3.2.1,y3.2.2)) fun y5=>bo (c61 () x.1.1 (y5.2.1,y5.2.2)) fun y7=>zJ y7.1.1 (some (some (((x.1.1,(y7.2.1,(y7.2.2,((),())))),()),((ndE y5.1.1),())))) fun y8=>some (some (((x.1.1,(y7.2.1,(y7.2.2,((),())))),()),((ndE y5.1.1),())))) (cond (seq y1.1.1 [59]) (bo (c73 () x.1.1 (y1.2.1,y1.2.2)) fun y3=>ck (List.length [(ndE y3.1.1)]) (some (some (((x.1.1,(y3.2.1,(y3.2.2,((),())))),()),((ndE (Nd.mk 33 0 [(ndE y3.1.1)])),()))))) (bo (c85 (0,()) x.1.1 (y1.2.1,y1.2.2)) fun y3=>cond y3.1.1 (bo (c72 (1,()) x.1.1 (y3.2.1,y3.2.2)) fun y5=>cond (seq y5.1.1 [58]) (bo (c73 () x.1.1 (y5.2.1,y5.2.2)) fun y7=>bo (c73 () x.1.1 (y7.2.1,y7.2.2)) fun y9=>bo (c86 () x.1.1 (y9.2.1,y9.2.2)) fun y11=>ck (List.length [(ndE y7.1.1),(ndE y9.1.1),(ndE y11.1.1)]) (some (some (((x.1.1,(y11.2.1,(y11.2.2,((),())))),()),((ndE (Nd.mk 29 0 [(ndE y7.1.1),(ndE y9.1.1),(ndE y11.1.1)])),()))))) (bo (c85 (0,()) x.1.1 (y5.2.1,y5.2.2)) fun y7=>cond y7.1.1 (bo (c113 () x.1.1 (y7.2.1,y7.2.2)) fun y9=>bo (c78 ([59],()) x.1.1 (y9.2.1,y9.2.2)) fun y11=>ck (List.length [(ndE y9.1.1),(ndE y11.1.1)]) (some (some (((x.1.1,(y11.2.1,(y11.2.2,((),())))),()),((ndE (Nd.mk 21 0 [(ndE y9.1.1),(ndE y11.1.1)])),()))))) (bo (c112 (1,()) x.1.1 (y7.2.1,y7.2.2)) fun y9=>cond (!y9.1.1) (bo (c113 () x.1.1 (y9.2.1,y9.2.2)) fun y11=>bo (c78 ([59],()) x.1.1 (y11.2.1,y11.2.2)) fun y13=>ck (List.length [(ndE y11.1.1),(ndE y13.1.1)]) (some (some (((x.1.1,(y13.2.1,(y13.2.2,((),())))),()),((ndE (Nd.mk 21 0 [(ndE y11.1.1),(ndE y13.1.1)])),()))))) (cond (seq y1.1.1 [115,105,122,101,111,102]) (bo (c113 () x.1.1 (y9.2.1,y9.2.2)) fun y11=>bo (c78 ([59],()) x.1.1 (y11.2.1,y11.2.2)) fun y13=>ck (List.length [(ndE y11.1.1),(ndE y13.1.1)]) (some (some (((x.1.1,(y13.2.1,(y13.2.2,((),())))),()),((ndE (Nd.mk 21 0 [(ndE y11.1.1),(ndE y13.1.1)])),()))))) (bo (c73 () x.1.1 (y9.2.1,y9.2.2)) fun y11=>ck (List.length [(ndE y11.1.1)]) (zQ (fun (join0:(Unit×(ParT×(JT×(NdsT×Unit))))->Option (Option ((ParT×Unit)×(Nd×Unit))))=>cond (seq y1.1.1 [99,97,115,101]) (bo (c114 () x.1.1 (y11.2.1,y11.2.2)) fun y13=>bo (c78 ([58],()) x.1.1 (y13.2.1,y13.2.2)) fun y15=>bo (c86 () x.1.1 (y15.2.1,y15.2.2)) fun y17=>ck ((List.length [(ndE y11.1.1)])+(List.length [(ndE y13.1.1),(ndE y15.1.1),(ndE y17.1.1)])) (some (some (((x.1.1,(y17.2.1,(y17.2.2,((),())))),()),((ndE (Nd.mk 31 0 ([(ndE y11.1.1)]++[(ndE y13.1.1),(ndE y15.1.1),(ndE y17.1.1)]))),()))))) (cond (seq y1.1.1 [100,101,102,97,117,108,116]) (bo (c78 ([58],()) x.1.1 (y11.2.1,y11.2.2)) fun y13=>bo (c86 () x.1.1 (y13.2.1,y13.2.2)) fun y15=>ck ((List.length [(ndE y11.1.1)])+(List.length [(ndE y13.1.1),(ndE y15.1.1)])) (some (some (((x.1.1,(y15.2.1,(y15.2.2,((),())))),()),((ndE (Nd.mk 32 0 ([(ndE y11.1.1)]++[(ndE y13.1.1),(ndE y15.1.1)]))),()))))) (cond (seq y1.1.1 [105,102]) (bo (c115 () [(ndE y11.1.1)] x.1.1 (y11.2.1,y11.2.2)) fun y13=>bo (c86 () x.1.1 (y13.2.1,y13.2.2)) fun y15=>ck ((List.length y13.1.2)+(List.length [(ndE y15.1.1)])) (bo (c54 ([[101,108,115,101]],()) x.1.1 (y15.2.1,y15.2.2)) fun y17=>cond y17.1.1 (bo (c73 () x.1.1 (y17.2.1,y17.2.2)) fun y19=>bo (c86 () x.1.1 (y19.2.1,y19.2.2)) fun y21=>ck ((List.length (y13.1.2++[(ndE y15.1.1)]))+(List.length [(ndE y19.1.1),(ndE y21.1.1)])) (some (some (((x.1.1,(y21.2.1,(y21.2.2,((),())))),()),((ndE (Nd.mk 22 0 ((y13.1.2++[(ndE y15.1.1)])++[(ndE y19.1.1),(ndE y21.1.1)]))),()))))) (some (some (((x.1.1,(y17.2.1,(y17.2.2,((),())))),()),((ndE (Nd.mk 22 0 (y13.1.2++[(ndE y15.1.1)]))),())))))) (zQ (fun (join1:((Bool×Unit)×(ParT×(JT×(NdsT×Unit))))->Option (Option ((ParT×Unit)×(Nd×Unit))))=>cond (seq y1.1.1 [119,104,105,108,101]) (join1 ((true,()),((x.1.1,(y11.2.1,(y11.2.2,((),())))),((0,(0,([],()))),(([(ndE y11.1.1)],()),()))))) (join1 (((seq y1.1.1 [115,119,105,116,99,104]),()),((x.1.1,(y11.2.1,(y11.2.2,((),())))),((0,(0,([],()))),(([(ndE y11.1.1)],()),())))))) (fun (t0:((Bool×Unit)×(ParT×(JT×(NdsT×Unit)))))=>cond t0.1.1 (bo (c115 () t0.2.2.2.1.1 t0.2.1.1 (t0.2.1.2.1,t0.2.1.2.2.1)) fun y13=>bo (c86 () t0.2.1.1 (y13.2.1,y13.2.2)) fun y15=>ck ((List.length y13.1.2)+(List.length [(ndE y15.1.1)])) (cond (seq y1.1.1 [119,104,105,108,101]) (some (some (((t0.2.1.1,(y15.2.1,(y15.2.2,((),())))),()),((ndE (Nd.mk 23 0 (y13.1.2++[(ndE y15.1.1)]))),())))) (some (some (((t0.2.1.1,(y15.2.1,(y15.2.2,((),())))),()),((ndE (Nd.mk 30 0 (y13.1.2++[(ndE y15.1.1)]))),())))))) (cond (seq y1.1.1 [100,111]) (bo (c86 () t0.2.1.1 (t0.2.1.2.1,t0.2.1.2.2.1)) fun y13=>bo (c78 ([119,104,105,108,101],()) t0.2.1.1 (y13.2.1,y13.2.2)) fun y15=>ck ((List.length t0.2.2.2.1.1)+(List.length [(ndE y13.1.1),(ndE y15.1.1)])) (bo (c115 () (t0.2.2.2.1.1++[(ndE y13.1.1),(ndE y15.1.1)]) t0.2.1.1 (y15.2.1,y15.2.2)) fun y17=>bo (c78 ([59],()) t0.2.1.1 (y17.2.1,y17.2.2)) fun y19=>ck ((List.length y17.1.2)+(List.length [(ndE y19.1.1)])) (some (some (((t0.2.1.1,(y19.2.1,(y19.2.2,((),())))),()),((ndE (Nd.mk 24 0 (y17.1.2++[(ndE y19.1.1)]))),())))))) (cond (seq y1.1.1 [102,111,114]) (bo (c116 ((t0.2.2.2.1.1,()),()) t0.2.1.1 (t0.2.1.2.1,t0.2.1.2.2.1)) fun y13=>some (some (((t0.2.1.1,(y13.2.1,(y13.2.2,((),())))),()),((ndE y13.1.1),())))) (cond (seq y1.1.1 [114,101,116,117,114,110]) (bo (c117 ([59],()) t0.2.2.2.1.1 t0.2.1.1 (t0.2.1.2.1,t0.2.1.2.2.1)) fun y13=>some (some (((t0.2.1.1,(y13.2.1,(y13.2.2,((),())))),()),((ndE (Nd.mk 26 0 y13.1.2)),())))) (zQ (fun (join1:((Bool×Unit)×(ParT×(JT×(NdsT×Unit))))->Option (Option ((ParT×Unit)×(Nd×Unit))))=>cond (seq y1.1.1 [98,114,101,97,107]) (join1 ((true,()),((t0.2.1.1,(t0.2.1.2.1,(t0.2.1.2.2.1,((),())))),(t0.2.2.1,((t0.2.2.2.1.1,()),()))))) (join1 (((seq y1.1.1 [99,111,110,116,105,110,117,101]),()),((t0.2.1.1,(t0.2.1.2.1,(t0.2.1.2.2.1,((),())))),(t0.2.2.1,((t0.2.2.2.1.1,()),())))))) (fun (t1:((Bool×Unit)×(ParT×(JT×(NdsT×Unit)))))=>cond t1.1.1 (bo (c78 ([59],()) t1.2.1.1 (t1.2.1.2.1,t1.2.1.2.2.1)) fun y13=>ck ((List.length t1.2.2.2.1.1)+(List.length [(ndE y13.1.1)])) (some (some (((t1.2.1.1,(y13.2.1,(y13.2.2,((),())))),()),((ndE (Nd.mk 27 0 (t1.2.2.2.1.1++[(ndE y13.1.1)]))),()))))) (join0 ((),((t1.2.1.1,(t1.2.1.2.1,(t1.2.1.2.2.1,((),())))),(t1.2.2.1,((t1.2.2.2.1.1,()),()))))))))))))))) (fun (t0:(Unit×(ParT×(JT×(NdsT×Unit)))))=>cond (seq y1.1.1 [103,111,116,111]) (bo (c80 () t0.2.1.1 (t0.2.1.2.1,t0.2.1.2.2.1)) fun y13=>bo (c78 ([59],()) t0.2.1.1 (y13.2.1,y13.2.2)) fun y15=>ck ((List.length t0.2.2.2.1.1)+(List.length [(ndE y13.1.1),(ndE y15.1.1)])) (some (some (((t0.2.1.1,(y15.2.1,(y15.2.2,((),())))),()),((ndE (Nd.mk 28 0 (t0.2.2.2.1.1++[(ndE y13.1.1),(ndE y15.1.1)]))),()))))) (some none)))))))) (bo (c85 (0,()) x.1.1 (y3.2.1,y3.2.2)) fun y5=>cond y5.1.1 (bo (c113 () x.1.1 (y5.2.1,y5.2.2)) fun y7=>bo (c78 ([59],()) x.1.1 (y7.2.1,y7.2.2)) fun y9=>ck (List.length [(ndE y7.1.1),(ndE y9.1.1)]) (some (some (((x.1.1,(y9.2.1,(y9.2.2,((),())))),()),((ndE (Nd.mk 21 0 [(ndE y7.1.1),(ndE y9.1.1)])),()))))) (bo (c112 (1,()) x.1.1 (y5.2.1,y5.2.2)) fun y7=>cond (!y7.1.1) (bo (c113 () x.1.1 (y7.2.1,y7.2.2)) fun y9=>bo (c78 ([59],()) x.1.1 (y9.2.1,y9.2.2)) fun y11=>ck (List.length [(ndE y9.1.1),(ndE y11.1.1)]) (some (some (((x.1.1,(y11.2.1,(y11.2.2,((),())))),()),((ndE (Nd.mk 21 0 [(ndE y9.1.1),(ndE y11.1.1)])),()))))) (cond (seq y1.1.1 [115,105,122,101,111,102]) (bo (c113 () x.1.1 (y7.2.1,y7.2.2)) fun y9=>bo (c78 ([59],()) x.1.1 (y9.2.1,y9.2.2)) fun y11=>ck (List.length [(ndE y9.1.1),(ndE y11.1.1)]) (some (some (((x.1.1,(y11.2.1,(y11.2.2,((),())))),()),((ndE (Nd.mk 21 0 [(ndE y9.1.1),(ndE y11.1.1)])),()))))) (bo (c73 () x.1.1 (y7.2.1,y7.2.2)) fun y9=>ck (List.length [(ndE y9.1.1)]) (zQ (fun (join0:(Unit×(ParT×(JT×(NdsT×Unit))))->Option (Option ((ParT×Unit)×(Nd×Unit))))=>cond (seq y1.1.1 [99,97,115,101]) (bo (c114 () x.1.1 (y9.2.1,y9.2.2)) fun y11=>bo (c78 ([58],()) x.1.1 (y11.2.1,y11.2.2)) fun y13=>bo (c86 () x.1.1 (y13.2.1,y13.2.2)) fun y15=>ck ((List.length [(ndE y9.1.1)])+(List.length [(ndE y11.1.1),(ndE y13.1.1),(ndE y15.1.1)])) (some (some (((x.1.1,(y15.2.1,(y15.2.2,((),())))),()),((ndE (Nd.mk 31 0 ([(ndE y9.1.1)]++[(ndE y11.1.1),(ndE y13.1.1),(ndE y15.1.1)]))),()))))) (cond (seq y1.1.1 [100,101,102,97,117,108,116]) (bo (c78 ([58],()) x.1.1 (y9.2.1,y9.2.2)) fun y11=>bo (c86 () x.1.1 (y11.2.1,y11.2.2)) fun y13=>ck ((List.length [(ndE y9.1.1)])+(List.length [(ndE y11.1.1),(ndE y13.1.1)])) (some (some (((x.1.1,(y13.2.1,(y13.2.2,((),())))),()),((ndE (Nd.mk 32 0 ([(ndE y9.1.1)]++[(ndE y11.1.1),(ndE y13.1.1)]))),()))))) (cond (seq y1.1.1 [105,102]) (bo (c115 () [(ndE y9.1.1)] x.1.1 (y9.2.1,y9.2.2)) fun y11=>bo (c86 () x.1.1 (y11.2.1,y11.2.2)) fun y13=>ck ((List.length y11.1.2)+(List.length [(ndE y13.1.1)])) (bo (c54 ([[101,108,115,101]],()) x.1.1 (y13.2.1,y13.2.2)) fun y15=>cond y15.1.1 (bo (c73 () x.1.1 (y15.2.1,y15.2.2)) fun y17=>bo (c86 () x.1.1 (y17.2.1,y17.2.2)) fun y19=>ck ((List.length (y11.1.2++[(ndE y13.1.1)]))+(List.length [(ndE y17.1.1),(ndE y19.1.1)])) (some (some (((x.1.1,(y19.2.1,(y19.2.2,((),())))),()),((ndE (Nd.mk 22 0 ((y11.1.2++[(ndE y13.1.1)])++[(ndE y17.1.1),(ndE y19.1.1)]))),()))))) (some (some (((x.1.1,(y15.2.1,(y15.2.2,((),())))),()),((ndE (Nd.mk 22 0 (y11.1.2++[(ndE y13.1.1)]))),())))))) (zQ (fun (join1:((Bool×Unit)×(ParT×(JT×(NdsT×Unit))))->Option (Option ((ParT×Unit)×(Nd×Unit))))=>cond (seq y1.1.1 [119,104,105,108,101]) (join1 ((true,()),((x.1.1,(y9.2.1,(y9.2.2,((),())))),((0,(0,([],()))),(([(ndE y9.1.1)],()),()))))) (join1 (((seq y1.1.1 [115,119,105,116,99,104]),()),((x.1.1,(y9.2.1,(y9.2.2,((),())))),((0,(0,([],()))),(([(ndE y9.1.1)],()),())))))) (fun (t0:((Bool×Unit)×(ParT×(JT×(NdsT×Unit)))))=>cond t0.1.1 (bo (c115 () t0.2.2.2.1.1 t0.2.1.1 (t0.2.1.2.1,t0.2.1.2.2.1)) fun y11=>bo (c86 () t0.2.1.1 (y11.2.1,y11.2.2)) fun y13=>ck ((List.length y11.1.2)+(List.length [(ndE y13.1.1)])) (cond (seq y1.1.1 [119,104,105,108,101]) (some (some (((t0.2.1.1,(y13.2.1,(y13.2.2,((),())))),()),((ndE (Nd.mk 23 0 (y11.1.2++[(ndE y13.1.1)]))),())))) (some (some (((t0.2.1.1,(y13.2.1,(y13.2.2,((),())))),()),((ndE (Nd.mk 30 0 (y11.1.2++[(ndE y13.1.1)]))),())))))) (cond (seq y1.1.1 [100,111]) (bo (c86 () t0.2.1.1 (t0.2.1.2.1,t0.2.1.2.2.1)) fun y11=>bo (c78 ([119,104,105,108,101],()) t0.2.1.1 (y11.2.1,y11.2.2)) fun y13=>ck ((List.length t0.2.2.2.1.1)+(List.length [(ndE y11.1.1),(ndE y13.1.1)])) (bo (c115 () (t0.2.2.2.1.1++[(ndE y11.1.1),(ndE y13.1.1)]) t0.2.1.1 (y13.2.1,y13.2.2)) fun y15=>bo (c78 ([59],()) t0.2.1.1 (y15.2.1,y15.2.2)) fun y17=>ck ((List.length y15.1.2)+(List.length [(ndE y17.1.1)])) (some (some (((t0.2.1.1,(y17.2.1,(y17.2.2,((),())))),()),((ndE (Nd.mk 24 0 (y15.1.2++[(ndE y17.1.1)]))),())))))) (cond (seq y1.1.1 [102,111,114]) (bo (c116 ((t0.2.2.2.1.1,()),()) t0.2.1.1 (t0.2.1.2.1,t0.2.1.2.2.1)) fun y11=>some (some (((t0.2.1.1,(y11.2.1,(y11.2.2,((),())))),()),((ndE y11.1.1),())))) (cond (seq y1.1.1 [114,101,116,117,114,110]) (bo (c117 ([59],()) t0.2.2.2.1.1 t0.2.1.1 (t0.2.1.2.1,t0.2.1.2.2.1)) fun y11=>some (some (((t0.2.1.1,(y11.2.1,(y11.2.2,((),())))),()),((ndE (Nd.mk 26 0 y11.1.2)),())))) (zQ (fun (join1:((Bool×Unit)×(ParT×(JT×(NdsT×Unit))))->Option (Option ((ParT×Unit)×(Nd×Unit))))=>cond (seq y1.1.1 [98,114,101,97,107]) (join1 ((true,()),((t0.2.1.1,(t0.2.1.2.1,(t0.2.1.2.2.1,((),())))),(t0.2.2.1,((t0.2.2.2.1.1,()),()))))) (join1 (((seq y1.1.1 [99,111,110,116,105,110,117,101]),()),((t0.2.1.1,(t0.2.1.2.1,(t0.2.1.2.2.1,((),())))),(t0.2.2.1,((t0.2.2.2.1.1,()),())))))) (fun (t1:((Bool×Unit)×(ParT×(JT×(NdsT×Unit)))))=>cond t1.1.1 (bo (c78 ([59],()) t1.2.1.1 (t1.2.1.2.1,t1.2.1.2.2.1)) fun y11=>ck ((List.length t1.2.2.2.1.1)+(List.length [(ndE y11.1.1)])) (some (some (((t1.2.1.1,(y11.2.1,(y11.2.2,((),())))),()),((ndE (Nd.mk 27 0 (t1.2.2.2.1.1++[(ndE y11.1.1)]))),()))))) (join0 ((),((t1.2.1.1,(t1.2.1.2.1,(t1.2.1.2.2.1,((),())))),(t1.2.2.1,((t1.2.2.2.1.1,()),()))))))))))))))) (fun (t0:(Unit×(ParT×(JT×(NdsT×Unit)))))=>cond (seq y1.1.1 [103,111,116,111]) (bo (c80 () t0.2.1.1 (t0.2.1.2.1,t0.2.1.2.2.1)) fun y11=>bo (c78 ([59],()) t0.2.1.1 (y11.2.1,y11.2.2)) fun y13=>ck ((List.length t0.2.2.2.1.1)+(List.length [(ndE y11.1.1),(ndE y13.1.1)])) (some (some (((t0.2.1.1,(y13.2.1,(y13.2.2,((),())))),()),((ndE (Nd.mk 28 0 (t0.2.2.2.1.1++[(ndE y11.1.1),(ndE y13.1.1)]))),()))))) (some none)))))))))
theorem eq86 (fu:Nat) (p:PS) (r:RS) x a:rnA fu p r false false fd86 [parK] [parK] ([]:LK) ([.st TI.node]:LK) x a=sh86 fu p.c54 p.c59 r.c60 p.c61 p.c72 p.c73 p.c78 p.c80 p.c85 r.c86 p.c112 r.c113 r.c114 r.c115 r.c116 r.c117 x a:=by kernel_rfl
def sh117 (fu:Nat) (c54:((List Str)×Unit)->MM (Bool×Unit)) (c78:(Str×Unit)->MM (Nd×Unit)) (c113:Unit->MM (Nd×Unit)) (x:(ParT×(NdsT×Unit))) (a:(Str×Unit)):(Option (Option ((ParT×(NdsT×Unit))×Unit))):=zQ (fun (join0:(Unit×(ParT×(NdsT×Unit)))->Option (Option ((ParT×(NdsT×Unit))×Unit)))=>bo (c54 ([a.1],()) x.1.1 (x.1.2.1,x.1.2.2.1)) fun y1=>cond (!y1.1.1) (bo (c113 () x.1.1 (y1.2.1,y1.2.2)) fun y3=>ck ((List.length x.2.1.1)+(List.length [(ndE y3.1.1)])) (join0 ((),((x.1.1,(y3.2.1,(y3.2.2,((),())))),(((x.2.1.1++[(ndE y3.1.1)]),()),()))))) (join0 ((),((x.1.1,(y1.2.1,(y1.2.2,((),())))),((x.2.1.1,()),()))))) (fun (t0:(Unit×(ParT×(NdsT×Unit))))=>bo (c78 (a.1,()) t0.2.1.1 (t0.2.1.2.1,t0.2.1.2.2.1)) fun y1=>ck ((List.length t0.2.2.1.1)+(List.length [(ndE y1.1.1)])) (some (some (((t0.2.1.1,(y1.2.1,(y1.2.2,((),())))),(((t0.2.2.1.1++[(ndE y1.1.1)]),()),())),()))))
theorem eq117 (fu:Nat) (p:PS) (r:RS) x a:rnA fu p r false false fd117 [parK,ptsK] [parK,ptsK] ([.str]:LK) ([]:LK) x a=sh117 fu p.c54 p.c78 r.c113 x a:=by kernel_rfl
def sh113 (fu:Nat) (c54:((List Str)×Unit)->MM (Bool×Unit)) (c73:Unit->MM (Nd×Unit)) (c111:Unit->MM (Nd×Unit)) (c113:Unit->MM (Nd×Unit)) (x:(ParT×Unit)) (a:Unit):(Option (Option ((ParT×Unit)×(Nd×Unit)))):=bo (c111 () x.1.1 (x.1.2.1,x.1.2.2.1)) fun y1=>bo (c54 ([[44]],()) x.1.1 (y1.2.1,y1.2.2)) fun y3=>cond (!y3.1.1) (some (some (((x.1.1,(y3.2.1,(y3.2.2,((),())))),()),((ndE y1.1.1),())))) (bo (c73 () x.1.1 (y3.2.1,y3.2.2)) fun y5=>bo (c113 () x.1.1 (y5.2.1,y5.2.2)) fun y7=>some (some (((x.1.1,(y7.2.1,(y7.2.2,((),())))),()),((Nd.mk 54 0 [(ndE y1.1.1),(ndE y5.1.1),(ndE y7.1.1)]),()))))
theorem eq113 (fu:Nat) (p:PS) (r:RS) x a:rnA fu p r false false fd113 [parK] [parK] ([]:LK) ([.st TI.node]:LK) x a=sh113 fu p.c54 p.c73 r.c111 r.c113 x a:=by kernel_rfl
def sh111 (fu:Nat) (c54:((List Str)×Unit)->MM (Bool×Unit)) (c73:Unit->MM (Nd×Unit)) (c111:Unit->MM (Nd×Unit)) (c114:Unit->MM (Nd×Unit)) (x:(ParT×Unit)) (a:Unit):(Option (Option ((ParT×Unit)×(Nd×Unit)))):=bo (c114 () x.1.1 (x.1.2.1,x.1.2.2.1)) fun y1=>bo (c54 ([[61],[42,61],[47,61],[37,61],[43,61],[45,61],[60,60,61],[62,62,61],[38,61],[94,61],[124,61]],()) x.1.1 (y1.2.1,y1.2.2)) fun y3=>cond (!y3.1.1) (some (some (((x.1.1,(y3.2.1,(y3.2.2,((),())))),()),((ndE y1.1.1),())))) (bo (c73 () x.1.1 (y3.2.1,y3.2.2)) fun y5=>bo (c111 () x.1.1 (y5.2.1,y5.2.2)) fun y7=>some (some (((x.1.1,(y7.2.1,(y7.2.2,((),())))),()),((Nd.mk 53 0 [(ndE y1.1.1),(ndE y5.1.1),(ndE y7.1.1)]),()))))
theorem eq111 (fu:Nat) (p:PS) (r:RS) x a:rnA fu p r false false fd111 [parK] [parK] ([]:LK) ([.st TI.node]:LK) x a=sh111 fu p.c54 p.c73 r.c111 r.c114 x a:=by kernel_rfl
def sh114 (fu:Nat) (c54:((List Str)×Unit)->MM (Bool×Unit)) (c73:Unit->MM (Nd×Unit)) (c78:(Str×Unit)->MM (Nd×Unit)) (c113:Unit->MM (Nd×Unit)) (c114:Unit->MM (Nd×Unit)) (c131:(Int×Unit)->MM (Nd×Unit)) (x:(ParT×Unit)) (a:Unit):(Option (Option ((ParT×Unit)×(Nd×Unit)))):=bo (c131 (1,()) x.1.1 (x.1.2.1,x.1.2.2.1)) fun y1=>bo (c54 ([[63]],()) x.1.1 (y1.2.1,y1.2.2)) fun y3=>cond (!y3.1.1) (some (some (((x.1.1,(y3.2.1,(y3.2.2,((),())))),()),((ndE y1.1.1),())))) (bo (c73 () x.1.1 (y3.2.1,y3.2.2)) fun y5=>bo (c113 () x.1.1 (y5.2.1,y5.2.2)) fun y7=>bo (c78 ([58],()) x.1.1 (y7.2.1,y7.2.2)) fun y9=>bo (c114 () x.1.1 (y9.2.1,y9.2.2)) fun y11=>ck (List.length [(ndE y1.1.1),(ndE y5.1.1),(ndE y7.1.1),(ndE y9.1.1),(ndE y11.1.1)]) (some (some (((x.1.1,(y11.2.1,(y11.2.2,((),())))),()),((ndE (Nd.mk 52 0 [(ndE y1.1.1),(ndE y5.1.1),(ndE y7.1.1),(ndE y9.1.1),(ndE y11.1.1)])),())))))
theorem eq114 (fu:Nat) (p:PS) (r:RS) x a:rnA fu p r false false fd114 [parK] [parK] ([]:LK) ([.st TI.node]:LK) x a=sh114 fu p.c54 p.c73 p.c78 r.c113 r.c114 r.c131 x a:=by kernel_rfl
def sh131 (fu:Nat) (c143:(Str×Unit)->(Option (Int×Unit))) (c72:(Int×Unit)->MM (Str×Unit)) (c73:Unit->MM (Nd×Unit)) (c131:(Int×Unit)->MM (Nd×Unit)) (c142:Unit->MM (Nd×Unit)) (x:(ParT×Unit)) (a:(Int×Unit)):(Option (Option ((ParT×Unit)×(Nd×Unit)))):=bo (c142 () x.1.1 (x.1.2.1,x.1.2.2.1)) fun y1=>iter fu (fun (rec1:(Unit×(ParT×(JT×(JT×Unit))))->Option (Option ((ParT×Unit)×(Nd×Unit)))) (s1:(Unit×(ParT×(JT×(JT×Unit)))))=>bo (c72 (0,()) s1.2.1.1 (s1.2.1.2.1,s1.2.1.2.2.1)) fun y3=>Option.bind (c143 (y3.1.1,())) fun y4=>cond (ilt y4.1 a.1) (some (some (((s1.2.1.1,(y3.2.1,(y3.2.2,((),())))),()),((Nd.mk s1.2.2.2.1.1 s1.2.2.2.1.2.1 s1.2.2.2.1.2.2.1),())))) (cond (ieq y4.1 0) (some (some (((s1.2.1.1,(y3.2.1,(y3.2.2,((),())))),()),((Nd.mk s1.2.2.2.1.1 s1.2.2.2.1.2.1 s1.2.2.2.1.2.2.1),())))) (bo (c73 () s1.2.1.1 (y3.2.1,y3.2.2)) fun y6=>bo (c131 ((iadd .i64 y4.1 1),()) s1.2.1.1 (y6.2.1,y6.2.2)) fun y8=>rec1 ((),((s1.2.1.1,(y8.2.1,(y8.2.2,((),())))),(s1.2.2.1,((51,(0,([(Nd.mk s1.2.2.2.1.1 s1.2.2.2.1.2.1 s1.2.2.2.1.2.2.1),(ndE y6.1.1),(ndE y8.1.1)],()))),()))))))) ((),((x.1.1,(y1.2.1,(y1.2.2,((),())))),((0,(0,([],()))),(((Nd.kind y1.1.1),((Nd.tok y1.1.1),((Nd.kids y1.1.1),()))),()))))
theorem eq131 (fu:Nat) (p:PS) (r:RS) x a:rnA fu p r false false fd131 [parK] [parK] ([.int .i64]:LK) ([.st TI.node]:LK) x a=sh131 fu p.c143 p.c72 p.c73 r.c131 r.c142 x a:=by kernel_rfl
def sh142 (fu:Nat) (c54:((List Str)×Unit)->MM (Bool×Unit)) (c73:Unit->MM (Nd×Unit)) (c78:(Str×Unit)->MM (Nd×Unit)) (c84:(Int×Unit)->MM (Bool×Unit)) (c142:Unit->MM (Nd×Unit)) (c150:Unit->MM (Nd×Unit)) (c151:Unit->MM (Nd×Unit)) (x:(ParT×Unit)) (a:Unit):(Option (Option ((ParT×Unit)×(Nd×Unit)))):=bo (c54 ([[40]],()) x.1.1 (x.1.2.1,x.1.2.2.1)) fun y1=>cond (!y1.1.1) (bo (c150 () x.1.1 (y1.2.1,y1.2.2)) fun y3=>some (some (((x.1.1,(y3.2.1,(y3.2.2,((),())))),()),((ndE y3.1.1),())))) (bo (c84 (1,()) x.1.1 (y1.2.1,y1.2.2)) fun y3=>cond (!y3.1.1) (bo (c150 () x.1.1 (y3.2.1,y3.2.2)) fun y5=>some (some (((x.1.1,(y5.2.1,(y5.2.2,((),())))),()),((ndE y5.1.1),())))) (bo (c73 () x.1.1 (y3.2.1,y3.2.2)) fun y5=>bo (c151 () x.1.1 (y5.2.1,y5.2.2)) fun y7=>bo (c78 ([41],()) x.1.1 (y7.2.1,y7.2.2)) fun y9=>bo (c142 () x.1.1 (y9.2.1,y9.2.2)) fun y11=>ck (List.length [(ndE y5.1.1),(ndE y7.1.1),(ndE y9.1.1),(ndE y11.1.1)]) (some (some (((x.1.1,(y11.2.1,(y11.2.2,((),())))),()),((ndE (Nd.mk 50 0 [(ndE y5.1.1),(ndE y7.1.1),(ndE y9.1.1),(ndE y11.1.1)])),()))))))
theorem eq142 (fu:Nat) (p:PS) (r:RS) x a:rnA fu p r false false fd142 [parK] [parK] ([]:LK) ([.st TI.node]:LK) x a=sh142 fu p.c54 p.c73 p.c78 p.c84 r.c142 r.c150 r.c151 x a:=by kernel_rfl
def sh150 (fu:Nat) (c54:((List Str)×Unit)->MM (Bool×Unit)) (c73:Unit->MM (Nd×Unit)) (c78:(Str×Unit)->MM (Nd×Unit)) (c84:(Int×Unit)->MM (Bool×Unit)) (c142:Unit->MM (Nd×Unit)) (c150:Unit->MM (Nd×Unit)) (c151:Unit->MM (Nd×Unit)) (c154:(Nd×Unit)->MM (Nd×Unit)) (c155:Unit->MM (Nd×Unit)) (x:(ParT×Unit)) (a:Unit):(Option (Option ((ParT×Unit)×(Nd×Unit)))):=bo (c54 ([[43,43],[45,45]],()) x.1.1 (x.1.2.1,x.1.2.2.1)) fun y1=>cond y1.1.1 (bo (c73 () x.1.1 (y1.2.1,y1.2.2)) fun y3=>bo (c150 () x.1.1 (y3.2.1,y3.2.2)) fun y5=>ck (List.length [(ndE y3.1.1),(ndE y5.1.1)]) (some (some (((x.1.1,(y5.2.1,(y5.2.2,((),())))),()),((ndE (Nd.mk 48 0 [(ndE y3.1.1),(ndE y5.1.1)])),()))))) (bo (c54 ([[38],[42],[43],[45],[126],[33]],()) x.1.1 (y1.2.1,y1.2.2)) fun y3=>cond y3.1.1 (bo (c73 () x.1.1 (y3.2.1,y3.2.2)) fun y5=>bo (c142 () x.1.1 (y5.2.1,y5.2.2)) fun y7=>ck (List.length [(ndE y5.1.1),(ndE y7.1.1)]) (some (some (((x.1.1,(y7.2.1,(y7.2.2,((),())))),()),((ndE (Nd.mk 48 0 [(ndE y5.1.1),(ndE y7.1.1)])),()))))) (bo (c54 ([[115,105,122,101,111,102]],()) x.1.1 (y3.2.1,y3.2.2)) fun y5=>cond y5.1.1 (bo (c73 () x.1.1 (y5.2.1,y5.2.2)) fun y7=>ck (List.length [(ndE y7.1.1)]) (bo (c54 ([[40]],()) x.1.1 (y7.2.1,y7.2.2)) fun y9=>cond y9.1.1 (bo (c84 (1,()) x.1.1 (y9.2.1,y9.2.2)) fun y11=>cond y11.1.1 (bo (c73 () x.1.1 (y11.2.1,y11.2.2)) fun y13=>bo (c151 () x.1.1 (y13.2.1,y13.2.2)) fun y15=>bo (c78 ([41],()) x.1.1 (y15.2.1,y15.2.2)) fun y17=>ck ((List.length [(ndE y7.1.1)])+(List.length [(ndE y13.1.1),(ndE y15.1.1),(ndE y17.1.1)])) (some (some (((x.1.1,(y17.2.1,(y17.2.2,((),())))),()),((ndE (Nd.mk 49 0 ([(ndE y7.1.1)]++[(ndE y13.1.1),(ndE y15.1.1),(ndE y17.1.1)]))),()))))) (bo (c150 () x.1.1 (y11.2.1,y11.2.2)) fun y13=>ck ((List.length [(ndE y7.1.1)])+(List.length [(ndE y13.1.1)])) (some (some (((x.1.1,(y13.2.1,(y13.2.2,((),())))),()),((ndE (Nd.mk 49 0 ([(ndE y7.1.1)]++[(ndE y13.1.1)]))),())))))) (bo (c150 () x.1.1 (y9.2.1,y9.2.2)) fun y11=>ck ((List.length [(ndE y7.1.1)])+(List.length [(ndE y11.1.1)])) (some (some (((x.1.1,(y11.2.1,(y11.2.2,((),())))),()),((ndE (Nd.mk 49 0 ([(ndE y7.1.1)]++[(ndE y11.1.1)]))),()))))))) (bo (c155 () x.1.1 (y5.2.1,y5.2.2)) fun y7=>bo (c154 ((ndE y7.1.1),()) x.1.1 (y7.2.1,y7.2.2)) fun y9=>some (some (((x.1.1,(y9.2.1,(y9.2.2,((),())))),()),((ndE y9.1.1),()))))))
theorem eq150 (fu:Nat) (p:PS) (r:RS) x a:rnA fu p r false false fd150 [parK] [parK] ([]:LK) ([.st TI.node]:LK) x a=sh150 fu p.c54 p.c73 p.c78 p.c84 r.c142 r.c150 r.c151 r.c154 r.c155 x a:=by kernel_rfl
def sh154 (fu:Nat) (c54:((List Str)×Unit)->MM (Bool×Unit)) (c73:Unit->MM (Nd×Unit)) (c78:(Str×Unit)->MM (Nd×Unit)) (c80:Unit->MM (Nd×Unit)) (c111:Unit->MM (Nd×Unit)) (c113:Unit->MM (Nd×Unit)) (x:(ParT×Unit)) (a:(Nd×Unit)):(Option (Option ((ParT×Unit)×(Nd×Unit)))):=iter fu (fun (rec1:(Unit×(ParT×(JT×(JT×Unit))))->Option (Option ((ParT×Unit)×(Nd×Unit)))) (s1:(Unit×(ParT×(JT×(JT×Unit)))))=>ck (List.length [(Nd.mk s1.2.2.1.1 s1.2.2.1.2.1 s1.2.2.1.2.2.1)]) (bo (c54 ([[91]],()) s1.2.1.1 (s1.2.1.2.1,s1.2.1.2.2.1)) fun y1=>cond y1.1.1 (bo (c73 () s1.2.1.1 (y1.2.1,y1.2.2)) fun y3=>bo (c113 () s1.2.1.1 (y3.2.1,y3.2.2)) fun y5=>bo (c78 ([93],()) s1.2.1.1 (y5.2.1,y5.2.2)) fun y7=>ck ((List.length [(Nd.mk s1.2.2.1.1 s1.2.2.1.2.1 s1.2.2.1.2.2.1)])+(List.length [(ndE y3.1.1),(ndE y5.1.1),(ndE y7.1.1)])) (rec1 ((),((s1.2.1.1,(y7.2.1,(y7.2.2,((),())))),(((Nd.kind (Nd.mk 45 0 ([(Nd.mk s1.2.2.1.1 s1.2.2.1.2.1 s1.2.2.1.2.2.1)]++[(ndE y3.1.1),(ndE y5.1.1),(ndE y7.1.1)]))),((Nd.tok (Nd.mk 45 0 ([(Nd.mk s1.2.2.1.1 s1.2.2.1.2.1 s1.2.2.1.2.2.1)]++[(ndE y3.1.1),(ndE y5.1.1),(ndE y7.1.1)]))),((Nd.kids (Nd.mk 45 0 ([(Nd.mk s1.2.2.1.1 s1.2.2.1.2.1 s1.2.2.1.2.2.1)]++[(ndE y3.1.1),(ndE y5.1.1),(ndE y7.1.1)]))),()))),(s1.2.2.2.1,())))))) (bo (c54 ([[40]],()) s1.2.1.1 (y1.2.1,y1.2.2)) fun y3=>cond y3.1.1 (bo (c73 () s1.2.1.1 (y3.2.1,y3.2.2)) fun y5=>ck ((List.length [(Nd.mk s1.2.2.1.1 s1.2.2.1.2.1 s1.2.2.1.2.2.1)])+(List.length [(ndE y5.1.1)])) (bo (c54 ([[41]],()) s1.2.1.1 (y5.2.1,y5.2.2)) fun y7=>iter fu (fun (rec2:((Bool×Unit)×(ParT×(JT×(JT×(NdsT×Unit)))))->Option (Option ((ParT×Unit)×(Nd×Unit)))) (s2:((Bool×Unit)×(ParT×(JT×(JT×(NdsT×Unit))))))=>cond s2.1.1 (cond (ilt 2 (lenI s2.2.2.2.2.1.1)) (bo (c73 () s2.2.1.1 (s2.2.1.2.1,s2.2.1.2.2.1)) fun y9=>ck ((List.length s2.2.2.2.2.1.1)+(List.length [(ndE y9.1.1)])) (bo (c111 () s2.2.1.1 (y9.2.1,y9.2.2)) fun y11=>ck ((List.length (s2.2.2.2.2.1.1++[(ndE y9.1.1)]))+(List.length [(ndE y11.1.1)])) (bo (c54 ([[44]],()) s2.2.1.1 (y11.2.1,y11.2.2)) fun y13=>rec2 ((y13.1.1,()),((s2.2.1.1,(y13.2.1,(y13.2.2,((),())))),(s2.2.2.1,(s2.2.2.2.1,((((s2.2.2.2.2.1.1++[(ndE y9.1.1)])++[(ndE y11.1.1)]),()),())))))))) (bo (c111 () s2.2.1.1 (s2.2.1.2.1,s2.2.1.2.2.1)) fun y9=>ck ((List.length s2.2.2.2.2.1.1)+(List.length [(ndE y9.1.1)])) (bo (c54 ([[44]],()) s2.2.1.1 (y9.2.1,y9.2.2)) fun y11=>rec2 ((y11.1.1,()),((s2.2.1.1,(y11.2.1,(y11.2.2,((),())))),(s2.2.2.1,(s2.2.2.2.1,(((s2.2.2.2.2.1.1++[(ndE y9.1.1)]),()),())))))))) (bo (c78 ([41],()) s2.2.1.1 (s2.2.1.2.1,s2.2.1.2.2.1)) fun y9=>ck ((List.length s2.2.2.2.2.1.1)+(List.length [(ndE y9.1.1)])) (rec1 ((),((s2.2.1.1,(y9.2.1,(y9.2.2,((),())))),(((Nd.kind (Nd.mk 44 0 (s2.2.2.2.2.1.1++[(ndE y9.1.1)]))),((Nd.tok (Nd.mk 44 0 (s2.2.2.2.2.1.1++[(ndE y9.1.1)]))),((Nd.kids (Nd.mk 44 0 (s2.2.2.2.2.1.1++[(ndE y9.1.1)]))),()))),(s2.2.2.2.1,()))))))) (((!y7.1.1),()),((s1.2.1.1,(y7.2.1,(y7.2.2,((),())))),(s1.2.2.1,(s1.2.2.2.1,((([(Nd.mk s1.2.2.1.1 s1.2.2.1.2.1 s1.2.2.1.2.2.1)]++[(ndE y5.1.1)]),()),()))))))) (bo (c54 ([[46],[45,62]],()) s1.2.1.1 (y3.2.1,y3.2.2)) fun y5=>cond y5.1.1 (bo (c73 () s1.2.1.1 (y5.2.1,y5.2.2)) fun y7=>bo (c80 () s1.2.1.1 (y7.2.1,y7.2.2)) fun y9=>ck ((List.length [(Nd.mk s1.2.2.1.1 s1.2.2.1.2.1 s1.2.2.1.2.2.1)])+(List.length [(ndE y7.1.1),(ndE y9.1.1)])) (rec1 ((),((s1.2.1.1,(y9.2.1,(y9.2.2,((),())))),(((Nd.kind (Nd.mk 46 0 ([(Nd.mk s1.2.2.1.1 s1.2.2.1.2.1 s1.2.2.1.2.2.1)]++[(ndE y7.1.1),(ndE y9.1.1)]))),((Nd.tok (Nd.mk 46 0 ([(Nd.mk s1.2.2.1.1 s1.2.2.1.2.1 s1.2.2.1.2.2.1)]++[(ndE y7.1.1),(ndE y9.1.1)]))),((Nd.kids (Nd.mk 46 0 ([(Nd.mk s1.2.2.1.1 s1.2.2.1.2.1 s1.2.2.1.2.2.1)]++[(ndE y7.1.1),(ndE y9.1.1)]))),()))),(s1.2.2.2.1,())))))) (bo (c54 ([[43,43],[45,45]],()) s1.2.1.1 (y5.2.1,y5.2.2)) fun y7=>cond y7.1.1 (bo (c73 () s1.2.1.1 (y7.2.1,y7.2.2)) fun y9=>ck ((List.length [(Nd.mk s1.2.2.1.1 s1.2.2.1.2.1 s1.2.2.1.2.2.1)])+(List.length [(ndE y9.1.1)])) (rec1 ((),((s1.2.1.1,(y9.2.1,(y9.2.2,((),())))),(((Nd.kind (Nd.mk 47 0 ([(Nd.mk s1.2.2.1.1 s1.2.2.1.2.1 s1.2.2.1.2.2.1)]++[(ndE y9.1.1)]))),((Nd.tok (Nd.mk 47 0 ([(Nd.mk s1.2.2.1.1 s1.2.2.1.2.1 s1.2.2.1.2.2.1)]++[(ndE y9.1.1)]))),((Nd.kids (Nd.mk 47 0 ([(Nd.mk s1.2.2.1.1 s1.2.2.1.2.1 s1.2.2.1.2.2.1)]++[(ndE y9.1.1)]))),()))),(s1.2.2.2.1,())))))) (some (some (((s1.2.1.1,(y7.2.1,(y7.2.2,((),())))),()),((Nd.mk s1.2.2.1.1 s1.2.2.1.2.1 s1.2.2.1.2.2.1),()))))))))) ((),((x.1.1,(x.1.2.1,(x.1.2.2.1,((),())))),(((Nd.kind a.1),((Nd.tok a.1),((Nd.kids a.1),()))),((0,(0,([],()))),()))))
theorem eq154 (fu:Nat) (p:PS) (r:RS) x a:rnA fu p r false false fd154 [parK] [parK] ([.st TI.node]:LK) ([.st TI.node]:LK) x a=sh154 fu p.c54 p.c73 p.c78 p.c80 r.c111 r.c113 x a:=by kernel_rfl
def sh155 (fu:Nat) (c73:Unit->MM (Nd×Unit)) (c85:(Int×Unit)->MM (Bool×Unit)) (c112:(Int×Unit)->MM (Bool×Unit)) (c115:Unit->(List Nd)->MM (Unit×(List Nd))) (x:(ParT×Unit)) (a:Unit):(Option (Option ((ParT×Unit)×(Nd×Unit)))):=bo (c85 (0,()) x.1.1 (x.1.2.1,x.1.2.2.1)) fun y1=>cond y1.1.1 (bo (c73 () x.1.1 (y1.2.1,y1.2.2)) fun y3=>ck (List.length [(ndE y3.1.1)]) (some (some (((x.1.1,(y3.2.1,(y3.2.2,((),())))),()),((ndE (Nd.mk 40 0 [(ndE y3.1.1)])),()))))) (bo (c112 (2,()) x.1.1 (y1.2.1,y1.2.2)) fun y3=>cond y3.1.1 (bo (c73 () x.1.1 (y3.2.1,y3.2.2)) fun y5=>ck (List.length [(ndE y5.1.1)]) (some (some (((x.1.1,(y5.2.1,(y5.2.2,((),())))),()),((ndE (Nd.mk 41 0 [(ndE y5.1.1)])),()))))) (bo (c112 (3,()) x.1.1 (y3.2.1,y3.2.2)) fun y5=>cond y5.1.1 (bo (c73 () x.1.1 (y5.2.1,y5.2.2)) fun y7=>ck (List.length [(ndE y7.1.1)]) (some (some (((x.1.1,(y7.2.1,(y7.2.2,((),())))),()),((ndE (Nd.mk 41 0 [(ndE y7.1.1)])),()))))) (bo (c112 (4,()) x.1.1 (y5.2.1,y5.2.2)) fun y7=>cond y7.1.1 (iter fu (fun (rec1:(Unit×(ParT×(JT×(NdsT×Unit))))->Option (Option ((ParT×Unit)×(Nd×Unit)))) (s1:(Unit×(ParT×(JT×(NdsT×Unit)))))=>bo (c112 (4,()) s1.2.1.1 (s1.2.1.2.1,s1.2.1.2.2.1)) fun y9=>cond y9.1.1 (bo (c73 () s1.2.1.1 (y9.2.1,y9.2.2)) fun y11=>ck ((List.length s1.2.2.2.1.1)+(List.length [(ndE y11.1.1)])) (rec1 ((),((s1.2.1.1,(y11.2.1,(y11.2.2,((),())))),(s1.2.2.1,(((s1.2.2.2.1.1++[(ndE y11.1.1)]),()),())))))) (some (some (((s1.2.1.1,(y9.2.1,(y9.2.2,((),())))),()),((ndE (Nd.mk 42 0 s1.2.2.2.1.1)),()))))) ((),((x.1.1,(y7.2.1,(y7.2.2,((),())))),((0,(0,([],()))),(([],()),()))))) (bo (c115 () [] x.1.1 (y7.2.1,y7.2.2)) fun y9=>some (some (((x.1.1,(y9.2.1,(y9.2.2,((),())))),()),((ndE (Nd.mk 43 0 y9.1.2)),())))))))
theorem eq155 (fu:Nat) (p:PS) (r:RS) x a:rnA fu p r false false fd155 [parK] [parK] ([]:LK) ([.st TI.node]:LK) x a=sh155 fu p.c73 p.c85 p.c112 r.c115 x a:=by kernel_rfl
def sh143 (fu:Nat) (nf:Nat->Bool) (x0:Str):(Option (Int×Unit)):=cond (seq x0 [124,124]) (some (1,())) (cond (seq x0 [38,38]) (some (2,())) (cond (seq x0 [124]) (some (3,())) (cond (seq x0 [94]) (some (4,())) (cond (seq x0 [38]) (some (5,())) (cond (seq x0 [61,61]) (some (6,())) (cond (seq x0 [33,61]) (some (6,())) (cond (seq x0 [60]) (some (7,())) (cond (seq x0 [62]) (some (7,())) (cond (seq x0 [60,61]) (some (7,())) (cond (seq x0 [62,61]) (some (7,())) (cond (seq x0 [60,60]) (some (8,())) (cond (seq x0 [62,62]) (some (8,())) (cond (seq x0 [43]) (some (9,())) (cond (seq x0 [45]) (some (9,())) (cond (seq x0 [42]) (some (10,())) (cond (seq x0 [47]) (some (10,())) (cond (seq x0 [37]) (some (10,())) (some (0,())))))))))))))))))))
theorem eq143:@run143 = @sh143:=by kernel_rfl
theorem con53 (fu:Nat) {p:PS} (hp:POk p) {r:RS} (hr:ROk r):CQ 53 (cM k0 ([.st TI.node,.bool]:LK) (mM (sh53 fu p.c33 p.c72 p.c73 r.c74 r.c75 p.c76))):=
 xF (xH fu hp hr fdok53 (by decide) (eq53 fu p r))
theorem con74 (fu:Nat) {p:PS} (hp:POk p) {r:RS} (hr:ROk r):CQ 74 (cM k0 kN (mM (sh74 fu p.c54 p.c73 p.c85 r.c107))):=
 xF (xH fu hp hr fdok74 (by decide) (eq74 fu p r))
theorem con107 (fu:Nat) {p:PS} (hp:POk p) {r:RS} (hr:ROk r):CQ 107 (cM k0 kN (mM (sh107 fu r.c53 p.c54 r.c56 p.c73 p.c78))):=
 xF (xH fu hp hr zRG (by decide) (eq107 fu p r))
theorem con75 (fu:Nat) {p:PS} (hp:POk p) {r:RS} (hr:ROk r):CQ 75 (cM k0 kN (mM (sh75 fu p.c54 p.c73 p.c78 p.c85 r.c108))):=
 xF (xH fu hp hr fdok75 (by decide) (eq75 fu p r))
theorem con108 (fu:Nat) {p:PS} (hp:POk p) {r:RS} (hr:ROk r):CQ 108 (cM k0 kN (mM (sh108 fu p.c54 p.c58 p.c72 p.c73 p.c80 r.c114))):=
 xF (xH fu hp hr zQB (by decide) (eq108 fu p r))
theorem con79 (fu:Nat) {p:PS} (hp:POk p) {r:RS} (hr:ROk r):CQ 79 (cX k0 k0 (mX (sh79 fu p.c54 p.c73))):=
 zIM (xH fu hp hr fdok79 (by decide) (eq79 fu p r))
theorem con82 (fu:Nat) {p:PS} (hp:POk p) {r:RS} (hr:ROk r):CQ 82 (cX k0 k0 (mX (sh82 fu p.c54 p.c73 p.c78 r.c81 r.c111))):=
 zIM (xH fu hp hr fdok82 (by decide) (eq82 fu p r))
theorem con56 (fu:Nat) {p:PS} (hp:POk p) {r:RS} (hr:ROk r):CQ 56 (cN k0 ([.st TI.node,.str,.bool]:LK) (mN (sh56 fu p.c54 r.c56 p.c72 p.c73 p.c78 r.c79 p.c80 r.c81 r.c82))):=
 cN_of (xH fu hp hr fdok56 (by decide) (eq56 fu p r))
theorem con130 (fu:Nat) {p:PS} (hp:POk p) {r:RS} (hr:ROk r):CQ 130 (cM kB ([.st TI.node,.str,.bool]:LK) (mM (sh130 fu p.c54 p.c72 p.c73 p.c76 p.c78 r.c79 r.c82 p.c85 r.c130))):=
 xF (xH fu hp hr zQl (by decide) (eq130 fu p r))
theorem con81 (fu:Nat) {p:PS} (hp:POk p) {r:RS} (hr:ROk r):CQ 81 (cL k0 kN (mL (sh81 fu p.c54 p.c59 p.c61 p.c73 p.c78 r.c110))):=
 cL_of (xH fu hp hr fdok81 (by decide) (eq81 fu p r))
theorem con110 (fu:Nat) {p:PS} (hp:POk p) {r:RS} (hr:ROk r):CQ 110 (cM k0 kN (mM (sh110 fu r.c53 p.c58 r.c130))):=
 xF (xH fu hp hr zQ7 (by decide) (eq110 fu p r))
theorem con151 (fu:Nat) {p:PS} (hp:POk p) {r:RS} (hr:ROk r):CQ 151 (cM k0 kN (mM (sh151 fu r.c53 r.c130))):=
 xF (xH fu hp hr zRW (by decide) (eq151 fu p r))
theorem con83 (fu:Nat) {p:PS} (hp:POk p) {r:RS} (hr:ROk r):CQ 83 (cM k0 kN (mM (sh83 fu p.c54 p.c73 p.c78 r.c83 r.c111))):=
 xF (xH fu hp hr fdok83 (by decide) (eq83 fu p r))
theorem con57 (fu:Nat) {p:PS} (hp:POk p) {r:RS} (hr:ROk r):CQ 57 (cM ([.st TI.node,.str,.bool]:LK) kN (mM (sh57 fu p.c54 p.c58 p.c73 r.c83))):=
 xF (xH fu hp hr fdok57 (by decide) (eq57 fu p r))
theorem con55 (fu:Nat) {p:PS} (hp:POk p) {r:RS} (hr:ROk r):CQ 55 (cM ([.ag [.ow true TI.node],.bool]:LK) kN (mM (sh55 fu p.c54 r.c56 r.c57 p.c73 p.c78))):=
 xF (xH fu hp hr fdok55 (by decide) (eq55 fu p r))
theorem con37 (fu:Nat) {p:PS} (hp:POk p) {r:RS} (hr:ROk r):CQ 37 (cM kB kN (mM (sh37 fu r.c53 p.c54 r.c55 r.c56 r.c57 p.c58 p.c59 r.c60 p.c61))):=
 xF (xH fu hp hr fdok37 (by decide) (eq37 fu p r))
theorem con60 (fu:Nat) {p:PS} (hp:POk p) {r:RS} (hr:ROk r):CQ 60 (cM k0 kN (mM (sh60 fu r.c37 p.c54 p.c72 p.c73 p.c78 p.c84 p.c85 r.c86))):=
 xF (xH fu hp hr fdok60 (by decide) (eq60 fu p r))
theorem con86 (fu:Nat) {p:PS} (hp:POk p) {r:RS} (hr:ROk r):CQ 86 (cM k0 kN (mM (sh86 fu p.c54 p.c59 r.c60 p.c61 p.c72 p.c73 p.c78 p.c80 p.c85 r.c86 p.c112 r.c113 r.c114 r.c115 r.c116 r.c117))):=
 xF (xH fu hp hr fdok86 (by decide) (eq86 fu p r))
theorem con116 (fu:Nat) {p:PS} (hp:POk p) {r:RS} (hr:ROk r):CQ 116 (cM ([.ag [.ow true TI.node]]:LK) kN (mM (sh116 fu r.c37 p.c59 p.c61 p.c78 p.c84 r.c86 r.c117))):=
 xF (xH fu hp hr zPt (by decide) (eq116 fu p r))
theorem con115 (fu:Nat) {p:PS} (hp:POk p) {r:RS} (hr:ROk r):CQ 115 (cX k0 k0 (mX (sh115 fu p.c78 r.c113))):=
 zIM (xH fu hp hr zP3 (by decide) (eq115 fu p r))
theorem con117 (fu:Nat) {p:PS} (hp:POk p) {r:RS} (hr:ROk r):CQ 117 (cX kS k0 (mX (sh117 fu p.c54 p.c78 r.c113))):=
 zIM (xH fu hp hr zPr (by decide) (eq117 fu p r))
theorem con113 (fu:Nat) {p:PS} (hp:POk p) {r:RS} (hr:ROk r):CQ 113 (cM k0 kN (mM (sh113 fu p.c54 p.c73 r.c111 r.c113))):=
 xF (xH fu hp hr zQE (by decide) (eq113 fu p r))
theorem con111 (fu:Nat) {p:PS} (hp:POk p) {r:RS} (hr:ROk r):CQ 111 (cM k0 kN (mM (sh111 fu p.c54 p.c73 r.c111 r.c114))):=
 xF (xH fu hp hr zRX (by decide) (eq111 fu p r))
theorem con114 (fu:Nat) {p:PS} (hp:POk p) {r:RS} (hr:ROk r):CQ 114 (cM k0 kN (mM (sh114 fu p.c54 p.c73 p.c78 r.c113 r.c114 r.c131))):=
 xF (xH fu hp hr zPw (by decide) (eq114 fu p r))
theorem con131 (fu:Nat) {p:PS} (hp:POk p) {r:RS} (hr:ROk r):CQ 131 (cM kI kN (mM (sh131 fu p.c143 p.c72 p.c73 r.c131 r.c142))):=
 xF (xH fu hp hr zQi (by decide) (eq131 fu p r))
theorem con142 (fu:Nat) {p:PS} (hp:POk p) {r:RS} (hr:ROk r):CQ 142 (cM k0 kN (mM (sh142 fu p.c54 p.c73 p.c78 p.c84 r.c142 r.c150 r.c151))):=
 xF (xH fu hp hr zQZ (by decide) (eq142 fu p r))
theorem con150 (fu:Nat) {p:PS} (hp:POk p) {r:RS} (hr:ROk r):CQ 150 (cM k0 kN (mM (sh150 fu p.c54 p.c73 p.c78 p.c84 r.c142 r.c150 r.c151 r.c154 r.c155))):=
 xF (xH fu hp hr zRM (by decide) (eq150 fu p r))
theorem con154 (fu:Nat) {p:PS} (hp:POk p) {r:RS} (hr:ROk r):CQ 154 (cM kN kN (mM (sh154 fu p.c54 p.c73 p.c78 p.c80 r.c111 r.c113))):=
 xF (xH fu hp hr zPe (by decide) (eq154 fu p r))
theorem con155 (fu:Nat) {p:PS} (hp:POk p) {r:RS} (hr:ROk r):CQ 155 (cM k0 kN (mM (sh155 fu p.c73 p.c85 p.c112 r.c115))):=
 xF (xH fu hp hr zQr (by decide) (eq155 fu p r))
theorem con143 (fu:Nat) :ConOk CC Tryz.prog 143 ⟨zDs,zCX,fun x=>sh143 fu (fun _=>false) x.1⟩:=
 x6 (c:=⟨zDs,zCX,fun x=>sh143 fu (fun _=>false) x.1⟩) (syn:=syn) (fu:=fu) (d:=2) (inl:=zB []) (orc:=zB []) (orr:=zB []) (orp:=zB []) (pf:=hasN []) (rf:=hasN []) yo CCok mixed (fun g=>(zL (α:=Con UU) (l:=[]) g).symm) (fun g=>(zL (α:=CR UU) (l:=[]) g).symm) (zD) (zD) (zD) (zD) zRV (by show 1<=32; decide) (xR rfl) (fun nf x=>by show run143 fu nf x.1=_; rw [eq143]; rfl)
end
section
open Go.Al Go.Den
abbrev as41:List (AK UU):=[.int .i64,.dl TI.node]
abbrev rs41:List (AK UU):=[.st TI.node]
def kf15:Nat->List Nat
 | 0=>[0]
 | 1=>[2]
 | _=>[]
def hd15:List (Nat×Head UU):=[]
def jn15:List (Nat×Head UU):=[]
noncomputable def fd15:FD UU:=⟨⟨fun d=>hasN [] d,fun d=>hasN [] d,kf15,zB hd15,zB jn15,zf []⟩,zV Tryz.f15,6,[.tmp 2]⟩
def kf33:Nat->List Nat
 | 0=>[0,1]
 | 1=>[4]
 | _=>[]
def hd33:List (Nat×Head UU):=[]
def jn33:List (Nat×Head UU):=[]
noncomputable def fd33:FD UU:=⟨⟨fun d=>hasN [] d,fun d=>hasN [] d,kf33,zB hd33,zB jn33,zf []⟩,zV Tryz.f33,9,[.tmp 4]⟩
def kf52:Nat->List Nat
 | 0=>[0,1]
 | 1=>[0,1,7,8]
 | 2=>[0,1,7,8,9]
 | 3=>[0,1,5,7,8]
 | 4=>[0,1,5,7,8,16]
 | 5=>[4]
 | 6=>[0,1,7,8]
 | 7=>[4]
 | _=>[]
def hd52:List (Nat×Head UU):=[(2,⟨[0,1,7],[(8,.int .i64)],[]⟩)]
def jn52:List (Nat×Head UU):=[]
noncomputable def fd52:FD UU:=⟨⟨fun d=>hasN [] d,fun d=>hasN [] d,kf52,zB hd52,zB jn52,zf []⟩,zV Tryz.f52,19,[.tmp 4]⟩
noncomputable def run33 (fu:Nat) (nf:Nat->Bool) (x0:List (List UInt8)) (x1:List UInt8):Option (zR rs33):=
 jv CC Tb fu 3 (zB [(52,fd52)]) (zB []) (zB []) (zB []) fd33 as33 rs33 nf (x0,x1,())
theorem fdok33:FDOk Tryz.prog (hasN []) (hasN []) 33 fd33:=⟨⟨Tryz.f33,Tryz.func33,by kernel_rfl,Tryz.ntmps33,Tryz.results33⟩,by kernel_rfl,by kernel_rfl,by kernel_rfl⟩
theorem zMw:FDOk Tryz.prog (hasN []) (hasN []) 52 fd52:=⟨⟨Tryz.f52,Tryz.func52,by kernel_rfl,Tryz.ntmps52,Tryz.results52⟩,by kernel_rfl,by kernel_rfl,by kernel_rfl⟩
noncomputable def run15 (fu:Nat) (c33:List (List UInt8)×List UInt8×Unit->Option (Bool×Unit)) (nf:Nat->Bool) (x0:List UInt8):Option (zR rs15):=
 jv CC Tb fu 2 (zB []) (zB [(33,(⟨as33,rs33,c33⟩:Con UU))]) (zB []) (zB []) fd15 as15 rs15 nf (x0,())
theorem fdok15:FDOk Tryz.prog (hasN [33]) (hasN []) 15 fd15:=⟨⟨Tryz.f15,Tryz.func15,by kernel_rfl,Tryz.ntmps15,Tryz.results15⟩,by kernel_rfl,by kernel_rfl,by kernel_rfl⟩
noncomputable def run41 (fu:Nat) (nf:Nat->Bool) (x0:Int) (x1:List Nd):Option (zR rs41):=
 jv CC Tb fu 2 (zB []) (zB []) (zB []) (zB []) fd41 as41 rs41 nf (x0,x1,())
theorem fdok41:FDOk Tryz.prog (hasN []) (hasN []) 41 fd41:=⟨⟨Tryz.f41,Tryz.func41,by kernel_rfl,Tryz.ntmps41,Tryz.results41⟩,by kernel_rfl,by kernel_rfl,by kernel_rfl⟩
end
section
open Go.Al Go.Den
def sh33 (fu:Nat) (nf:Nat->Bool) (x0:(List Str)) (x1:Str):(Option (Bool×Unit)):=iter fu (fun (rec1:((Int×Unit)×Unit)->Option (Bool×Unit)) (s1:((Int×Unit)×Unit))=>cond (ilt s1.1.1 (lenI x0)) (cond (inB s1.1.1 (List.length x0)) (cond (seq x1 (List.getD x0 (Int.toNat s1.1.1) [])) (some ((ile 0 s1.1.1),())) (rec1 (((iadd .i64 s1.1.1 1),()),()))) (none)) (some ((ile 0 (Neg.neg 1)),()))) ((0,()),())
theorem eq33:@run33 = @sh33:=by kernel_rfl
def sh15 (fu:Nat) (c33:((List Str)×(Str×Unit))->(Option (Bool×Unit))) (nf:Nat->Bool) (x0:Str):(Option (Bool×Unit)):=Option.bind (c33 ([[97,117,116,111],[98,114,101,97,107],[99,97,115,101],[99,104,97,114],[99,111,110,115,116],[99,111,110,116,105,110,117,101],[100,101,102,97,117,108,116],[100,111],[100,111,117,98,108,101],[101,108,115,101],[101,110,117,109],[101,120,116,101,114,110],[102,108,111,97,116],[102,111,114],[103,111,116,111],[105,102],[105,110,108,105,110,101],[105,110,116],[108,111,110,103],[114,101,103,105,115,116,101,114],[114,101,116,117,114,110],[115,104,111,114,116],[115,105,103,110,101,100],[115,105,122,101,111,102],[115,116,97,116,105,99],[115,116,114,117,99,116],[115,119,105,116,99,104],[116,121,112,101,100,101,102],[117,110,105,111,110],[117,110,115,105,103,110,101,100],[118,111,105,100],[118,111,108,97,116,105,108,101],[119,104,105,108,101]],(x0,()))) fun y0=>some (y0.1,())
theorem eq15:@run15 = @sh15:=by kernel_rfl
def sh41 (fu:Nat) (nf:Nat->Bool) (x0:Int) (x1:(List Nd)):(Option (Nd×Unit)):=some ((Nd.mk x0 0 x1),())
theorem eq41:@run41 = @sh41:=by kernel_rfl
theorem con33 (fu:Nat) :ConOk CC Tryz.prog 33 ⟨as33,rs33,fun x=>sh33 fu (fun _=>false) x.1 x.2.1⟩:=
 x6 (c:=⟨as33,rs33,fun x=>sh33 fu (fun _=>false) x.1 x.2.1⟩) (syn:=syn) (fu:=fu) (d:=3) (inl:=zB [(52,fd52)]) (orc:=zB []) (orr:=zB []) (orp:=zB []) (pf:=hasN []) (rf:=hasN []) yo CCok mixed (fun g=>(zL (α:=Con UU) (l:=[]) g).symm) (fun g=>(zL (α:=CR UU) (l:=[]) g).symm) (zE zMw (zD)) (zD) (zD) (zD) fdok33 (by show 2<=9; decide) (xR rfl) (fun nf x=>by show run33 fu nf x.1 x.2.1=_; rw [eq33]; rfl)
theorem con15 (fu:Nat) (c33:zR as33->Option (zR rs33)) (h33:ConOk CC Tryz.prog 33 ⟨as33,rs33,c33⟩):ConOk CC Tryz.prog 15 ⟨as15,rs15,fun x=>sh15 fu c33 (fun _=>false) x.1⟩:=
 x6 (c:=⟨as15,rs15,fun x=>sh15 fu c33 (fun _=>false) x.1⟩) (syn:=syn) (fu:=fu) (d:=2) (inl:=zB []) (orc:=zB [(33,(⟨as33,rs33,c33⟩:Con UU))]) (orr:=zB []) (orp:=zB []) (pf:=hasN [33]) (rf:=hasN []) yo CCok mixed (fun g=>(zL (α:=Con UU) (l:=[(33,(⟨as33,rs33,c33⟩:Con UU))]) g).symm) (fun g=>(zL (α:=CR UU) (l:=[]) g).symm) (zD) (zE ⟨zGO,h33⟩ (zD)) (zD) (zD) fdok15 (by show 1<=6; decide) (xR rfl) (fun nf x=>by show run15 fu c33 nf x.1=_; rw [eq15]; rfl)
theorem con41 (fu:Nat) :ConOk CC Tryz.prog 41 ⟨as41,rs41,fun x=>sh41 fu (fun _=>false) x.1 x.2.1⟩:=
 x6 (c:=⟨as41,rs41,fun x=>sh41 fu (fun _=>false) x.1 x.2.1⟩) (syn:=syn) (fu:=fu) (d:=2) (inl:=zB []) (orc:=zB []) (orr:=zB []) (orp:=zB []) (pf:=hasN []) (rf:=hasN []) yo CCok mixed (fun g=>(zL (α:=Con UU) (l:=[]) g).symm) (fun g=>(zL (α:=CR UU) (l:=[]) g).symm) (zD) (zD) (zD) (zD) fdok41 (by show 2<=8; decide) (xR rfl) (fun nf x=>by show run41 fu nf x.1 x.2.1=_; rw [eq41]; rfl)
end
section
open Go.Al Go.Den Go.RowKit
attribute [local congr] qt jY js kP qC ql xW xX jC jT qr j0 qv jA xP xj qk jz jr qR jV qw qP qQ qi qn qM qu qo qS kp jx jq jX jU jP qp qO qN
theorem zBa {s:S} {l:List TokT} {i:Int} {xs:List MT} {u u' u'':Unit} {vx:List V} {r:List Res} (h:VKs CC s [parK] ((l,i,xs,u,u'),u'') vx r) :
 ∃ b0 b cap fp m,vx=[.at (.pointer (some ⟨b0,0,none⟩))]/\Al.look s.box b0=some ([.lst (zk (l.map (CC.encV TI.tok))) (l.map (CC.encV TI.tok)),.at (.int .i64 i),.at (.slice (some ⟨b,0,none⟩) xs.length cap),.at (.map m)],4) /\
  zM s.ob b=some (.sc (xs.map trMC) cap,fp)/\r=[.inr b0,.ob b]:=by
 simp only [VKs,VK] at h
 obtain ⟨v,vs',r1,r2,rfl,rfl,⟨b0,vs,rs',rfl,h1,h2,rfl⟩,rfl,rfl⟩:=h
 obtain ⟨v1,w1,q1,q2,rfl,rfl,⟨rfl,rfl⟩,v2,w2,q3,q4,rfl,rfl,⟨rfl,rfl⟩,v3,w3,q5,q6,rfl,rfl,⟨b,cap,fp,rfl,h3,rfl⟩,v4,w4,q7,q8,rfl,rfl,⟨⟨m,rfl⟩,rfl⟩,rfl,rfl⟩:=h2
 exact ⟨b0,b,cap,fp,m,rfl,h1,h3,rfl⟩
theorem zBW {s:S} {l:List TokT} {i:Int} {xs:List MT} {u u' u'':Unit} {b0 b cap n:Nat} {fp:List Nat} {m:Option Nat} (hn:n=xs.length) (h1:Al.look s.box b0=some ([.lst (zk (l.map (CC.encV TI.tok))) (l.map (CC.encV TI.tok)),.at (.int .i64 i),.at (.slice (some ⟨b,0,none⟩) n cap),.at (.map m)],4))
 (h2:zM s.ob b=some (.sc (xs.map trMC) cap,fp)):VKs CC s [parK] ((l,i,xs,u,u'),u'') [.at (.pointer (some ⟨b0,0,none⟩))] [.inr b0,.ob b]:=by
 subst hn
 simp only [VKs,VK]
 exact ⟨_,_,_,[],rfl,rfl,⟨b0,_,[.ob b],rfl,h1,⟨_,_,[],[.ob b],rfl,rfl,⟨rfl,rfl⟩,_,_,[],[.ob b],rfl,rfl,⟨rfl,rfl⟩,_,_,[.ob b],[],rfl,rfl,⟨b,cap,fp,rfl,h2,rfl⟩,_,_,[],[],rfl,rfl,⟨⟨m,rfl⟩,rfl⟩,rfl,rfl⟩,rfl⟩,rfl,rfl⟩
abbrev pol59:Pol:=⟨fun _=>false,fun d=>d == 11,fun _=>false,fun _=>false,[],fun _=>[]⟩
def c59 (a:Option MT×Unit):MM Unit:=fun _ s=>match a.1 with
 | some m=>if s.2.length < 1000000 then some (some ((),s.1,s.2++[m])) else none
 | none=>none
set_option maxRecDepth 100000 in
theorem ok59:CPOk CC Tryz.prog syn 59 (cM [.mpo] [] c59):=by
 refine zD3 fun l i xs a o ho st vx va r1 r2 h1 h2 hn=>?_
 obtain ⟨a,ua⟩:=a
 cases a with
 | none=>cases ho
 | some c=>
 simp only [c59] at ho
 split at ho
 rotate_left
 · cases ho
 rename_i hlen
 injection ho with ho
 subst ho
 obtain ⟨b0,b,cap,fp,m,rfl,k1,k2,rfl⟩:=zBa h1
 simp only [VKs,VK] at h2
 obtain ⟨va,vs',q1,q2,rfl,rfl,⟨bm,fpm,rfl,k3,rfl⟩,rfl,rfl⟩:=h2
 have hne:b≠bm:=by intro e; subst e; simp at hn
 have e1:=(yp st ([.inr b0,.ob b]++([.ob bm]++[])) b0).1 (by simp)
 have e2:=(xM st ([.inr b0,.ob b]++([.ob bm]++[])) b).1 (by simp)
 have e3:=(xM st ([.inr b0,.ob b]++([.ob bm]++[])) bm).1 (by simp)
 rw [k1] at e1; rw [k2] at e2; rw [k3] at e3
 generalize subS st ([.inr b0,.ob b]++([.ob bm]++[]))=s0 at e1 e2 e3 ⊢
 refine zLV (φ:=∃ bs,fp=b::bs/\(b::bs).Nodup/\bs.length=xs.length/\bs.length<=cap/\fpm=[bm]/\bm ∉ bs/\b0≠b/\b0 ∉ bs/\b0≠bm) (fun B g w hi=>?_) ?_
 · obtain ⟨bs,p1,p2,p3,p4,_⟩:=hi.unpack e2
   have p5:=(hi.ex.ob bm _ _ e3).1.1
   subst p5
   have p6:=hi.boxFr e1
   subst p1
   refine ⟨bs,rfl,p2,by simpa using p3,p4,rfl,fun hm=>hne (hi.ex.obd b _ _ bm _ _ bm e2 e3 (by simp [hm]) (by simp)),?_,?_,?_⟩
   · intro e; exact p6.2 b _ _ e2 (by simp [e])
   · intro e; exact p6.2 b _ _ e2 (by simp [e])
   · intro e; exact p6.2 bm _ _ e3 (by simp [e])
 rintro ⟨bs,rfl,hnd,hbl,hcap,rfl,hm1,hm2,hm3,hm4⟩
 refine zLW (s':=jd s0 b bs (xs.map trMC) cap) (fun B g w hi=>by
  obtain ⟨bs',p1,_,_,_,p5⟩:=hi.unpack e2
  injection p1 with _ p1
  subst p1; exact p5) ?_
 have l1:Al.look (jd s0 b bs (xs.map trMC) cap).box b0=some ([.lst (zk (l.map (CC.encV TI.tok))) (l.map (CC.encV TI.tok)),.at (.int .i64 i),.at (.slice (some ⟨b,0,none⟩) xs.length cap),.at (.map m)],4):=by
  show Al.look (lay s0.box b _) b0=_
  rw [zW,if_neg (Ne.symm hm2)]; exact e1
 have l2:Al.look (jd s0 b bs (xs.map trMC) cap).box b=some (mcs bs,cap):=by
  show Al.look (lay s0.box b _) b=_
  rw [zW,if_pos rfl]
 have l3:Mps (jd s0 b bs (xs.map trMC) cap).ob bs (xs.map trMC):=zDC _ (List.nodup_cons.1 hnd).2 (by simpa using hbl)
 have l4:zM (jd s0 b bs (xs.map trMC) cap).ob bm=some (.mp (trMC c),[bm]):=by
  rw [zCD,if_neg (Ne.symm hne),e3]
  cases e:zM (mps bs (xs.map trMC)) bm with
  | none=>rfl
  | some p=>
   exfalso
   have:∀ (bs:List Nat) (ys:List MC),bm ∉ bs->zM (mps bs ys) bm=none:=by
    intro bs
    induction bs with
    | nil=>intro ys _; rfl
    | cons b bs ih=>
     intro ys h
     cases ys with
     | nil=>rfl
     | cons y ys=>
      simp only [List.mem_cons,not_or] at h
      simp only [mps,z7,if_neg (Ne.symm h.1)]
      exact ih ys h.2
   rw [this bs _ hm1] at e; cases e
 generalize jd s0 b bs (xs.map trMC) cap=s1 at l1 l2 l3 l4 ⊢
 refine zFp ?_
 refine jN Tryz.func59 rfl Tryz.ntmps59 Tryz.results59 (by show 2<=14; decide) fun B=>?_
 have hb0:b0≠b:=hm2
 simp only [List.cons_append,List.nil_append,jO,Nat.reduceAdd]
 (repeat (first | (refine yd ?_) | (refine zv ?_; simp -failIfUnchanged only [zI,zN]) | (refine ye ?_; simp -failIfUnchanged only [yE,zx,yP,yC]) | (refine yK ?_; simp -failIfUnchanged only [zw,zq,zI,zN,reduceIte]) | (refine zy ?_) | ((first | (refine yc pol59 ks59 _ rfl rfl ?_) | (refine yL pol59 mixed ks59 _ rfl rfl (by kernel_rfl) (by kernel_rfl) ?_)); simp only [↓xO,↓qg,↓xT,↓qh,↓zBA,↓zBf,↓qa,↓zEL,zt,jh,yF,yS,xG,yD,xu,xZ,xL,kt,xC,xS,zDc,zBn,zA3,zFh,zHC,jE,zEg,zDU,zMK,zBe,Option.map_some,implies_true,Nat.one_mul,zI3,List.map_cons,List.map_nil,List.append_nil,and_self,beq_self_eq_true,yh,yV,zK,V.isOne,V.size,V.flat,List.all_cons,List.all_nil,List.length_cons,List.length_nil,List.drop_zero,List.drop_succ_cons,List.take_succ_cons,List.take_zero,List.getD_cons_zero,List.getD_cons_succ,Bool.true_and,Bool.and_self,Option.isSome_some,if_true,if_false,true_and,Nat.reduceAdd,Nat.reduceEqDiff,Nat.reduceLeDiff,reduceCtorEq,Bool.false_eq_true,Nat.zero_add,Nat.lt_add_one,zW,yj,zJB,zGY,zb,Nat.reduceBEq,zCP,zAe,zPu,zero63,zC8,zDz,zBp,zGC,zC2,ks59,l1,l2])))
 have hmx:maxLen=9223372036854775807:=rfl
 refine ⟨⟨by omega,by omega⟩,by omega,by omega,by simp only [mcs,List.length_map]; omega,fun b' cap' hb' hcap'=>?_⟩
 have m1:¬ b' = b0:=fun e=>by rw [e,if_neg (Ne.symm hm2),l1] at hb'; cases hb'
 have m2:¬ b0=b':=fun e=>m1 e.symm
 have hb1:¬ b=b0:=Ne.symm hm2
 simp only [qe,spl,List.cons_append,List.nil_append,and_self,zK,V.isOne,V.flat,List.all_cons,List.all_nil,List.length_cons,List.length_nil,List.drop_zero,List.drop_succ_cons,List.take_succ_cons,List.take_zero,Bool.true_and,Bool.and_self,if_false,true_and,Nat.reduceAdd,Nat.reduceLeDiff,Nat.zero_add,zC8,zBp,m1,hb1]
 have htk:List.take (xs.length * 1) (mcs bs)++[V.at (Value.map (some bm))]=mcs (bs++[bm]):=by
  rw [List.take_of_length_le (by simp only [mcs,List.length_map]; omega)]; simp [mcs]
 rw [htk,Nat.mul_one]
 have hbn:(bs++[bm]).Nodup:=by
  refine List.nodup_append.2 ⟨(List.nodup_cons.1 hnd).2,by simp,fun x hx y hy e=>?_⟩
  simp only [List.mem_singleton] at hy
  subst e; subst hy; exact hm1 hx
 have hMps:Mps s1.ob (bs++[bm]) (xs.map trMC++[trMC c]):=by
  have:∀ (bs:List Nat) (ys:List MC),Mps s1.ob bs ys->Mps s1.ob (bs++[bm]) (ys++[trMC c]):=by
   intro bs
   induction bs with
   | nil=>intro ys h; rw [show ys=[] from h]; exact ⟨_,[],rfl,l4,rfl⟩
   | cons b bs ih=>
    rintro _ ⟨d,ds,rfl,h1,h2⟩
    exact ⟨d,_,rfl,h1,ih _ h2⟩
  exact this _ _ l3
 show ∃ s2,_
 refine ⟨zDl _ b' (bs++[bm]) (xs.map trMC++[trMC c]) cap',fun B g w hi=>hi.pack ?_ hbn hMps,[],[.inr b0,.ob b'],[],zBW (n:=xs.length+1) (fp:=b' :: (bs++[bm])) (b:=b') (cap:=cap') (m:=m) (by simp) ?_ ?_,⟨rfl,rfl⟩,by simp,rfl⟩
 · show Al.look (lay (lay (wipe s1.box b) b' _) b0 _) b' = _
   rw [zW,if_neg m2,zW,if_pos rfl]
 · show Al.look (wipe (lay (lay (wipe s1.box b) b' _) b0 _) b') b0=_
   rw [yj,if_neg m1,zW,if_pos rfl]
 · rw [zAr,if_pos rfl]; simp
theorem zGe {j:Nat}:∀ (bs:List Nat) (ys:List MC),j ∉ bs->zM (mps bs ys) j=none
 | [],_,_=>rfl
 | _::_,[],_=>rfl
 | b::bs,y::ys,h=>by
  simp only [List.mem_cons,not_or] at h
  simp only [mps,z7,if_neg (Ne.symm h.1)]
  exact zGe bs ys h.2
theorem zK0 {P:Program} {f:FuncId} {args:List V} {Q:Outc->S->Prop} {s0:S} {b0 b cap:Nat} {fp:List Nat} {cs:List V} {k:Nat} {xs:List MC} (e1:Al.look s0.box b0=some (cs,k)) (e2:zM s0.ob b=some (.sc xs cap,fp))
 (h:∀ bs s1,(b::bs).Nodup->bs.length=xs.length->bs.length<=cap->b0≠b->b0 ∉ bs->Al.look s1.box b0=some (cs,k)->Al.look s1.box b=some (mcs bs,cap)->Mps s1.ob bs xs->(∀ j,j≠b->j ∉ bs->zM s1.ob j=zM s0.ob j) ->
  FnC P f args s1 fun oc s=>∃ s2,(∀ B g w,Inv B g s w->Inv B g s2 w)/\Q oc s2):FnC P f args s0 Q:=by
 refine zLV (φ:=∃ bs,fp=b::bs/\(b::bs).Nodup/\bs.length=xs.length/\bs.length<=cap/\b0≠b/\b0 ∉ bs) (fun B g w hi=>?_) ?_
 · obtain ⟨bs,p1,p2,p3,p4,_⟩:=hi.unpack e2
   have p6:=hi.boxFr e1
   subst p1
   refine ⟨bs,rfl,p2,p3,p4,?_,?_⟩
   · intro e; exact p6.2 b _ _ e2 (by simp [e])
   · intro e; exact p6.2 b _ _ e2 (by simp [e])
 rintro ⟨bs,rfl,hnd,hbl,hcap,hm2,hm3⟩
 refine zLW (s':=jd s0 b bs xs cap) (fun B g w hi=>by
  obtain ⟨bs',p1,_,_,_,p5⟩:=hi.unpack e2
  injection p1 with _ p1
  subst p1; exact p5) ?_
 refine zFp (h bs _ hnd hbl hcap hm2 hm3 ?_ ?_ ?_ ?_)
 · show Al.look (lay s0.box b _) b0=_
   rw [zW,if_neg (Ne.symm hm2)]; exact e1
 · show Al.look (lay s0.box b _) b=_
   rw [zW,if_pos rfl]
 · exact zDC _ (List.nodup_cons.1 hnd).2 hbl
 · intro j h1 h2
   rw [zCD,if_neg h1,zGe bs _ h2]; rfl
theorem qI (P:Program) (op:BinOp) (t:TypeId) (c:Bool) (k k':IntKind) (a b:Int) (K:V->Prop):zBO P op t c (.at (.int k a)) (.at (.int k' b)) K=aBin P op t (.at (.int k a)) (.at (.int k' b)) K:=rfl
theorem zHj (P:Program) (op:BinOp) (t:TypeId) (c:Bool) (a b:ByteArray) (K:V->Prop):zBO P op t c (.at (.string a)) (.at (.string b)) K=aBin P op t (.at (.string a)) (.at (.string b)) K:=rfl
abbrev polN:Pol:=⟨fun _=>false,fun _=>false,fun _=>false,fun _=>false,[],fun _=>[]⟩
theorem Inv.trunc {B:Nat} {g:Gh} {s:S} {w:World} (hi:Al.Inv B g s w) (b m:Nat) {cs:List V} {k:Nat} (h0:Al.look s.box b=some (cs,k)):Al.Inv B g ⟨lay s.box b (cs.take m,k),s.tg,s.nx,s.ob⟩ w:=by
 obtain ⟨p1,p2,p3,p4,arr,el,us,p5,p6,p7,p8⟩:=hi.box b cs k h0
 have hone:zK cs:=by unfold zK; rw [List.all_eq_true]; exact p4
 have hul:=yH g w cs us p7
 rw [yb hone] at hul
 have:=hi.addBox (b:=b) (arr:=arr) (el:=el) (cs:=cs.take m) (us:=us.take m) p1 p2 p5 (by simp; omega)
  (fun c hc=>p4 c (List.mem_of_mem_take hc)) (yW hone p7 m).1 (by
   rw [<- p8,List.take_take,List.length_take]) (fun t ht d hd=>by
    obtain ⟨cap',n',sz'⟩:=d
    obtain ⟨r1,r2,r3,r4,r5,r6⟩:=hi.own t ht b cap' n' sz' hd
    rw [h0] at r5; cases r5) (hi.boxFr h0).1 (hi.boxFr h0).2
 rw [p6] at this
 exact this
theorem Mps.take {ob:List (Nat×OV×List Nat)}:∀ {bs:List Nat} {xs:List MC} (n:Nat),Mps ob bs xs->Mps ob (bs.take n) (xs.take n)
 | [],_,n,h=>by rw [show _=[] from h]; simp [Mps]
 | b::bs,_,0,_=>by simp [Mps]
 | b::bs,_,n+1,⟨c,cs,rfl,h2,h3⟩=>⟨c,_,by simp,h2,Mps.take n h3⟩
theorem Mps.at {ob:List (Nat×OV×List Nat)}:∀ {bs:List Nat} {xs:List MC} {n j:Nat} {c:MC},Mps ob bs xs->bs[n]? = some j->xs[n]? = some c->zM ob j=some (.mp c,[j])
 | [],_,n,j,c,_,h,_=>by simp at h
 | b::bs,_,0,j,c,⟨d,ds,rfl,h2,h3⟩,h,h'=>by
  simp at h h'; subst h; subst h'; exact h2
 | b::bs,_,n+1,j,c,⟨d,ds,rfl,h2,h3⟩,h,h'=>Mps.at h3 (by simpa using h) (by simpa using h')
theorem zLM {xs:List MT} {n:Nat} {c:MT} (hn:n+1=xs.length) (h:xs.getLast? = some c):xs[n]? = some c:=by
 rw [List.getLast?_eq_getElem?] at h
 rw [<- h]; congr 1; omega
def c61 (_:Unit):MM (Option MT×Unit):=fun _ s=>if s.2.length < 1000000 then match s.2.getLast? with
 | some m=>some (some ((some m,()),s.1,s.2.dropLast))
 | none=>none else none
set_option maxRecDepth 100000 in
theorem ok61:CPOk CC Tryz.prog syn 61 (cM [] [.mpo] c61):=by
 refine zD3 fun l i xs a o ho st vx va r1 r2 h1 h2 hn=>?_
 simp only [c61] at ho
 split at ho
 rotate_left
 · cases ho
 rename_i hlen
 cases hl:xs.getLast? with
 | none=>rw [hl] at ho; cases ho
 | some c=>
 rw [hl] at ho
 injection ho with ho
 subst ho
 obtain ⟨b0,b,cap,fp,m,rfl,k1,k2,rfl⟩:=zBa h1
 simp only [VKs] at h2
 obtain ⟨rfl,rfl⟩:=h2
 have e1:=(yp st ([.inr b0,.ob b]++[]) b0).1 (by simp)
 have e2:=(xM st ([.inr b0,.ob b]++[]) b).1 (by simp)
 rw [k1] at e1; rw [k2] at e2
 generalize subS st ([.inr b0,.ob b]++[])=s0 at e1 e2 ⊢
 refine zK0 e1 e2 fun bs s1 hnd hbl hcap hm2 hm3 l1 l2 l3 l4=>?_
 rw [List.length_map] at hbl
 have hxl:0 < xs.length:=by cases xs <;> simp at hl ⊢
 refine jN Tryz.func61 rfl Tryz.ntmps61 Tryz.results61 (by show 1<=31; decide) fun B=>?_
 have hb1:¬ b=b0:=Ne.symm hm2
 simp only [List.cons_append,List.nil_append,List.append_nil,jO,Nat.reduceAdd]
 obtain ⟨n,hn1⟩:∃ n,n+1=xs.length:=⟨xs.length - 1,by omega⟩
 have hsub:IntKind.i64.wrap ((xs.length:Int) - 1)=(n:Int):=by rw [IntWalk.i64_in _ (by omega)]; omega
 have z1:0+((n:Int).toNat) * 1=n:=by omega
 obtain ⟨bl,hbl2⟩:∃ bl,bs[n]? = some bl:=⟨bs[n]'(by omega),by simp⟩
 have hp1:yh Tryz.prog 63 (mcs bs) n:=⟨zCP,by rw [zAe]; simp only [mcs,List.length_map]; omega,fun _=>zAe⟩
 have hp2:(mcs bs).getD n .any = .at (.map (some bl)):=by
  rw [List.getD_eq_getElem?_getD]
  simp [mcs,hbl2]
 (repeat (first | (refine yd ?_) | (refine zv ?_; simp -failIfUnchanged only [zI,zN]) | (refine ye ?_; simp -failIfUnchanged only [yE,zx,yP,yC]) | (refine yK ?_; simp -failIfUnchanged only [zw,zq,zI,zN,reduceIte]) | (refine zy ?_) | ((first | (refine yc polN ks61 _ rfl rfl ?_) | (refine yL polN mixed ks61 _ rfl rfl (by kernel_rfl) (by kernel_rfl) ?_)); simp only [↓xO,↓qg,↓ki,↓zAJ,↓xT,↓kg,↓qh,↓qa,↓zB3,zI,zt,yF,yS,xG,xV,kn,yG,yD,qm,zDp,zAw,xu,xZ,xL,xC,xS,qj,kR,implies_true,and_self,yh,yV,List.length_cons,List.length_nil,List.drop_zero,List.drop_succ_cons,List.take_succ_cons,List.take_zero,List.getD_cons_zero,List.getD_cons_succ,Bool.and_true,Bool.true_and,Bool.and_self,Option.isSome_some,if_true,if_false,and_true,true_and,Nat.reduceAdd,Nat.reduceEqDiff,Nat.reduceLeDiff,reduceCtorEq,Bool.false_eq_true,Nat.zero_add,Nat.lt_add_one,zCP,zJR,zAe,zC8,zDz,zBp,zGC,zC2,ks61,l1,l2,qI,hsub,z1,hp2])))
 refine ⟨⟨by omega,by omega⟩,by simp only [mcs,List.length_map]; omega,?_⟩
 (repeat (first | (refine yd ?_) | (refine zv ?_; simp -failIfUnchanged only [zI,zN]) | (refine ye ?_; simp -failIfUnchanged only [yE,zx,yP,yC]) | (refine yK ?_; simp -failIfUnchanged only [zw,zq,zI,zN,reduceIte]) | (refine zy ?_) | ((first | (refine yc polN ks61 _ rfl rfl ?_) | (refine yL polN mixed ks61 _ rfl rfl (by kernel_rfl) (by kernel_rfl) ?_)); simp only [↓xO,↓qg,↓zAJ,↓xT,↓qh,↓zBA,↓qa,↓zPM,↓zB3,zI,zt,jh,yF,yS,xG,xV,kn,yG,yD,qm,zDp,zAw,xu,xZ,xL,kt,qe,xC,xS,spl,Option.map_some,implies_true,List.cons_append,List.nil_append,and_self,yh,yV,zK,V.isOne,V.flat,List.all_cons,List.all_nil,List.length_cons,List.length_nil,List.drop_zero,List.drop_succ_cons,List.take_succ_cons,List.take_zero,List.getD_cons_zero,List.getD_cons_succ,Bool.true_and,Bool.and_self,Option.isSome_some,if_true,if_false,true_and,Nat.reduceAdd,Nat.reduceEqDiff,Nat.reduceLeDiff,reduceCtorEq,Bool.false_eq_true,Nat.zero_add,Nat.lt_add_one,zH4,zJ5,Option.map_none,zCP,zC8,zDz,zBp,zGC,zC2,ks61,l1,qI,hsub,Int.toNat_natCast])))
 refine ⟨⟨by omega,by omega⟩,?_⟩
 (repeat (first | (refine yd ?_) | (refine zv ?_; simp -failIfUnchanged only [zI,zN]) | (refine ye ?_; simp -failIfUnchanged only [yE,zx,yP,yC]) | (refine yK ?_; simp -failIfUnchanged only [zw,zq,zI,zN,reduceIte]) | (refine zy ?_) | ((first | (refine yc polN ks61 _ rfl rfl ?_) | (refine yL polN mixed ks61 _ rfl rfl (by kernel_rfl) (by kernel_rfl) ?_)); simp only [↓xO,↓qg,↓ki,zI,zt,yF,yS,xG,yG,yD,if_true,if_false,Nat.reduceEqDiff,ks61])))
 refine ⟨rfl,?_⟩
 have hbl1:bl ∉ bs.take n:=fun hm=>by
  have h1:=(List.nodup_cons.1 hnd).2
  obtain ⟨j,hj,e⟩:=List.getElem_of_mem hm
  have hjn:j < n:=by rw [List.length_take] at hj; omega
  rw [List.getElem_take] at e
  have h2:bs[j]? = some bl:=by rw [<- e]; simp
  have h3:=(List.getElem?_inj (i:=j) (j:=n) (by omega) h1).1 (h2.trans hbl2.symm)
  omega
 have hc:=Mps.at l3 hbl2 (c:=trMC c) (by rw [List.getElem?_map,zLM hn1 hl]; rfl)
 have hcb:b≠bl:=fun e=>(List.nodup_cons.1 hnd).1 (by rw [e]; exact List.mem_of_getElem? hbl2)
 have htk:(mcs bs).take n=mcs (bs.take n):=by simp [mcs]
 have hT:∀ (cs:List V×Nat) {B:Nat} {g:Gh} {w:World},Al.Inv B g ⟨lay s1.box b0 cs,s1.tg,s1.nx,s1.ob⟩ w->Al.Inv B g ⟨lay (lay s1.box b0 cs) b (mcs (bs.take n),cap),s1.tg,s1.nx,s1.ob⟩ w:=fun cs B g w hi=>by
  have:=Inv.trunc hi b n (cs:=mcs bs) (k:=cap) (by show Al.look (lay s1.box b0 _) b=_; rw [zW,if_neg hm2]; exact l2)
  rw [htk] at this; exact this
 refine ⟨zDl ⟨lay (lay s1.box b0 _) b (mcs (bs.take n),cap),s1.tg,s1.nx,s1.ob⟩ b (bs.take n) ((xs.map trMC).take n) cap,fun B g w hi=>Inv.pack (hT _ hi) ?_ ((List.nodup_cons.1 hnd).2.sublist (List.take_sublist n bs)) (Mps.take n l3),[_],[.inr b0,.ob b],[.ob bl],zBW (n:=n) (fp:=b::bs.take n) (b:=b) (cap:=cap) (m:=m) (by simp; omega) ?_ ?_,⟨_,[],[.ob bl],[],rfl,rfl,⟨bl,[bl],rfl,?_,rfl⟩,rfl,rfl⟩,by simp [hcb],rfl⟩
 · show Al.look (lay (lay s1.box b0 _) b _) b=_
   rw [zW,if_pos rfl]
 · show Al.look (wipe (lay (lay s1.box b0 _) b _) b) b0=_
   rw [yj,if_neg hb1,zW,if_neg hb1,zW,if_pos rfl]
 · rw [zAr,if_pos rfl]
   congr 2
   congr 1
   rw [List.dropLast_eq_take,List.map_take]; congr 1; omega
 · rw [zAr,if_neg hcb,if_neg hbl1]; exact hc
def qF:MT->Str->Option Int
 | [],_=>none
 | (k,v)::r,s=>if s=k then some v else qF r s
def xy:MT->Str->Int->MT
 | [],s,v=>[(s,v)]
 | (k,u)::r,s,v=>if s=k then (s,v)::r else (k,u)::xy r s v
theorem zN2 (s k:Str):((⟨s.toArray⟩:ByteArray) == ⟨k.toArray⟩)=decide (s=k):=by
 by_cases h:s=k
 · subst h; rw [zLJ]; simp
 · cases e:((⟨s.toArray⟩:ByteArray) == ⟨k.toArray⟩) with
   | false=>simp [h]
   | true=>
    have h1:=congrArg (fun x:ByteArray=>x.data.toList) (ba_eq e)
    exact absurd h1 h
theorem zLb:∀ (m:MT) (s:Str),mget (trMC m) ⟨s.toArray⟩=(qF m s).map fun z=>.at (.int .i64 z)
 | [],_=>rfl
 | (k,v)::r,s=>by
  show (if ((⟨s.toArray⟩:ByteArray) == ⟨k.toArray⟩)=true then some _ else mget (trMC r) ⟨s.toArray⟩)=_
  rw [zN2,zLb r s]
  by_cases h:s=k <;> simp [qF,h]
theorem zK1:∀ (m:MT) (s:Str) (z:Int),mput (trMC m) ⟨s.toArray⟩ (.at (.int .i64 z))=trMC (xy m s z)
 | [],_,_=>rfl
 | (k,v)::r,s,z=>by
  show (if ((⟨s.toArray⟩:ByteArray) == ⟨k.toArray⟩)=true then _ else _::mput (trMC r) ⟨s.toArray⟩ (.at (.int .i64 z)))=_
  rw [zN2,zK1 r s z]
  by_cases h:s=k <;> simp [xy,h,trMC]
theorem zEZ {P:Program} {L:Pol} {ds:List (Option Nat)} {KP:List PanicEntry->S->Prop} {K:Env->S->Prop} {e:Env} {st:S} {d:Option Nat} {ty:TypeId} {pos:String} {af:Array Edge} {os:List Oper} (t:TypeId) (m k y:Operand) :
 AL P L ds KP (⟨d,.mapUpdate t m k y,ty,pos,af,none⟩::os) K e st=jy P st t (e.ev m) (e.ev k) (e.ev y) fun st'=>AL P L ds KP os K (e.putO d .any) st':=rfl
theorem zHP (a b:ByteArray) (K:V->Prop):aStr .eql a b K=K (.at (.bool (a.toList == b.toList))):=rfl
theorem zFD {P:Program} {L:Pol} {ds:List (Option Nat)} {KP:List PanicEntry->S->Prop} {K:Env->S->Prop} {e:Env} {st:S} {d:Option Nat} {ty:TypeId} {pos:String} {af:Array Edge} {os:List Oper} (t:TypeId) (x:Operand) :
 AL P L ds KP (⟨d,.makeInterface t x,ty,pos,af,none⟩::os) K e st=zDE P t (e.ev x) fun v=>AL P L ds KP os K (e.putO d v) st:=rfl
theorem zN3 {P:Program} {L:Pol} {ds:List (Option Nat)} {KP:List PanicEntry->S->Prop} {K:Env->S->Prop} {e:Env} {st:S} {d:Option Nat} {ty:TypeId} {pos:String} {af:Array Edge} {os:List Oper} (x:Operand) :
 AL P L ds KP (⟨d,.panic x,ty,pos,af,none⟩::os) K e st=zGj (e.ev x) fun c=>KP c st:=rfl
def c58 (a:Str×Bool×Unit):MM Unit:=fun _ s=>if a.1=[] then some (some ((),s)) else if s.2.length < 1000000 then match s.2.getLast? with
 | some m=>some (some ((),s.1,s.2.dropLast++[xy m a.1 (if a.2.1=true then 2 else 1)]))
 | none=>none else none
set_option maxRecDepth 100000 in
theorem ok58:CPOk CC Tryz.prog syn 58 (cM [.str,.bool] [] c58):=by
 refine zD3 fun l i xs a o ho st vx va r1 r2 h1 h2 hn=>?_
 obtain ⟨nm,td,ua⟩:=a
 change Str at nm
 change Bool at td
 obtain ⟨b0,b,cap,fp,m,rfl,k1,k2,rfl⟩:=zBa h1
 simp only [VKs,VK] at h2
 obtain ⟨v1,w1,q1,q2,rfl,rfl,⟨rfl,rfl⟩,v2,w2,q3,q4,rfl,rfl,⟨rfl,rfl⟩,rfl,rfl⟩:=h2
 have hcell:trT CC ⟨id,id,id,id⟩ (.str nm:T UU) = .at (.string ⟨nm.toArray⟩):=rfl
 rw [hcell]
 simp only [List.append_nil] at hn ⊢
 have e1:=(yp st [.inr b0,.ob b] b0).1 (by simp)
 have e2:=(xM st [.inr b0,.ob b] b).1 (by simp)
 rw [k1] at e1; rw [k2] at e2
 generalize subS st [.inr b0,.ob b]=s0 at e1 e2 ⊢
 simp only [c58] at ho
 by_cases hnm:nm=[]
 · rw [if_pos hnm] at ho
   injection ho with ho
   subst ho
   refine jN Tryz.func58 rfl Tryz.ntmps58 Tryz.results58 (by show 3<=24; decide) fun B=>?_
   simp only [List.cons_append,List.nil_append,List.append_nil,jO,Nat.reduceAdd]
   have hse:((⟨nm.toArray⟩:ByteArray).toList == (⟨#[]⟩:ByteArray).toList)=true:=by rw [hnm]; exact beq_self_eq_true _
   (repeat (first | (refine yd ?_) | (refine zv ?_; simp -failIfUnchanged only [zI,zN]) | (refine ye ?_; simp -failIfUnchanged only [yE,zx,yP,yC]) | (refine yK ?_; simp -failIfUnchanged only [zw,zq,zI,zN,reduceIte]) | (refine zy ?_) | ((first | (refine yc polN ks58 _ rfl rfl ?_) | (refine yL polN mixed ks58 _ rfl rfl (by kernel_rfl) (by kernel_rfl) ?_)); simp only [↓xO,↓qg,↓zAJ,zI,zt,yF,yS,xG,xV,zCY,yG,yD,zIq,if_true,if_false,Nat.reduceEqDiff,reduceCtorEq,ks58,zHj,zHP,hse])))
   refine jw rfl (fun _=>?_) (fun h=>by cases h)
   (repeat (first | (refine yd ?_) | (refine zv ?_; simp -failIfUnchanged only [zI,zN]) | (refine ye ?_; simp -failIfUnchanged only [yE,zx,yP,yC]) | (refine yK ?_; simp -failIfUnchanged only [zw,zq,zI,zN,reduceIte]) | (refine zy ?_) | ((first | (refine yc polN ks58 _ rfl rfl ?_) | (refine yL polN mixed ks58 _ rfl rfl (by kernel_rfl) (by kernel_rfl) ?_)); simp only [])))
   unfold yl
   exact ⟨[],[.inr b0,.ob b],[],zBW rfl e1 e2,⟨rfl,rfl⟩,by simp,rfl⟩
 · rw [if_neg hnm] at ho
   split at ho
   rotate_left
   · cases ho
   rename_i hlen
   cases hl:xs.getLast? with
   | none=>rw [hl] at ho; cases ho
   | some c=>
   rw [hl] at ho
   injection ho with ho
   subst ho
   have hse:((⟨nm.toArray⟩:ByteArray).toList == (⟨#[]⟩:ByteArray).toList)=false:=by
    have h1:(⟨nm.toArray⟩:ByteArray).toList=nm:=zAl nm
    have h2:(⟨#[]⟩:ByteArray).toList=[]:=zAl []
    rw [h1,h2]
    cases nm <;> first | exact absurd rfl hnm | rfl
   refine zK0 e1 e2 fun bs s1 hnd hbl hcap hm2 hm3 l1 l2 l3 l4=>?_
   rw [List.length_map] at hbl
   have hxl:0 < xs.length:=by cases xs <;> simp at hl ⊢
   refine jN Tryz.func58 rfl Tryz.ntmps58 Tryz.results58 (by show 3<=24; decide) fun B=>?_
   have hb1:¬ b=b0:=Ne.symm hm2
   simp only [List.cons_append,List.nil_append,List.append_nil,jO,Nat.reduceAdd]
   obtain ⟨n,hn1⟩:∃ n,n+1=xs.length:=⟨xs.length - 1,by omega⟩
   have hsub:IntKind.i64.wrap ((xs.length:Int) - 1)=(n:Int):=by rw [IntWalk.i64_in _ (by omega)]; omega
   have z1:0+((n:Int).toNat) * 1=n:=by omega
   obtain ⟨bl,hbl2⟩:∃ bl,bs[n]? = some bl:=⟨bs[n]'(by omega),by simp⟩
   have hp1:yh Tryz.prog 63 (mcs bs) n:=⟨zCP,by rw [zAe]; simp only [mcs,List.length_map]; omega,fun _=>zAe⟩
   have hp2:(mcs bs).getD n .any = .at (.map (some bl)):=by
    rw [List.getD_eq_getElem?_getD]
    simp [mcs,hbl2]
   have hc:=Mps.at l3 hbl2 (c:=trMC c) (by rw [List.getElem?_map,zLM hn1 hl]; rfl)
   have hmap:∀ (z:Int) (s2:S),s2.box=s1.box->s2.tg=s1.tg->s2.nx=s1.nx->s2.ob=(bl,.mp (mput (trMC c) ⟨nm.toArray⟩ (.at (.int .i64 z))),[bl])::s1.ob->z=(if td=true then 2 else 1) ->
    ∃ s3,(∀ (B:Nat) (g:Gh) (w:World),Al.Inv B g s2 w->Al.Inv B g s3 w)/\ju CC syn [parK] [] [V.at (Value.pointer (some { block:=b0,off:=0 }))] (Option.map (fun y=>(((l,y.snd.fst,y.snd.snd,(),()),()),y.fst)) (some ((),i,xs.dropLast++[xy c nm (if td=true then 2 else 1)]))) (Outc.ret (finV [])) s3:=by
    intro z s2 q1 q2 q3 q4 q5
    have hM:Mps s2.ob bs ((xs.dropLast++[xy c nm z]).map trMC):=by
     have key:∀ (bs:List Nat) (ys:List MC) (n:Nat),bs.Nodup->Mps s1.ob bs ys->bs[n]? = some bl->n+1=ys.length->Mps s2.ob bs (ys.dropLast++[trMC (xy c nm z)]):=by
      intro bs
      induction bs with
      | nil=>intro ys n _ _ h; simp at h
      | cons j bs ih=>
       rintro _ n hnd ⟨d,ds,rfl,h1,h2⟩ h3 h4
       obtain ⟨h5,h6⟩:=List.nodup_cons.1 hnd
       cases n with
       | zero=>
        have h7:ds=[]:=by cases ds <;> simp at h4 ⊢
        subst h7
        simp at h3; subst h3
        refine ⟨_,[],rfl,?_,?_⟩
        · rw [q4,z7,if_pos rfl,zK1]
        · have:=h2.length
          have h8:bs=[]:=by cases bs <;> simp at this ⊢
          subst h8; rfl
       | succ n=>
        have h7:ds≠[]:=by rintro rfl; simp at h4
        have h3':bs[n]? = some bl:=by simpa using h3
        have hne:¬ bl=j:=fun e=>h5 (by rw [<- e]; exact List.mem_of_getElem? h3')
        refine ⟨d,ds.dropLast++[trMC (xy c nm z)],by rw [List.dropLast_cons_of_ne_nil h7]; rfl,?_,ih ds n h6 h2 h3' (by simpa using h4)⟩
        rw [q4,z7,if_neg hne]; exact h1
     have:=key bs (xs.map trMC) n (List.nodup_cons.1 hnd).2 l3 hbl2 (by simpa using hn1)
     rw [List.map_append,List.map_dropLast]
     exact this
    subst q5
    refine ⟨zDl s2 b bs ((xs.dropLast++[xy c nm (if td=true then 2 else 1)]).map trMC) cap,fun B g w hi=>Inv.pack hi (by rw [q1]; exact l2) (List.nodup_cons.1 hnd).2 hM,[],[.inr b0,.ob b],[],zBW (n:=xs.length) (fp:=b::bs) (b:=b) (cap:=cap) (m:=m) (by simp; omega) ?_ ?_,⟨rfl,rfl⟩,by simp,rfl⟩
    · show Al.look (wipe s2.box b) b0=_
      rw [yj,if_neg hb1,q1]; exact l1
    · rw [zAr,if_pos rfl]
   (repeat (first | (refine yd ?_) | (refine zv ?_; simp -failIfUnchanged only [zI,zN]) | (refine ye ?_; simp -failIfUnchanged only [yE,zx,yP,yC]) | (refine yK ?_; simp -failIfUnchanged only [zw,zq,zI,zN,reduceIte]) | (refine zy ?_) | ((first | (refine yc polN ks58 _ rfl rfl ?_) | (refine yL polN mixed ks58 _ rfl rfl (by kernel_rfl) (by kernel_rfl) ?_)); simp only [↓xO,↓qg,↓zAJ,zI,zt,yF,yS,xG,xV,zCY,yG,yD,zIq,if_true,if_false,Nat.reduceEqDiff,reduceCtorEq,ks58,zHj,zHP,hse])))
   refine jw rfl (fun h=>by cases h) (fun _=>?_)
   (repeat (first | (refine yd ?_) | (refine zv ?_; simp -failIfUnchanged only [zI,zN]) | (refine ye ?_; simp -failIfUnchanged only [yE,zx,yP,yC]) | (refine yK ?_; simp -failIfUnchanged only [zw,zq,zI,zN,reduceIte]) | (refine zy ?_) | ((first | (refine yc polN ks58 _ rfl rfl ?_) | (refine yL polN mixed ks58 _ rfl rfl (by kernel_rfl) (by kernel_rfl) ?_)); simp only [↓xO,↓qg,↓ki,zI,zt,yF,yS,xG,xV,kn,yG,yD,if_true,if_false,Nat.reduceEqDiff,reduceCtorEq,ks58])))
   refine jw rfl (fun ht=>?_) (fun ht=>?_)
   · subst ht
     (repeat (first | (refine yd ?_) | (refine zv ?_; simp -failIfUnchanged only [zI,zN]) | (refine ye ?_; simp -failIfUnchanged only [yE,zx,yP,yC]) | (refine yK ?_; simp -failIfUnchanged only [zw,zq,zI,zN,reduceIte]) | (refine zy ?_) | ((first | (refine yc polN ks58 _ rfl rfl ?_) | (refine yL polN mixed ks58 _ rfl rfl (by kernel_rfl) (by kernel_rfl) ?_)); simp only [↓xO,↓qg,↓ki,↓zAJ,↓xT,↓kg,↓qh,↓qa,↓zB3,zI,zt,yF,yS,xG,xV,kn,yG,yD,qm,zDp,zAw,xu,xZ,xL,xC,xS,qj,kR,implies_true,List.map_cons,List.map_nil,and_self,yh,yV,List.length_cons,List.length_nil,List.drop_zero,List.drop_succ_cons,List.take_succ_cons,List.take_zero,List.getD_cons_zero,List.getD_cons_succ,Bool.and_true,Bool.true_and,Bool.and_self,Option.isSome_some,if_true,if_false,and_true,true_and,Nat.reduceAdd,Nat.reduceEqDiff,Nat.reduceLeDiff,reduceCtorEq,Bool.false_eq_true,Nat.zero_add,Nat.lt_add_one,zCP,zJR,zAe,zC8,zDz,zBp,zGC,zC2,ks58,l1,l2,qI,hsub,hp2,Int.toNat_natCast,zEZ,Nat.mul_one])))
     refine ⟨⟨by omega,by omega⟩,by simp only [mcs,List.length_map]; omega,?_⟩
     unfold jy
     rw [show mapT Tryz.prog 63=some 3 from by kernel_rfl]
     simp only
     rw [hc]
     exact ⟨rfl,hmap 2 _ rfl rfl rfl rfl rfl⟩
   · subst ht
     (repeat (first | (refine yd ?_) | (refine zv ?_; simp -failIfUnchanged only [zI,zN]) | (refine ye ?_; simp -failIfUnchanged only [yE,zx,yP,yC]) | (refine yK ?_; simp -failIfUnchanged only [zw,zq,zI,zN,reduceIte]) | (refine zy ?_) | ((first | (refine yc polN ks58 _ rfl rfl ?_) | (refine yL polN mixed ks58 _ rfl rfl (by kernel_rfl) (by kernel_rfl) ?_)); simp only [↓xO,↓qg,↓zAJ,↓xT,↓kg,↓qh,↓qa,↓zB3,zt,yF,yS,xG,xV,kn,yD,qm,zDp,zAw,xu,xZ,xL,xC,xS,qj,kR,implies_true,List.map_cons,List.map_nil,and_self,yh,yV,List.length_cons,List.length_nil,List.drop_zero,List.drop_succ_cons,List.take_succ_cons,List.take_zero,List.getD_cons_zero,List.getD_cons_succ,Bool.and_true,Bool.true_and,Bool.and_self,Option.isSome_some,if_true,if_false,and_true,true_and,Nat.reduceAdd,Nat.reduceEqDiff,Nat.reduceLeDiff,reduceCtorEq,Bool.false_eq_true,Nat.zero_add,Nat.lt_add_one,zCP,zJR,zAe,zC8,zDz,zBp,zGC,zC2,ks58,l1,l2,qI,hsub,hp2,Int.toNat_natCast,zEZ,Nat.mul_one])))
     refine ⟨⟨by omega,by omega⟩,by simp only [mcs,List.length_map]; omega,?_⟩
     unfold jy
     rw [show mapT Tryz.prog 63=some 3 from by kernel_rfl]
     simp only
     rw [hc]
     exact ⟨rfl,hmap 1 _ rfl rfl rfl rfl rfl⟩
theorem ok77:CPOk CC Tryz.prog syn 77 zAO:=by
 intro x a R pan K r hr
 obtain ⟨b,ua⟩:=a
 change Bool at b
 replace hr:cond b (K () ()) pan=some r:=hr
 have run:∀ (s:S),FnC Tryz.prog 77 [.at (.bool b)] s (ju CC syn ([]:LK) ([]:LK) [] (if b=true then some ((),()) else none)):=by
  intro s
  refine jN Tryz.func77 rfl Tryz.ntmps77 Tryz.results77 (by show 1<=6; decide) fun B=>?_
  simp only [List.cons_append,List.nil_append,List.append_nil,jO,Nat.reduceAdd]
  (repeat (first | (refine yd ?_) | (refine zv ?_; simp -failIfUnchanged only [zI,zN]) | (refine ye ?_; simp -failIfUnchanged only [yE,zx,yP,yC]) | (refine yK ?_; simp -failIfUnchanged only [zw,zq,zI,zN,reduceIte]) | (refine zy ?_) | ((first | (refine yc polN ks77 _ rfl rfl ?_) | (refine yL polN mixed ks77 _ rfl rfl (by kernel_rfl) (by kernel_rfl) ?_)); simp only [↓xO,↓qg,↓AL_un,zI,zt,yF,yS,xG,yG,yD,zQ5,if_true,if_false,Nat.reduceEqDiff,reduceCtorEq,ks77])))
  refine jw rfl (fun h=>?_) (fun h=>?_)
  · have hb:b=false:=by cases b <;> simp at h ⊢
    subst hb
    (repeat (first | (refine yd ?_) | (refine zv ?_; simp -failIfUnchanged only [zI,zN]) | (refine ye ?_; simp -failIfUnchanged only [yE,zx,yP,yC]) | (refine yK ?_; simp -failIfUnchanged only [zw,zq,zI,zN,reduceIte]) | (refine zy ?_) | ((first | (refine yc polN ks77 _ rfl rfl ?_) | (refine yL polN mixed ks77 _ rfl rfl (by kernel_rfl) (by kernel_rfl) ?_)); simp only [↓zO9,zt,yF,yS,xG,yD,zMz,zKM,zI6,zNu,List.map_cons,List.map_nil,Bool.true_and,if_true,if_false,true_and,Nat.reduceEqDiff,Bool.false_eq_true,zNg,zero61,ks77,zFD,zN3])))
    refine ⟨by kernel_rfl,?_⟩
    rfl
  · have hb:b=true:=by cases b <;> simp at h ⊢
    subst hb
    refine zv ?_
    exact ⟨[],[],[],⟨rfl,rfl⟩,⟨rfl,rfl⟩,by simp,rfl⟩
 cases b with
 | true=>
  refine ⟨some ((),()),hr,fun s vx va r1 r2 h1 h2 hn=>?_⟩
  simp only [VKs,VK] at h1 h2
  obtain ⟨rfl,rfl⟩:=h1
  obtain ⟨v,w,q1,q2,rfl,rfl,⟨rfl,rfl⟩,rfl,rfl⟩:=h2
  exact run _
 | false=>
  refine ⟨none,hr,fun s vx va r1 r2 h1 h2 hn=>?_⟩
  simp only [VKs,VK] at h1 h2
  obtain ⟨rfl,rfl⟩:=h1
  obtain ⟨v,w,q1,q2,rfl,rfl,⟨rfl,rfl⟩,rfl,rfl⟩:=h2
  exact run _
theorem ok41:ConOk CC Tryz.prog 41 ⟨as41,rs41,fun x=>some (Nd.mk x.1 0 x.2.1,())⟩:=con41 0
abbrev zE0:Pol:=⟨fun f=>f == 41,fun _=>false,fun _=>false,fun _=>false,[],fun _=>[]⟩
set_option maxRecDepth 100000 in
theorem ok38:CROk CC Tryz.prog 38 jg:=by
 intro x R K r hr
 obtain ⟨⟨pts,u⟩,k,u'⟩:=x
 change List Nd at pts
 change Int at k
 refine ⟨(Nd.mk k 0 pts,()),hr,fun s va q hv hn=>?_⟩
 simp only [VKs,VK] at hv
 obtain ⟨v,w,q1,q2,rfl,rfl,⟨b0,cs,q3,rfl,e1,⟨v2,w2,q4,q5,rfl,rfl,⟨n,rfl,hn1,hn2,rfl⟩,rfl,rfl⟩,rfl⟩,v3,w3,q6,q7,rfl,rfl,⟨rfl,rfl⟩,rfl,rfl⟩:=hv
 refine ⟨[z6 (Nd.mk k 0 pts)],fun s'=>⟨_,[],[],[],rfl,rfl,⟨rfl,rfl⟩,rfl,rfl⟩,?_⟩
 have e2:=(yp s [.inr b0,.inl n] b0).1 (by simp)
 rw [e1] at e2
 show FnC Tryz.prog 38 _ (subS s [.inr b0,.inl n]) fun oc s'=>oc = .ret (finV [z6 (Nd.mk k 0 pts)])/\s' = subS s [.inr b0,.inl n]
 generalize subS s [.inr b0,.inl n]=s0 at e2 ⊢
 have hp:xz Tryz.prog 41 [.at (.int .i64 k),.lst (zk (pts.map (CC.encV TI.node))) (pts.map (CC.encV TI.node))] (z6 (Nd.mk k 0 pts)):=by
  have h:=ok41 (k,pts,()) (Nd.mk k 0 pts,()) rfl [.at (.int .i64 k),.lst (zk (pts.map (CC.encV TI.node))) (pts.map (CC.encV TI.node))] ⟨_,_,rfl,rfl,⟨_,_,rfl,rfl,rfl⟩⟩
  have e:finV ((xI CC rs41 (fun _=>false) 0 (Nd.mk k 0 pts,())).map (trT CC ⟨id,id,id,id⟩))=z6 (Nd.mk k 0 pts):=CCok.enc _ TI.node (Nd.mk k 0 pts)
  exact e ▸ h
 refine zFp ?_
 refine jN Tryz.func38 rfl Tryz.ntmps38 Tryz.results38 (by show 2<=11; decide) fun B=>?_
 simp only [List.cons_append,List.nil_append,List.append_nil,jO,Nat.reduceAdd]
 (repeat (first | (refine yd ?_) | (refine zv ?_; simp -failIfUnchanged only [zI,zN]) | (refine ye ?_; simp -failIfUnchanged only [yE,zx,yP,yC]) | (refine yK ?_; simp -failIfUnchanged only [zw,zq,zI,zN,reduceIte]) | (refine zy ?_) | ((first | (refine yc zE0 ks38 _ rfl rfl ?_) | (refine yL zE0 mixed ks38 _ rfl rfl (by kernel_rfl) (by kernel_rfl) ?_)); simp only [↓xO,↓zPF,zI,zt,yF,yS,yG,yD,zNi,zKN,if_true,if_false,Nat.reduceEqDiff,reduceCtorEq,zJW,ks38])))
 refine ⟨rfl,fun b hb=>?_⟩
 have hbb:¬ b=b0:=fun e=>by rw [e,e2] at hb; cases hb
 have hbb':¬ b0=b:=fun e=>hbb e.symm
 (repeat (first | (refine yd ?_) | (refine zv ?_; simp -failIfUnchanged only [zI,zN]) | (refine ye ?_; simp -failIfUnchanged only [yE,zx,yP,yC]) | (refine yK ?_; simp -failIfUnchanged only [zw,zq,zI,zN,reduceIte]) | (refine zy ?_) | ((first | (refine yc zE0 ks38 _ rfl rfl ?_) | (refine yL zE0 mixed ks38 _ rfl rfl (by kernel_rfl) (by kernel_rfl) ?_)); simp only [↓qg,↓xT,↓qh,↓qa,zI,zFK,zt,yF,yS,xG,yG,yD,xu,xZ,xL,xC,xS,implies_true,List.map_cons,List.map_nil,and_self,yh,yV,List.length_cons,List.length_nil,List.drop_zero,List.take_succ_cons,List.take_nil,List.getD_cons_zero,Bool.true_and,Bool.and_self,if_true,if_false,true_and,Nat.reduceAdd,Nat.reduceEqDiff,reduceCtorEq,Bool.false_eq_true,Nat.zero_add,Nat.add_zero,Nat.le_refl,Nat.lt_add_one,zW,zEc,zIz,zC9,zQH,ks38,e2,hbb])))
 (refine zOm hp rfl zOJ (by simp only [List.map_cons,List.map_nil,xG,xV,kn,zK8,zCY,zMf,zt,jh,yF,yS,if_true,if_false,Nat.reduceEqDiff,reduceIte,reduceCtorEq,zKc,zI3,zMS,zMs,zMe,zPO,zNZ,zEV,zCQ,zD4,zMM,zOE,zDS]) (by simp only [List.map_cons,List.map_nil,List.all_cons,List.all_nil,xG,xV,kn,zK8,zCY,zMf,zt,jh,yF,yS,if_true,if_false,Nat.reduceEqDiff,reduceIte,reduceCtorEq,zKZ,zKH,zHz,zIn,V.isOne,Bool.and_self,Bool.and_true]) ?_; simp only [↓xO,↓zBA,zt,jh,yF,yS,xG,kt,qe,spl,List.nil_append,zK,V.flat,List.length_cons,List.length_nil,List.take_zero,Bool.true_and,if_true,if_false,true_and,Nat.reduceAdd,Nat.reduceEqDiff,reduceCtorEq,Nat.zero_add,zW,zEa,zBx])
 simp only [kT,sl]
 refine ⟨rfl,rfl,Nat.le_refl _,?_⟩
 (repeat (first | (refine yd ?_) | (refine zv ?_; simp -failIfUnchanged only [zI,zN]) | (refine ye ?_; simp -failIfUnchanged only [yE,zx,yP,yC]) | (refine yK ?_; simp -failIfUnchanged only [zw,zq,zI,zN,reduceIte]) | (refine zy ?_) | ((first | (refine yc zE0 ks38 _ rfl rfl ?_) | (refine yL zE0 mixed ks38 _ rfl rfl (by kernel_rfl) (by kernel_rfl) ?_)); simp only [])))
 unfold yl
 rw [show Env.get [(4,V.at (Value.pointer (some ⟨b,0,none⟩)))] 4=V.at (Value.pointer (some ⟨b,0,none⟩)) from rfl,xZ,zW,if_pos rfl,xL]
 refine ⟨⟨zEa,by rw [zBx]; exact Nat.le_refl _,fun h=>by rw [zD6] at h; cases h⟩,?_⟩
 have hpv:∀ a b c:V,yV Tryz.prog 29 [a,b,c] 0 = .agg [a,b,c]:=fun a b c=>by
  unfold yV
  rw [if_pos zD6,zBx]; rfl
 simp only [List.cons_append,List.nil_append,List.length_cons,List.length_nil,List.drop_succ_cons,List.drop_zero,List.append_nil,List.drop_nil,Nat.zero_add,Nat.reduceAdd,hpv]
 refine ⟨rfl,?_⟩
 unfold yl
 refine ⟨s0,fun B g w hi=>hi.weaken ⟨fun j c hj=>?_,fun _ hm=>hm,fun hn=>hn,fun j hj=>?_,Nat.le_refl _,fun _ _ h=>h⟩,?_,rfl⟩
 · have:¬ b=j:=fun e=>by rw [<- e,hb] at hj; cases hj
   show Al.look (lay (lay s0.box b _) b _) j=_
   rw [zW,if_neg this,zW,if_neg this]; exact hj
 · replace hj:Al.look (lay (lay s0.box b _) b _) j=none:=hj
   rw [zW] at hj
   split at hj
   · cases hj
   · rename_i h; rw [zW,if_neg h] at hj; exact hj
 · simp only [finV,V.untag,List.map_cons,List.map_nil,zA9]
   rfl
end
section
open Go.Al Go.Den
def kf17:Nat->List Nat
 | 0=>[0,2,3,4]
 | 1=>[0,2,3,4,8]
 | 2=>[0,2,3,4]
 | 3=>[0,2,3]
 | 4=>[0,2,3,4]
 | 5=>[0,2,3,4,5]
 | 6=>[0,2,3,4,5,22]
 | 7=>[0,2,3,4,5]
 | 8=>[0,2,3,4]
 | _=>[]
def hd17:List (Nat×Head UU):=[(6,⟨[0,2,3,4,5],[],[(4,parK),(5,ptsK)]⟩)]
def jn17:List (Nat×Head UU):=[]
noncomputable def fd17:FD UU:=⟨⟨fun d=>hasN [] d,fun d=>hasN [] d,kf17,zB hd17,zB jn17,zf []⟩,zV Tryz.f17,28,[.cell 2 29,.cell 3 30]⟩
noncomputable def zCr:Code:=match zV Tryz.f17 with
 | .seq _ (.seq _ (.seq _ (.seq _ (.seq _ (.seq (.block _ c) _)))))=>c
 | _=>.skip
abbrev k17:LK:=[.dl TI.tok,parK,ptsK]
noncomputable def run17 (fu:Nat) (v2 v3:Value) (c37:zA ([.bool]:LK)->MM (zA ([.st TI.node]:LK))) (x:zA k17):Option (Option (zA ([parK,ptsK]:LK))):=
 runQ CC Tb fu 3 (zB [(36,fd36)]) (zB []) (zB [(38,jg)]) (zB [(37,cM ([.bool]:LK) ([.st TI.node]:LK) c37)]) fd17.fi zCr [(2,v2),(3,v3)] false [0,4,5] [4,5] k17 ([parK,ptsK]:LK) x
noncomputable def rest17b:Code:=match zV Tryz.f17 with
 | .seq _ (.seq _ (.seq _ (.seq _ (.seq _ (.seq _ c)))))=>c
 | _=>.skip
abbrev k17b:LK:=[.box [.int .i64,.int .i64,.dl TI.node],.box [.int .i64],ptsK]
abbrev k17c:LK:=[.box [.int .i64,.int .i64,.dl TI.node],.box [.int .i64]]
noncomputable def zMu (x:zA k17b):Option (Option (zA k17c)):=
 runQ CC Tb 0 2 (zB []) (zB []) (zB [(38,jg)]) (zB []) fd17.fi rest17b [] true [2,3,5] [2,3] k17b k17c x
theorem zHO:FDOk Tryz.prog (hasN []) (hasN [38]) 36 fd36:=⟨⟨Tryz.f36,Tryz.func36,by kernel_rfl,Tryz.ntmps36,Tryz.results36⟩,by kernel_rfl,by kernel_rfl,by kernel_rfl⟩
end
section
open Go.Al Go.Den
def sh17 (fu:Nat) (v2:Go.Value) (v3:Go.Value) (c37:(Bool×Unit)->MM (Nd×Unit)) (x:(LT×(ParT×(NdsT×Unit)))):(Option (Option (ParT×(NdsT×Unit)))):=iter fu (fun (rec1:(Unit×(ParT×(NdsT×Unit)))->Option (Option (ParT×(NdsT×Unit)))) (s1:(Unit×(ParT×(NdsT×Unit))))=>cond (ilt s1.2.1.2.1 (lenI x.1)) (bo (c37 (true,()) s1.2.1.1 (s1.2.1.2.1,s1.2.1.2.2.1)) fun y1=>cond (okN 40 ((List.length s1.2.2.1.1)+(List.length [(ndE y1.1.1)]))) (rec1 ((),((s1.2.1.1,(y1.2.1,(y1.2.2,((),())))),(((s1.2.2.1.1++[(ndE y1.1.1)]),()),())))) (none)) (some (some ((s1.2.1.1,(s1.2.1.2.1,(s1.2.1.2.2.1,((),())))),((s1.2.2.1.1,()),()))))) ((),((x.2.1.1,(x.2.1.2.1,(x.2.1.2.2.1,((),())))),((x.2.2.1.1,()),())))
theorem eq17:@run17 = @sh17:=by kernel_rfl
def sh17r (x:(JT×((Int×Unit)×(NdsT×Unit)))):(Option (Option (JT×((Int×Unit)×Unit)))):=some (some (((Nd.kind (Nd.mk 1 0 x.2.2.1.1)),((Nd.tok (Nd.mk 1 0 x.2.2.1.1)),((Nd.kids (Nd.mk 1 0 x.2.2.1.1)),()))),((0,()),())))
theorem eq17r:@zMu = @sh17r:=by kernel_rfl
end
section
open Go.RowKit Go.Al
theorem idle35 (p q:Addr) (w:World) :
 CallsD Tryz.prog 35 #[.pointer (some p),.pointer (some q)] .returning w fun e u' w'=>e = .returned (.tuple #[])/\u' = .returning/\w' = w:=by
 refine callsD_of_wpS Tryz.func35 rfl fun c₀ cs hu=>?_
 apply wpS_seq
 apply wpS_region
 simp [wpOpsS,go_sem,recoverD,hu,Tryz.ntmps35,Exit.thenS]
 refine wpS_of_wp ?_
 have hnil:∀ w:World,(binOp BinOp.eql 20 .nilIface .nilIface).run Tryz.prog w = .ok (.bool true) w:=fun _=>by kernel_rfl
 go_wp2
 cases c₀
 simp_all [bodyPostS,results,Tryz.results35]
set_option maxRecDepth 100000 in
theorem syn35 (p q:Nat) (x0 x1 x2 y0:Value) (tp tq:TypeId) (older:List PanicEntry) (w:World) (hp:w.heap[p]? = some (.cells #[x0,x1,x2] tp (0,0))) (hq:w.heap[q]? = some (.cells #[y0] tq (0,0))) (hpq:p≠q) :
 CallsD Tryz.prog 35 #[.pointer (some ⟨p,0,none⟩),.pointer (some ⟨q,0,none⟩)] (.panicking ({ v:=.iface 61 (.agg #[]),recovered:=false }::older)) w fun e u' w'=>e = .returned (.tuple #[])/\u' = .panicking ({ v:=.iface 61 (.agg #[]),recovered:=true }::older) /\
  w.heap.size<=w'.heap.size/\w'.heap[p]? = some (.cells #[.int .i64 0,.int .i64 0,.slice none 0 0] tp (0,0))/\w'.heap[q]? = some (.cells #[.int .i64 160] tq (0,0))/\(∀ j,j < w.heap.size->j≠p->j≠q->w'.heap[j]? = w.heap[j]?)/\w'.os=w.os/\w'.tape=w.tape/\w'.output=w.output:=by
 refine callsD_of_wpS Tryz.func35 rfl fun c₀ cs hu=>?_
 apply wpS_seq
 apply wpS_region
 simp [wpOpsS,go_sem,recoverD,hu,Tryz.ntmps35,Exit.thenS]
 refine wpS_of_wp ?_
 have hcp0:w.cell? ⟨p,0,none⟩=some x0:=by simp [World.cell?,hp]
 have hcp1:w.cell? ⟨p,1,none⟩=some x1:=by simp [World.cell?,hp]
 have hcp2:w.cell? ⟨p,2,none⟩=some x2:=by simp [World.cell?,hp]
 have hcq:w.cell? ⟨q,0,none⟩=some y0:=by simp [World.cell?,hq]
 have hfp:∀ o,w.frozen? ⟨p,o,none⟩=false:=fun o=>by simp [World.frozen?,hp]
 have hfq:w.frozen? ⟨q,0,none⟩=false:=by simp [World.frozen?,hq]
 have hta:∀ w:World,(Instr.typeAssert (.iface 61 (.agg #[])) 20 61 true).run Tryz.prog w = .ok (.tuple #[.agg #[],.bool true]) w:=fun _=>by kernel_rfl
 have lp:=(Array.getElem?_eq_some_iff.1 hp).1
 have lq:=(Array.getElem?_eq_some_iff.1 hq).1
 have hp1:(w.alloc (.cells #[] 61)).heap[p]? = some (.cells #[x0,x1,x2] tp (0,0)):=(Below.heap_alloc _ _ _ lp).trans hp
 have hq1:(w.alloc (.cells #[] 61)).heap[q]? = some (.cells #[y0] tq (0,0)):=(Below.heap_alloc _ _ _ lq).trans hq
 obtain ⟨W1,hW1⟩:∃ W1,w.alloc (.cells #[] 61)=W1:=⟨_,rfl⟩
 rw [hW1] at hp1 hq1
 have sc:∀ (W:World) (k i:Nat) (v:Value) (c:Array Value) (t:TypeId) (m:Nat×Nat),W.heap[k]? = some (.cells c t m)->(W.setCell ⟨k,i,none⟩ v).heap[k]? = some (.cells (c.setIfInBounds i v) t m):=by
  intro W k i v c t m h
  show (W.heap.modify k _)[k]? = _
  obtain ⟨hlt,hk⟩:=Array.getElem?_eq_some_iff.1 h
  rw [Array.getElem?_eq_getElem (by rw [Array.size_modify]; exact hlt),Array.getElem_modify_self,hk]
  rfl
 have so:∀ (W:World) (k i:Nat) (v:Value) (j:Nat),j≠k->(W.setCell ⟨k,i,none⟩ v).heap[j]? = W.heap[j]?:=fun W k i v j hj=>Below.heap_setCell _ _ _ j hj
 have sz:∀ (W:World) (k i:Nat) (v:Value),(W.setCell ⟨k,i,none⟩ v).heap.size=W.heap.size:=fun W k i v=>by show (W.heap.modify k _).size=_; simp
 have a1:(W1.setCell ⟨p,0,none⟩ (.int .i64 0)).heap[p]? = some (.cells #[.int .i64 0,x1,x2] tp (0,0)):=sc W1 p 0 _ _ _ _ hp1
 have a2:((W1.setCell ⟨p,0,none⟩ (.int .i64 0)).setCell ⟨p,1,none⟩ (.int .i64 0)).heap[p]? = some (.cells #[.int .i64 0,.int .i64 0,x2] tp (0,0)):=sc _ p 1 _ _ _ _ a1
 have a3:(((W1.setCell ⟨p,0,none⟩ (.int .i64 0)).setCell ⟨p,1,none⟩ (.int .i64 0)).setCell ⟨p,2,none⟩ (.slice none 0 0)).heap[p]? = some (.cells #[.int .i64 0,.int .i64 0,.slice none 0 0] tp (0,0)):=sc _ p 2 _ _ _ _ a2
 have q3:(((W1.setCell ⟨p,0,none⟩ (.int .i64 0)).setCell ⟨p,1,none⟩ (.int .i64 0)).setCell ⟨p,2,none⟩ (.slice none 0 0)).heap[q]? = some (.cells #[y0] tq (0,0)):=by
  rw [so _ _ _ _ _ (Ne.symm hpq),so _ _ _ _ _ (Ne.symm hpq),so _ _ _ _ _ (Ne.symm hpq)]; exact hq1
 have b0:W1.cell? ⟨p,0,none⟩=some x0:=by simp [World.cell?,hp1]
 have f0:W1.frozen? ⟨p,0,none⟩=false:=by simp [World.frozen?,hp1]
 have b1:(W1.setCell ⟨p,0,none⟩ (.int .i64 0)).cell? ⟨p,1,none⟩=some x1:=by simp [World.cell?,a1]
 have f1:(W1.setCell ⟨p,0,none⟩ (.int .i64 0)).frozen? ⟨p,1,none⟩=false:=by simp [World.frozen?,a1]
 have b2:((W1.setCell ⟨p,0,none⟩ (.int .i64 0)).setCell ⟨p,1,none⟩ (.int .i64 0)).cell? ⟨p,2,none⟩=some x2:=by simp [World.cell?,a2]
 have f2:((W1.setCell ⟨p,0,none⟩ (.int .i64 0)).setCell ⟨p,1,none⟩ (.int .i64 0)).frozen? ⟨p,2,none⟩=false:=by simp [World.frozen?,a2]
 have b3:(((W1.setCell ⟨p,0,none⟩ (.int .i64 0)).setCell ⟨p,1,none⟩ (.int .i64 0)).setCell ⟨p,2,none⟩ (.slice none 0 0)).cell? ⟨q,0,none⟩=some y0:=by simp [World.cell?,q3]
 have f3:(((W1.setCell ⟨p,0,none⟩ (.int .i64 0)).setCell ⟨p,1,none⟩ (.int .i64 0)).setCell ⟨p,2,none⟩ (.slice none 0 0)).frozen? ⟨q,0,none⟩=false:=by simp [World.frozen?,q3]
 have ho1:∀ j,j < w.heap.size->W1.heap[j]? = w.heap[j]?:=fun j hj=>by rw [<- hW1]; exact Below.heap_alloc _ _ _ hj
 have hs1:W1.heap.size=w.heap.size+1:=by rw [<- hW1]; simp
 have hos:W1.os=w.os/\W1.tape=w.tape/\W1.output=w.output:=by rw [<- hW1]; exact ⟨rfl,rfl,rfl⟩
 go_wp2
 refine ⟨rfl,.panicking ({ v:=.iface 61 (.agg #[]),recovered:=true }::older),by simp [hu],_,results_none rfl _ _ _,rfl,rfl,?_⟩
 refine ⟨by rw [sz,sz,sz,sz,hs1]; omega,?_,sc _ q 0 _ _ _ _ q3,fun j h1 h2 h3=>?_,hos⟩
 · rw [so _ _ _ _ _ hpq]; exact a3
 · rw [so _ _ _ _ _ h3,so _ _ _ _ _ h2,so _ _ _ _ _ h2,so _ _ _ _ _ h2]; exact ho1 j h1
end
section
open Go.Al Go.Den
abbrev as90:List (AK UU):=[.str,.int .u8]
abbrev rs90:List (AK UU):=[.int .i64]
abbrev as91:List (AK UU):=[.str,.str]
abbrev rs91:List (AK UU):=[.int .i64]
def kf64:Nat->List Nat
 | 0=>[0]
 | 1=>[0,6]
 | 2=>[0,6,7]
 | 3=>[0,6,7]
 | 4=>[0,6,7]
 | 5=>[0,6,7]
 | 6=>[0,7]
 | 7=>[0]
 | 8=>[0,2]
 | 9=>[0,21]
 | 10=>[0,3]
 | 11=>[0,3,33]
 | 12=>[0,3]
 | 13=>[0]
 | 14=>[0,2]
 | 15=>[0,54]
 | 16=>[0,2]
 | 17=>[0,4]
 | 18=>[0,4,67]
 | 19=>[0,2]
 | 20=>[0]
 | 21=>[0,2]
 | _=>[]
def hd64:List (Nat×Head UU):=[]
def jn64:List (Nat×Head UU):=[(7,⟨[0],[(7,.bool)],[(0,rdK)]⟩),(13,⟨[0],[(3,.int .i64)],[(0,rdK)]⟩),(9,⟨[0],[],[(0,rdK)]⟩)]
noncomputable def fd64:FD UU:=⟨⟨fun d=>hasN [] d,fun d=>hasN [] d,kf64,zB hd64,zB jn64,zf []⟩,zV Tryz.f64,77,[.tmp 2]⟩
def kf65:Nat->List Nat
 | 0=>[0]
 | 1=>[0,10]
 | 2=>[0,2,3]
 | 3=>[0,4]
 | 4=>[0,4,14]
 | 5=>[0,2,3]
 | 6=>[0,5]
 | 7=>[0,5,19]
 | 8=>[0,2,3]
 | 9=>[0,6]
 | 10=>[0,6,24]
 | 11=>[0,2,3]
 | 12=>[0,7]
 | 13=>[0,7,29]
 | 14=>[0,2,3]
 | 15=>[0,8]
 | 16=>[0,8,34]
 | 17=>[0,2,3]
 | 18=>[0,2,3]
 | _=>[]
def hd65:List (Nat×Head UU):=[]
def jn65:List (Nat×Head UU):=[]
noncomputable def fd65:FD UU:=⟨⟨fun d=>hasN [] d,fun d=>hasN [] d,kf65,zB hd65,zB jn65,zf []⟩,zV Tryz.f65,36,[.tmp 2,.tmp 3]⟩
def kf89:Nat->List Nat
 | 0=>[0,1]
 | 1=>[0,4]
 | _=>[]
def hd89:List (Nat×Head UU):=[]
def jn89:List (Nat×Head UU):=[]
noncomputable def fd89:FD UU:=⟨⟨fun d=>hasN [] d,fun d=>hasN [] d,kf89,zB hd89,zB jn89,zf []⟩,zV Tryz.f89,16,[.tmp 4]⟩
def kf92:Nat->List Nat
 | 0=>[0]
 | 1=>[0,3]
 | 2=>[0,3,17]
 | 3=>[0,3]
 | 4=>[0,2]
 | _=>[]
def hd92:List (Nat×Head UU):=[(2,⟨[0],[(3,.int .i64)],[(0,rdK)]⟩)]
def jn92:List (Nat×Head UU):=[]
noncomputable def fd92:FD UU:=⟨⟨fun d=>hasN [] d,fun d=>hasN [] d,kf92,zB hd92,zB jn92,zf []⟩,zV Tryz.f92,21,[.tmp 2]⟩
def kf93:Nat->List Nat
 | 0=>[0]
 | 1=>[0,20]
 | 2=>[0,2]
 | 3=>[0,3]
 | 4=>[0,3,4,5]
 | 5=>[0,2]
 | 6=>[0,3,4,29]
 | 7=>[0,3]
 | 8=>[0,3,43]
 | 9=>[0,3]
 | _=>[]
def hd93:List (Nat×Head UU):=[(4,⟨[0],[(3,.int .i64)],[(0,rdK)]⟩)]
def jn93:List (Nat×Head UU):=[]
noncomputable def fd93:FD UU:=⟨⟨fun d=>hasN [] d,fun d=>hasN [] d,kf93,zB hd93,zB jn93,zf []⟩,zV Tryz.f93,56,[.tmp 2]⟩
def kf94:Nat->List Nat
 | 0=>[0,1]
 | 1=>[0,1,21]
 | 2=>[0,4]
 | 3=>[0,1,5]
 | 4=>[0,1,5,33]
 | 5=>[0,1,5]
 | 6=>[0,1,5,38]
 | 7=>[0,1,5,38,39]
 | 8=>[0,5,47]
 | 9=>[0,4]
 | 10=>[0,4]
 | 11=>[0,1,5,38,50]
 | 12=>[0,4]
 | 13=>[0,1,5,52]
 | 14=>[0,1,5]
 | 15=>[0,1,5,73]
 | 16=>[0,4]
 | 17=>[0,4]
 | _=>[]
def hd94:List (Nat×Head UU):=[(4,⟨[0,1],[(5,.int .i64)],[(0,rdK)]⟩)]
def jn94:List (Nat×Head UU):=[]
noncomputable def fd94:FD UU:=⟨⟨fun d=>hasN [] d,fun d=>hasN [] d,kf94,zB hd94,zB jn94,zf []⟩,zV Tryz.f94,74,[.tmp 4]⟩
def kf95:Nat->List Nat
 | 0=>[0]
 | 1=>[0,3]
 | 2=>[0,3,6,7]
 | 3=>[0,3,6,7,8]
 | 4=>[0,3,5,6,7]
 | 5=>[0,3,5,6,7,19]
 | 6=>[0,3,6,7]
 | 7=>[0,3,6,7]
 | 8=>[0,2]
 | _=>[]
def hd95:List (Nat×Head UU):=[(3,⟨[0,6],[(3,.int .i64),(7,.int .i64)],[(0,rdK)]⟩)]
def jn95:List (Nat×Head UU):=[]
noncomputable def fd95:FD UU:=⟨⟨fun d=>hasN [] d,fun d=>hasN [] d,kf95,zB hd95,zB jn95,zf []⟩,zV Tryz.f95,24,[.tmp 2]⟩
def kf119:Nat->List Nat
 | 0=>[0,1]
 | 1=>[4]
 | _=>[]
def hd119:List (Nat×Head UU):=[]
def jn119:List (Nat×Head UU):=[]
noncomputable def zLj:FD UU:=⟨⟨fun d=>hasN [] d,fun d=>hasN [] d,kf119,zB hd119,zB jn119,zf []⟩,zV Tryz.f119,8,[.tmp 4]⟩
def kf122:Nat->List Nat
 | 0=>[0]
 | 1=>[2]
 | _=>[]
def hd122:List (Nat×Head UU):=[]
def jn122:List (Nat×Head UU):=[]
noncomputable def zEq:FD UU:=⟨⟨fun d=>hasN [] d,fun d=>hasN [] d,kf122,zB hd122,zB jn122,zf []⟩,zV Tryz.f122,21,[.tmp 2]⟩
def kf123:Nat->List Nat
 | 0=>[0]
 | 1=>[2]
 | _=>[]
def hd123:List (Nat×Head UU):=[]
def jn123:List (Nat×Head UU):=[]
noncomputable def zFC:FD UU:=⟨⟨fun d=>hasN [] d,fun d=>hasN [] d,kf123,zB hd123,zB jn123,zf []⟩,zV Tryz.f123,9,[.tmp 2]⟩
def kf132:Nat->List Nat
 | 0=>[0,1]
 | 1=>[4]
 | _=>[]
def hd132:List (Nat×Head UU):=[]
def jn132:List (Nat×Head UU):=[]
noncomputable def zMb:FD UU:=⟨⟨fun d=>hasN [] d,fun d=>hasN [] d,kf132,zB hd132,zB jn132,zf []⟩,zV Tryz.f132,18,[.tmp 4]⟩
noncomputable def run89 (fu:Nat) (x:zA [rdK]) (a:zA ([.str]:LK)):Option (Option (zA [rdK]×zA ([.bool]:LK))):=
 runP CC Tb fu 4 (zB [(119,zLj),(132,zMb)]) (zB []) (zB []) (zB []) fd89 [rdK] [rdK] ([.str]:LK) ([.bool]:LK) x a
theorem fdok89:FDOk Tryz.prog (hasN []) (hasN []) 89 fd89:=⟨⟨Tryz.f89,Tryz.func89,by kernel_rfl,Tryz.ntmps89,Tryz.results89⟩,by kernel_rfl,by kernel_rfl,by kernel_rfl⟩
theorem zMY:FDOk Tryz.prog (hasN []) (hasN []) 119 zLj:=⟨⟨Tryz.f119,Tryz.func119,by kernel_rfl,Tryz.ntmps119,Tryz.results119⟩,by kernel_rfl,by kernel_rfl,by kernel_rfl⟩
theorem zL7:FDOk Tryz.prog (hasN []) (hasN []) 132 zMb:=⟨⟨Tryz.f132,Tryz.func132,by kernel_rfl,Tryz.ntmps132,Tryz.results132⟩,by kernel_rfl,by kernel_rfl,by kernel_rfl⟩
noncomputable def run92 (fu:Nat) (c88:zA ([.int .i64]:LK)->Str->Int->Option (zA ([.int .u8]:LK))) (x:zA [rdK]) (a:zA ([]:LK)):Option (Option (zA [rdK]×zA ([.int .i64]:LK))):=
 runP CC Tb fu 4 (zB [(122,zEq),(123,zFC)]) (zB []) (zB [(88,cRD ([.int .i64]:LK) ([.int .u8]:LK) c88)]) (zB []) fd92 [rdK] [rdK] ([]:LK) ([.int .i64]:LK) x a
theorem fdok92:FDOk Tryz.prog (hasN []) (hasN [88]) 92 fd92:=⟨⟨Tryz.f92,Tryz.func92,by kernel_rfl,Tryz.ntmps92,Tryz.results92⟩,by kernel_rfl,by kernel_rfl,by kernel_rfl⟩
theorem zLs:FDOk Tryz.prog (hasN []) (hasN [88]) 122 zEq:=⟨⟨Tryz.f122,Tryz.func122,by kernel_rfl,Tryz.ntmps122,Tryz.results122⟩,by kernel_rfl,by kernel_rfl,by kernel_rfl⟩
theorem zMc:FDOk Tryz.prog (hasN []) (hasN [88]) 123 zFC:=⟨⟨Tryz.f123,Tryz.func123,by kernel_rfl,Tryz.ntmps123,Tryz.results123⟩,by kernel_rfl,by kernel_rfl,by kernel_rfl⟩
noncomputable def run93 (fu:Nat) (c90:List UInt8×Int×Unit->Option (Int×Unit)) (c88:zA ([.int .i64]:LK)->Str->Int->Option (zA ([.int .u8]:LK))) (x:zA [rdK]) (a:zA ([]:LK)):Option (Option (zA [rdK]×zA ([.int .i64]:LK))):=
 runP CC Tb fu 4 (zB [(122,zEq),(123,zFC)]) (zB [(90,(⟨as90,rs90,c90⟩:Con UU))]) (zB [(88,cRD ([.int .i64]:LK) ([.int .u8]:LK) c88)]) (zB []) fd93 [rdK] [rdK] ([]:LK) ([.int .i64]:LK) x a
theorem fdok93:FDOk Tryz.prog (hasN [90]) (hasN [88]) 93 fd93:=⟨⟨Tryz.f93,Tryz.func93,by kernel_rfl,Tryz.ntmps93,Tryz.results93⟩,by kernel_rfl,by kernel_rfl,by kernel_rfl⟩
theorem zL0:FDOk Tryz.prog (hasN [90]) (hasN [88]) 122 zEq:=⟨⟨Tryz.f122,Tryz.func122,by kernel_rfl,Tryz.ntmps122,Tryz.results122⟩,by kernel_rfl,by kernel_rfl,by kernel_rfl⟩
theorem zL3:FDOk Tryz.prog (hasN [90]) (hasN [88]) 123 zFC:=⟨⟨Tryz.f123,Tryz.func123,by kernel_rfl,Tryz.ntmps123,Tryz.results123⟩,by kernel_rfl,by kernel_rfl,by kernel_rfl⟩
noncomputable def run94 (fu:Nat) (c88:zA ([.int .i64]:LK)->Str->Int->Option (zA ([.int .u8]:LK))) (x:zA [rdK]) (a:zA ([.int .u8]:LK)):Option (Option (zA [rdK]×zA ([.int .i64]:LK))):=
 runP CC Tb fu 2 (zB []) (zB []) (zB [(88,cRD ([.int .i64]:LK) ([.int .u8]:LK) c88)]) (zB []) fd94 [rdK] [rdK] ([.int .u8]:LK) ([.int .i64]:LK) x a
theorem fdok94:FDOk Tryz.prog (hasN []) (hasN [88]) 94 fd94:=⟨⟨Tryz.f94,Tryz.func94,by kernel_rfl,Tryz.ntmps94,Tryz.results94⟩,by kernel_rfl,by kernel_rfl,by kernel_rfl⟩
noncomputable def run95 (fu:Nat) (c89:zA ([.str]:LK)->DD (zA ([.bool]:LK))) (x:zA [rdK]) (a:zA ([]:LK)):Option (Option (zA [rdK]×zA ([.int .i64]:LK))):=
 runP CC Tb fu 2 (zB []) (zB []) (zB []) (zB [(89,cD ([.str]:LK) ([.bool]:LK) c89)]) fd95 [rdK] [rdK] ([]:LK) ([.int .i64]:LK) x a
theorem fdok95:FDOk Tryz.prog (hasN []) (hasN []) 95 fd95:=⟨⟨Tryz.f95,Tryz.func95,by kernel_rfl,Tryz.ntmps95,Tryz.results95⟩,by kernel_rfl,by kernel_rfl,by kernel_rfl⟩
noncomputable def run65 (fu:Nat) (c89:zA ([.str]:LK)->DD (zA ([.bool]:LK))) (c92:zA ([]:LK)->DD (zA ([.int .i64]:LK))) (c93:zA ([]:LK)->DD (zA ([.int .i64]:LK))) (c94:zA ([.int .u8]:LK)->DD (zA ([.int .i64]:LK))) (c95:zA ([]:LK)->DD (zA ([.int .i64]:LK))) (x:zA [rdK]) (a:zA ([]:LK)):Option (Option (zA [rdK]×zA ([.int .i64,.int .i64]:LK))):=
 runP CC Tb fu 2 (zB []) (zB []) (zB []) (zB [(89,cD ([.str]:LK) ([.bool]:LK) c89),(92,cD ([]:LK) ([.int .i64]:LK) c92),(93,cD ([]:LK) ([.int .i64]:LK) c93),(94,cD ([.int .u8]:LK) ([.int .i64]:LK) c94),(95,cD ([]:LK) ([.int .i64]:LK) c95)]) fd65 [rdK] [rdK] ([]:LK) ([.int .i64,.int .i64]:LK) x a
theorem fdok65:FDOk Tryz.prog (hasN []) (hasN []) 65 fd65:=⟨⟨Tryz.f65,Tryz.func65,by kernel_rfl,Tryz.ntmps65,Tryz.results65⟩,by kernel_rfl,by kernel_rfl,by kernel_rfl⟩
noncomputable def run64 (fu:Nat) (c90:List UInt8×Int×Unit->Option (Int×Unit)) (c91:List UInt8×List UInt8×Unit->Option (Int×Unit)) (c88:zA ([.int .i64]:LK)->Str->Int->Option (zA ([.int .u8]:LK))) (c89:zA ([.str]:LK)->DD (zA ([.bool]:LK))) (x:zA [rdK]) (a:zA ([]:LK)):Option (Option (zA [rdK]×zA ([.bool]:LK))):=
 runP CC Tb fu 2 (zB []) (zB [(90,(⟨as90,rs90,c90⟩:Con UU)),(91,(⟨as91,rs91,c91⟩:Con UU))]) (zB [(88,cRD ([.int .i64]:LK) ([.int .u8]:LK) c88)]) (zB [(89,cD ([.str]:LK) ([.bool]:LK) c89)]) fd64 [rdK] [rdK] ([]:LK) ([.bool]:LK) x a
theorem fdok64:FDOk Tryz.prog (hasN [90,91]) (hasN [88]) 64 fd64:=⟨⟨Tryz.f64,Tryz.func64,by kernel_rfl,Tryz.ntmps64,Tryz.results64⟩,by kernel_rfl,by kernel_rfl,by kernel_rfl⟩
end
section
open Go.Al Go.Den
abbrev as18:List (AK UU):=[.str]
abbrev rs18:List (AK UU):=[.dl TI.tok]
abbrev as39:List (AK UU):=[.int .i64,.str]
abbrev rs39:List (AK UU):=[.dl TI.tok]
abbrev as62:List (AK UU):=[.str]
abbrev rs62:List (AK UU):=[.dl TI.char]
abbrev as63:List (AK UU):=[.dl TI.char]
abbrev rs63:List (AK UU):=[.str]
def kf18:Nat->List Nat
 | 0=>[0]
 | 1=>[3]
 | 2=>[3,4]
 | 3=>[3,4,5]
 | 4=>[3,4,5,11]
 | 5=>[3,4,5]
 | 6=>[3,4,5,19]
 | 7=>[3,4,5]
 | 8=>[2]
 | _=>[]
def hd18:List (Nat×Head UU):=[(4,⟨[3],[(4,.ow true TI.tok),(5,.int .i64)],[]⟩)]
def jn18:List (Nat×Head UU):=[]
noncomputable def fd18:FD UU:=⟨⟨fun d=>hasN [] d,fun d=>hasN [] d,kf18,zB hd18,zB jn18,zf []⟩,zV Tryz.f18,28,[.tmp 2]⟩
def kf39:Nat->List Nat
 | 0=>[0,1]
 | 1=>[0,5]
 | 2=>[0,5,6]
 | 3=>[0,5,6,7]
 | 4=>[0,5,6,7,8]
 | 5=>[0,5,6,7,8,32]
 | 6=>[0,5,6,7,8]
 | 7=>[0,5,6,7,8,43]
 | 8=>[4]
 | 9=>[0,5,6,7,8,9,10]
 | 10=>[0,5,6,7,8,10]
 | 11=>[0,5,6,7,8,10]
 | 12=>[0,5,6,7,8]
 | 13=>[0,5,6,7]
 | _=>[]
def hd39:List (Nat×Head UU):=[(4,⟨[0,5,6],[(7,.ow true TI.tok)],[(6,rdK)]⟩),(5,⟨[0,5,6,8],[(7,.ow true TI.tok)],[(6,rdK),(8,.box [.int .i64,.str,.int .i64,.int .i64,.int .i64,.bool])]⟩)]
def jn39:List (Nat×Head UU):=[]
noncomputable def fd39:FD UU:=⟨⟨fun d=>hasN [] d,fun d=>hasN [] d,kf39,zB hd39,zB jn39,zf [(10,[(1000066,53,6),(1000067,53,6),(1000066,57,6),(1000067,57,6),(1000066,61,6),(1000067,61,6)]),(11,[(1000088,71,6),(1000089,71,6),(1000088,74,6),(1000089,74,6),(1000088,79,6),(1000089,79,6),(1000088,85,6),(1000089,85,6)])]⟩,zV Tryz.f39,102,[.tmp 4]⟩
noncomputable def run39 (fu:Nat) (c62:List UInt8×Unit->Option (List CharT×Unit)) (c63:List CharT×Unit->Option (List UInt8×Unit)) (c64:zA ([]:LK)->DD (zA ([.bool]:LK))) (c65:zA ([]:LK)->DD (zA ([.int .i64,.int .i64]:LK))) (nf:Nat->Bool) (x0:Int) (x1:List UInt8):Option (zR rs39):=
 jv CC Tb fu 2 (zB []) (zB [(62,(⟨as62,rs62,c62⟩:Con UU)),(63,(⟨as63,rs63,c63⟩:Con UU))]) (zB []) (zB [(64,cD ([]:LK) ([.bool]:LK) c64),(65,cD ([]:LK) ([.int .i64,.int .i64]:LK) c65)]) fd39 as39 rs39 nf (x0,x1,())
theorem fdok39:FDOk Tryz.prog (hasN [62,63]) (hasN []) 39 fd39:=⟨⟨Tryz.f39,Tryz.func39,by kernel_rfl,Tryz.ntmps39,Tryz.results39⟩,by kernel_rfl,by kernel_rfl,by kernel_rfl⟩
noncomputable def run18 (fu:Nat) (c39:Int×List UInt8×Unit->Option (List TokT×Unit)) (nf:Nat->Bool) (x0:List UInt8):Option (zR rs18):=
 jv CC Tb fu 2 (zB []) (zB [(39,(⟨as39,rs39,c39⟩:Con UU))]) (zB []) (zB []) fd18 as18 rs18 nf (x0,())
theorem fdok18:FDOk Tryz.prog (hasN [39]) (hasN []) 18 fd18:=⟨⟨Tryz.f18,Tryz.func18,by kernel_rfl,Tryz.ntmps18,Tryz.results18⟩,by kernel_rfl,by kernel_rfl,by kernel_rfl⟩
end
section
open Go.Al Go.Den
abbrev as7:List (AK UU):=[.str]
abbrev rs7:List (AK UU):=[.bool]
abbrev as14:List (AK UU):=[]
abbrev rs14:List (AK UU):=[.bool]
abbrev as17:List (AK UU):=[.dl TI.tok]
abbrev rs17:List (AK UU):=[.st TI.node,.int .i64]
abbrev as19:List (AK UU):=[.st TI.node,.st TI.node]
abbrev rs19:List (AK UU):=[.bool]
abbrev as21:List (AK UU):=[.st TI.node,.int .i64]
abbrev rs21:List (AK UU):=[.st TI.node]
abbrev as22:List (AK UU):=[.st TI.node]
abbrev rs22:List (AK UU):=[.st TI.node,.bool]
abbrev as31:List (AK UU):=[.str]
abbrev rs31:List (AK UU):=[.str]
abbrev as32:List (AK UU):=[.st TI.node,.int .i64]
abbrev rs32:List (AK UU):=[.dl TI.node]
abbrev as50:List (AK UU):=[.st TI.node]
abbrev rs50:List (AK UU):=[.str]
abbrev as69:List (AK UU):=[.int .i64]
abbrev rs69:List (AK UU):=[.str]
def hd3:List (Nat×Head UU):=[(9,⟨[1,5],[(7,.ow true TI.tok),(8,.int .i64)],[]⟩)]
def hd4:List (Nat×Head UU):=[(7,⟨[3,4],[(5,.ow true TI.tok),(6,.int .i64)],[]⟩)]
def hd5:List (Nat×Head UU):=[(9,⟨[1,2,7,11],[(12,.ow true TI.tok),(13,.int .i64)],[]⟩)]
def hd6:List (Nat×Head UU):=[(7,⟨[5,6,7],[(8,.int .i64)],[]⟩),(19,⟨[5,6,9,11,13],[(15,.int .i64)],[(9,.box [.int .i64,.int .i64,.dl TI.node]),(11,.box [.int .i64,.int .i64,.dl TI.node]),(13,.box [.int .i64,.int .i64,.dl TI.node])]⟩)]
def kf14:Nat->List Nat
 | 0=>[]
 | 1=>[1]
 | 2=>[1,2]
 | 3=>[1,2,3,4]
 | 4=>[1,2,3,4,5,6]
 | 5=>[1,2,3,4,5,6,7]
 | 6=>[1,2,3,4,5,6,7,8]
 | 7=>[1,2,3,4,5,6,7,8,9]
 | 8=>[1,2,3,4,5,6,7,8,9,10]
 | 9=>[1,2,4,5,6,7,8,9,10,11]
 | 10=>[1,2,4,6,7,8,9,10,11,12]
 | 11=>[1,2,4,6,7,8,9,10,11,12,13]
 | 12=>[1,2,4,6,7,8,9,10,11,12,13,14]
 | 13=>[0]
 | _=>[]
def hd14:List (Nat×Head UU):=[]
def jn14:List (Nat×Head UU):=[]
noncomputable def fd14:FD UU:=⟨⟨fun d=>hasN [] d,fun d=>hasN [] d,kf14,zB hd14,zB jn14,zf []⟩,zV Tryz.f14,86,[.tmp 0]⟩
def kf19:Nat->List Nat
 | 0=>[2,3]
 | 1=>[2,3,27]
 | 2=>[4]
 | 3=>[2,3,5]
 | 4=>[2,3,5,32]
 | 5=>[2,3,5]
 | 6=>[2,3,5,6]
 | 7=>[2,3,5,47]
 | 8=>[4]
 | 9=>[4]
 | _=>[]
def hd19:List (Nat×Head UU):=[(4,⟨[2,3],[(5,.int .i64)],[(2,.box [.int .i64,.int .i64,.dl TI.node]),(3,.box [.int .i64,.int .i64,.dl TI.node])]⟩)]
def jn19:List (Nat×Head UU):=[]
noncomputable def fd19:FD UU:=⟨⟨fun d=>hasN [] d,fun d=>hasN [] d,kf19,zB hd19,zB jn19,zf []⟩,zV Tryz.f19,48,[.tmp 4]⟩
def kf21:Nat->List Nat
 | 0=>[1,2,4]
 | 1=>[1,2,4,10]
 | 2=>[4]
 | 3=>[1,2,4,5]
 | 4=>[1,2,4,5,17,18,19]
 | 5=>[1,2,4,5,17,18,19,20]
 | 6=>[1,2,4,5,7,17,18,19]
 | 7=>[1,2,4,5,17,18,19]
 | 8=>[1,2,4,5,17,18,19]
 | 9=>[4]
 | _=>[]
def hd21:List (Nat×Head UU):=[(5,⟨[1,2,4,17,18],[(5,.ow true TI.node),(19,.int .i64)],[(2,.box [.int .i64,.int .i64,.dl TI.node]),(4,.box [.int .i64,.int .i64,.dl TI.node])]⟩)]
def jn21:List (Nat×Head UU):=[]
noncomputable def fd21:FD UU:=⟨⟨fun d=>hasN [] d,fun d=>hasN [] d,kf21,zB hd21,zB jn21,zf []⟩,zV Tryz.f21,34,[.cell 4 29]⟩
def kf22:Nat->List Nat
 | 0=>[1,2]
 | 1=>[1,2,4]
 | 2=>[1,2,4,32]
 | 3=>[2,3]
 | 4=>[2,4,5]
 | 5=>[2,4,5,66]
 | 6=>[2,3]
 | 7=>[2,3]
 | _=>[]
def hd22:List (Nat×Head UU):=[]
def jn22:List (Nat×Head UU):=[]
noncomputable def fd22:FD UU:=⟨⟨fun d=>hasN [] d,fun d=>hasN [] d,kf22,zB hd22,zB jn22,zf []⟩,zV Tryz.f22,75,[.cell 2 29,.tmp 3]⟩
def kf31:Nat->List Nat
 | 0=>[0]
 | 1=>[3,4]
 | 2=>[3,12]
 | 3=>[2]
 | 4=>[2]
 | _=>[]
def hd31:List (Nat×Head UU):=[]
def jn31:List (Nat×Head UU):=[]
noncomputable def fd31:FD UU:=⟨⟨fun d=>hasN [] d,fun d=>hasN [] d,kf31,zB hd31,zB jn31,zf []⟩,zV Tryz.f31,15,[.tmp 2]⟩
def kf50:Nat->List Nat
 | 0=>[1]
 | 1=>[1,8]
 | 2=>[2]
 | 3=>[1,3]
 | 4=>[3,17,18,19]
 | 5=>[3,17,18,19,20]
 | 6=>[3,5,17,18,19]
 | 7=>[3,17,18,19]
 | 8=>[3,17,18,19]
 | 9=>[2]
 | _=>[]
def hd50:List (Nat×Head UU):=[(5,⟨[17,18],[(3,.str),(19,.int .i64)],[]⟩)]
def jn50:List (Nat×Head UU):=[]
noncomputable def fd50:FD UU:=⟨⟨fun d=>hasN [] d,fun d=>hasN [] d,kf50,zB hd50,zB jn50,zf []⟩,zV Tryz.f50,31,[.tmp 2]⟩
noncomputable def run19 (fu:Nat) (c19:Nd×Nd×Unit->Option (Bool×Unit)) (nf:Nat->Bool) (x0:Nd) (x1:Nd):Option (zR rs19):=
 jv CC Tb fu 2 (zB []) (zB [(19,(⟨as19,rs19,c19⟩:Con UU))]) (zB []) (zB []) fd19 as19 rs19 nf (x0,x1,())
theorem fdok19:FDOk Tryz.prog (hasN [19]) (hasN []) 19 fd19:=⟨⟨Tryz.f19,Tryz.func19,by kernel_rfl,Tryz.ntmps19,Tryz.results19⟩,by kernel_rfl,by kernel_rfl,by kernel_rfl⟩
noncomputable def run21 (fu:Nat) (c21:Nd×Int×Unit->Option (Nd×Unit)) (c41:Int×List Nd×Unit->Option (Nd×Unit)) (nf:Nat->Bool) (x0:Nd) (x1:Int):Option (zR rs21):=
 jv CC Tb fu 3 (zB [(40,fd40)]) (zB [(21,(⟨as21,rs21,c21⟩:Con UU)),(41,(⟨as41,rs41,c41⟩:Con UU))]) (zB []) (zB []) fd21 as21 rs21 nf (x0,x1,())
theorem fdok21:FDOk Tryz.prog (hasN [21,41]) (hasN []) 21 fd21:=⟨⟨Tryz.f21,Tryz.func21,by kernel_rfl,Tryz.ntmps21,Tryz.results21⟩,by kernel_rfl,by kernel_rfl,by kernel_rfl⟩
theorem zNm:FDOk Tryz.prog (hasN [21,41]) (hasN []) 40 fd40:=⟨⟨Tryz.f40,Tryz.func40,by kernel_rfl,Tryz.ntmps40,Tryz.results40⟩,by kernel_rfl,by kernel_rfl,by kernel_rfl⟩
noncomputable def run50 (fu:Nat) (c50:Nd×Unit->Option (List UInt8×Unit)) (c69:Int×Unit->Option (List UInt8×Unit)) (nf:Nat->Bool) (x0:Nd):Option (zR rs50):=
 jv CC Tb fu 2 (zB []) (zB [(50,(⟨as50,rs50,c50⟩:Con UU)),(69,(⟨as69,rs69,c69⟩:Con UU))]) (zB []) (zB []) fd50 as50 rs50 nf (x0,())
theorem fdok50:FDOk Tryz.prog (hasN [50,69]) (hasN []) 50 fd50:=⟨⟨Tryz.f50,Tryz.func50,by kernel_rfl,Tryz.ntmps50,Tryz.results50⟩,by kernel_rfl,by kernel_rfl,by kernel_rfl⟩
noncomputable def run22 (fu:Nat) (nf:Nat->Bool) (x0:Nd):Option (zR rs22):=
 jv CC Tb fu 2 (zB []) (zB []) (zB []) (zB []) fd22 as22 rs22 nf (x0,())
theorem fdok22:FDOk Tryz.prog (hasN []) (hasN []) 22 fd22:=⟨⟨Tryz.f22,Tryz.func22,by kernel_rfl,Tryz.ntmps22,Tryz.results22⟩,by kernel_rfl,by kernel_rfl,by kernel_rfl⟩
noncomputable def run31 (fu:Nat) (c17:List TokT×Unit->Option (Nd×Int×Unit)) (c18:List UInt8×Unit->Option (List TokT×Unit)) (c50:Nd×Unit->Option (List UInt8×Unit)) (nf:Nat->Bool) (x0:List UInt8):Option (zR rs31):=
 jv CC Tb fu 2 (zB []) (zB [(17,(⟨as17,rs17,c17⟩:Con UU)),(18,(⟨as18,rs18,c18⟩:Con UU)),(50,(⟨as50,rs50,c50⟩:Con UU))]) (zB []) (zB []) fd31 as31 rs31 nf (x0,())
theorem fdok31:FDOk Tryz.prog (hasN [17,18,50]) (hasN []) 31 fd31:=⟨⟨Tryz.f31,Tryz.func31,by kernel_rfl,Tryz.ntmps31,Tryz.results31⟩,by kernel_rfl,by kernel_rfl,by kernel_rfl⟩
noncomputable def run14 (fu:Nat) (c15:List UInt8×Unit->Option (Bool×Unit)) (c17:List TokT×Unit->Option (Nd×Int×Unit)) (c18:List UInt8×Unit->Option (List TokT×Unit)) (c31:List UInt8×Unit->Option (List UInt8×Unit)) (c32:Nd×Int×Unit->Option (List Nd×Unit)) (nf:Nat->Bool) :Option (zR rs14):=
 jv CC Tb fu 2 (zB []) (zB [(15,(⟨as15,rs15,c15⟩:Con UU)),(17,(⟨as17,rs17,c17⟩:Con UU)),(18,(⟨as18,rs18,c18⟩:Con UU)),(31,(⟨as31,rs31,c31⟩:Con UU)),(32,(⟨as32,rs32,c32⟩:Con UU))]) (zB []) (zB []) fd14 as14 rs14 nf ()
theorem fdok14:FDOk Tryz.prog (hasN [15,17,18,31,32]) (hasN []) 14 fd14:=⟨⟨Tryz.f14,Tryz.func14,by kernel_rfl,Tryz.ntmps14,Tryz.results14⟩,by kernel_rfl,by kernel_rfl,by kernel_rfl⟩
end
section
open Go.Al
theorem code69:zP Tryz.prog 69=true:=by kernel_rfl
theorem code91:zP Tryz.prog 91=true:=by kernel_rfl
end
end Go.Proofs.YtnamdpbcpnnhaaaGreatDoor
