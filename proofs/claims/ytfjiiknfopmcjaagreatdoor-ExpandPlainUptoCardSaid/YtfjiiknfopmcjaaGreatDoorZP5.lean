/-
  Part 5 of what the last text needs: library, runs, contracts, plain laws. No condition of its own.
-/
import Derived.Test.YtfjiiknfopmcjaaGreatDoorZP4
import Derived.WalkKit
import Derived.StillTail
import Derived.Defers
import Derived.Recover
import Derived.TacticsInMore
import Derived.RecoverIn
import Derived.Laws.StructEq
import Derived.Lib.FrozenHead
import Derived.Laws.Tables
import Derived.Deep.AppendSrc
set_option linter.unusedVariables false
set_option linter.unusedSimpArgs false
set_option linter.unusedSectionVars false
namespace Go.Proofs.YtfjiiknfopmcjaaGreatDoor
section
open Go.Al Go.Den Go.RowKit Go.Shelf
attribute [local go_sem] Oper.semAt_some
theorem zTc{F:Fence}{n:Nat}{P:Program}{c:Code}{Q:Exit->Act->World->Prop}{W:World}(t:Array Value)(u v:Value)(h:c.wpIn F n P Q { tmps:=(t.setIfInBounds 16 u).setIfInBounds 17 v,defers:=[] } W) :
 c.wpIn F n P Q { tmps:=((#[16,17]:Array Tmp).zip #[u,v]).foldl (λt (p,v)=>t.setIfInBounds p v) t,defers:=[] } W:=by
 rw[show((#[16,17]:Array Tmp).zip #[u,v]).foldl (λt (p,v)=>t.setIfInBounds p v) t=(t.setIfInBounds 16 u).setIfInBounds 17 v from by simp];exact h
theorem zL6{l n:Nat}{c:Code}{P:Program}{Q:Exit->Act->World->Prop}{a:Act}{w:World}(h:c.wpIn (fen (some l)) 0 P Q a w):c.wpIn (Fence.wide.inRound l) n P Q a w:=
 λb k cs d e _=>h b k cs d e (room_wide _)
theorem zUT:∀args w,(callFunc 43 args).run Tryz.prog w=.ok (.enter 43 args) w:=enters_of Tryz.func43 (by kernel_rfl) rfl
theorem tmps2(t:Array Value)(u v:Value)(k:Nat)(h:t.size=35)(a:k≠16)(b:k≠17):((t.setIfInBounds 16 u).setIfInBounds 17 v).getD k undef=t.getD k undef:=by
 simp only[zWS,zXl,a,b,zW8 a,zW8 b,zWA]
theorem tmps17(t:Array Value)(u v:Value)(h:t.size=35):((t.setIfInBounds 16 u).setIfInBounds 17 v).getD 17 undef=v:=by
 simp[zWS,zXl,h]
theorem zSv{g:Gh}{w:World}{m:MacT}{x:McC}(h:RC g w (CC.encV TI.mac m) [x.a,x.b,x.c,x.d,x.e]):x.a=.string ⟨m.name.toArray⟩/\RC g w x.raw [x.a,x.b,x.c,x.d,x.e]/\RV1 g w (CC.encV TI.mac m) x.enc:=by
 have i:=h;replace h:RC g w (zAe m) [x.a,x.b,x.c,x.d,x.e]:=h;unfold zAe at h;simp only[RC,RCs]at h;obtain⟨z,A,f,⟨rfl,B⟩,C,D,rfl,⟨rfl,E⟩,j,F,rfl,k,u4,G,rfl,⟨rfl,H⟩,l,I,rfl,n,rfl⟩:=h;have o:∃q,j=[q]/\one q=true:=by
  rcases k with⟨_,h,_⟩|⟨_,_,_,_,h,_⟩<;>(subst h;exact⟨_,rfl,rfl⟩)
 have p:∃q,l=[q]/\one q=true:=by
  rcases n with⟨_,h,_⟩|⟨_,_,_,_,h,_⟩<;>(subst h;exact⟨_,rfl,rfl⟩)
 obtain⟨J,rfl,r⟩:=o;obtain⟨K,rfl,s⟩:=p;simp only[zWY,zWR,zWc,zXe]at f;obtain⟨a1,t,u,v,y,_⟩:=f;refine⟨a1,?_,⟨_,i,rfl⟩⟩;simp only[McC.raw,RC,RCs];exact⟨[x.a],[x.b,x.c,x.d,x.e],rfl,⟨rfl,by rw[a1];rfl⟩,[x.b],[x.c,x.d,x.e],rfl,⟨rfl,by rw[t];rfl⟩,[x.c],[x.d,x.e],rfl,⟨rfl,by rw[u];exact r⟩,[x.d],[x.e],rfl,⟨rfl,by rw[v];rfl⟩,[x.e],[],rfl,⟨rfl,by rw[y];exact s⟩,rfl⟩
def mcAt(ds:List Value)(j:Nat):McC:=⟨ds.getD (j*5) undef,ds.getD (j*5+1) undef,ds.getD (j*5+2) undef,ds.getD (j*5+3) undef,ds.getD (j*5+4) undef⟩
theorem zHn{g:Gh}{w:World}:∀(f:List MacT)(ds:List Value),RCs g w (f.map (CC.encV TI.mac)) ds->ds.length=f.length*5/\∀j,j<f.length->RC g w (CC.encV TI.mac (f.getD j macD)) [(mcAt ds j).a,(mcAt ds j).b,(mcAt ds j).c,(mcAt ds j).d,(mcAt ds j).e]
 |[],ds,h=>by
  simp only[zV9,RCs]at h;subst h;exact⟨rfl,λj i=>by simp at i⟩
 |x::f,ds,h=>by
  simp only[zV6,RCs]at h;obtain⟨k,n,rfl,l,o⟩:=h;have m:=qc _ _ _ _ l;rw[show(CC.encV TI.mac x).size=5 from zQq x]at m;obtain⟨a,b,c,d,e,rfl⟩:∃a b c d e,k=[a,b,c,d,e]:=by
   match k,m with
   |[a,b,c,d,e],_=>exact⟨a,b,c,d,e,rfl⟩
  obtain⟨p,q⟩:=zHn f n o;refine⟨by simp[p];omega,λj i=>?_⟩;cases j with
  |zero=>simpa [mcAt]using l
  |succ j=>
   have:=q j (by simpa using i);have e0:(j+1)*5=j*5+1+1+1+1+1:=by omega
   have r:(j+1)*5+1=(j*5+1)+1+1+1+1+1:=by omega
   have s:(j+1)*5+2=(j*5+2)+1+1+1+1+1:=by omega
   have t:(j+1)*5+3=(j*5+3)+1+1+1+1+1:=by omega
   have u:(j+1)*5+4=(j*5+4)+1+1+1+1+1:=by omega
   simp only[mcAt]at this ⊢;rw[r,s,t,u,e0];simpa using this
theorem zVt(a:List MacT)(n:Nat)(h:n=a.length):a.reverse=(kY n n).map λx=>a.getD x.1 macD:=by
 subst h;rw[kY,zXM (by simp),List.map_reverse];congr 1;apply List.ext_getElem
 .simp
 .intro i b c;simp
def qV(a:List MacT):MapM:=a.reverse.foldl (λc m=>mcP c m.name m) []
abbrev encM(c:MapM):MC:=c.map λp=>((⟨p.1.toArray⟩:ByteArray),CC.encV TI.mac p.2)
set_option maxRecDepth 100000 in
set_option maxHeartbeats 2000000 in
theorem loop10{B:Nat}{r:List MacT}{s:S}{v1:V}{i bw b6 O:Nat}{g0:Gh}{w0:World}{Q:Exit->Act->World->Prop}{R:Code}
 (xm:zQ s.ob i=some (.mp [],[i])) (xw:Al.look s.box bw=some ([.at (.map (some i)),.at (.int .i64 0)],2)) (x6:Al.look s.box b6=some ([ptV bw],1)) (xb:Al.look s.box O=some ([.lst (yL (r.map (CC.encV TI.mac))) (r.map (CC.encV TI.mac))],1)) (aZ:r.length<1000000)
 (HR:∀g w D W a,Step B g0 w0 g w->Al.Inv B g s w->GlobOk B g.wm w->w.heap.size<=D->Keep1 i w W->W.heap[D]?=some (.deferred (some [])) ->
  Rel ⟨B,⟨35,[]⟩,none,[{ target:=.collected D,args:=#[] }]⟩ g [(1,v1),(6,ptV b6)] ⟨s.box,s.tg,s.nx,(i,.mp (encM (qV r)),[i])::s.ob⟩ a W->R.wpIn Fence.wide 6 Tryz.prog Q a W) :
 awpG Tryz.prog ⟨B,⟨35,[]⟩,none,[]⟩ 6 (spRF (ze Tryz.f10)).1 (Exit.then (R.wpIn Fence.wide 6 Tryz.prog Q) Q) g0 w0 [(1,v1),(6,ptV b6),(15,.clo (.func 43) [ptV O])] s:=by
 intro g a w ac q;have hF:∀f,Fence.wide.fn f:=λ_=>trivial;obtain⟨a0,T,aI⟩:=zQK (q.env 15);simp only[RCs,RC]at T;obtain⟨_,_,rfl,⟨rfl,_⟩,rfl⟩:=T;obtain⟨t1,t2,t3,t4,ap,a1,a3,t5,t6,t7,t8⟩:=q.inv.box _ _ _ xb;simp only[RCs]at t7;obtain⟨ub,_,rfl,ad,rfl⟩:=t7;have aq:=qc _ _ _ _ ad;obtain⟨vb,rfl⟩:∃vb,ub=[vb]:=by
  match ub,aq with
  |[vb],_=>exact⟨vb,rfl⟩
 have ae:ap=#[vb]:=by
  apply zXK;rw[zXM (by simpa using zYX t6)]at t8;simpa using t8
 subst ae;have af:O<w.heap.size:=(zV8.1 t5).1;obtain⟨av,E,H,orr,ds,aJ,ar,au,ag,ah⟩:∃(av:Option Addr)(E H orr:Nat)(ds:List Value),vb=.slice av r.length E/\(r≠[]->av=some ⟨H,orr,none⟩)/\RCs g.bare w (r.map (CC.encV TI.mac)) ds /\
  (∀k u,ds[k]?=some u->w.cell? ⟨H,orr+k,none⟩=some u)/\(r≠[]->H<w.heap.size/\g.wm H≠0):=by
  simp only[RC]at ad;rcases ad with⟨e1,e2,_⟩|⟨H,orr,E,ds,e1,e2,_,e3,_,e4⟩
  .obtain rfl:r=[]:=zYq.1 e1;injection e2 with e2
   exact⟨none,0,0,0,[],e2,λh=>absurd rfl h,(by show RCs g.bare w [] [];simp only[RCs]),λk u h=>by simp at h,λh=>absurd rfl h⟩
  .injection e1 with e1
   have aK:(List.map (CC.encV TI.mac) r).length=r.length:=zWG ..;refine⟨some ⟨H,orr,none⟩,E,H,orr,ds,e1.trans (zWp (λn=>Value.slice (some ⟨H,orr,none⟩) n E) aK),λ_=>rfl,e3,λk u h=>(e4 k u h).1,λz=>?_⟩;obtain⟨q1,L⟩:=zHn r ds e3;have aX:0<r.length:=List.length_pos_iff.2 z;have h0:ds[0]?=some ds[0]:=zWX (by omega);obtain⟨G,F⟩:=e4 0 _ h0;exact⟨(zV8.1 (zNC G).choose_spec.choose_spec.choose_spec.1).1,by omega⟩
 subst aJ;obtain⟨a4,aL⟩:=zHn r ds au;obtain⟨xs,aw⟩:∃xs:List McC,xs=(List.range r.length).map λj=>mcAt ds j:=⟨_,rfl⟩;have ai:xs.length=r.length:=by rw[aw];simp
 have ax:∀j (hj:j<xs.length),(xs[j]'hj)=mcAt ds j:=λj hj=>by subst aw;simp
 have M:xs≠[]->r≠[]:=λh e=>h (zYc.1 (by rw[ai,e];rfl));have U:=q.inv.ex.ob _ _ _ xm;obtain⟨m1,m2,m3,m4,m5,m6⟩:=U.2.2 i (by simp);replace m1:B<=i:=m1;have hB:B<=w.heap.size:=q.inv.base;have ay:O≠i:=λe=>by rw[e]at xb;rw[m4]at xb;cases xb
 have az:r≠[]->H≠i:=λh e=>(ah h).2 (by rw[e];exact m3);have aM:IsM i [] w w:=by
  refine⟨Keep1.refl _ _,?_⟩;obtain⟨_,arr,ck,G,F⟩:=U.1;exact⟨arr,ck,G,λg' w'=>zHU (c:=[]) F g' w'⟩
 have aA:∀A C:World,w.heap.size<=A.heap.size->(∀b,b<A.heap.size->b≠i->C.heap[b]?=A.heap[b]?)->KpN O av xs.length A C:=λA C G F=>by
  refine⟨λv hv=>(World.cell?_of_block (F O (by omega) ay)).trans hv,λb' o' e j v hj hv=>?_⟩;have z:r≠[]:=M (by rintro rfl;simp at hj);rw[ar z]at e;injection e with e
  injection e with e _ _
  subst e;exact(World.cell?_of_block (F H (by have:=(ah z).1;omega) (az z))).trans hv
 have aB:=zMC Fence.wide 5 (hF _) rfl (by omega) O E H orr av xs (λh=>ar (M h)) (by omega) w af (λh=>(ah (M h)).1) (by rw[ai];simp[World.cell?,t5]) (λj hj=>by
  have a5:j<r.length:=by omega
  have N:∀k,k<r.length*5->w.cell? ⟨H,orr+k,none⟩=some (ds.getD k undef):=λk hk=>ag k _ (by rw[zWk,zWX (by omega)];rfl);rw[ax j hj];exact⟨N _ (by omega),N (j*5+1) (by omega),N (j*5+2) (by omega),N (j*5+3) (by omega),N (j*5+4) (by omega)⟩)
 obtain⟨pf,aj⟩:∃pf:Fin xs.length->McC×MacT,pf=λx=>(xs[x.1]'x.2,r.getD x.1 macD):=⟨_,rfl⟩;have P:∀x:Fin xs.length,(pf x).1.a=.string ⟨(pf x).2.name.toArray⟩/\RC g.bare w (pf x).1.raw [(pf x).1.a,(pf x).1.b,(pf x).1.c,(pf x).1.d,(pf x).1.e]/\RV1 g.bare w (CC.encV TI.mac (pf x).2) (pf x).1.enc:=λx=>by
  have G:=aL x.1 (by have:=x.2;omega);rw[<-ax x.1 x.2]at G;rw[aj];exact zSv G
 have aC:∀x:Fin xs.length,(pf x).1.nm=⟨(pf x).2.name.toArray⟩:=λx=>by
  unfold McC.nm;rw[(P x).1]
 simp only[ze,Tryz.f10,zXB,spRF];refine wpIn_block ?_;refine wpIn_rangeFunc_ownH rfl (by omega) (gf:=43) (lb:=#[.pointer (some ⟨O,0,none⟩)]) aI (hF 43) zUT aB (λh k=>h.trans k) (λW l o o' _ hl G _=>KpN.put W l o o' hl G) (Below.refl _ _) (λ_=>rfl)
  (λ(pre:List (Fin xs.length)) W=>IsM i ((pre.map pf).foldl mkR []) w W) (λ_ _ _=>False)
  (λpre A C aD h N q=>h.grown m2 N q) (λc pre A C aD h N q=>h.elim) aM
  (λx a' W=>∃k,w.heap.size<=k/\(∃el,W.heap[k]?=some (.cells #[(pf x).1.a,(pf x).1.b,(pf x).1.c,(pf x).1.d,(pf x).1.e] el (0,0)))/\a'.tmps.getD 6 undef=.pointer (some ⟨b6,0,none⟩)/\a'.tmps.getD 8 undef=.pointer (some ⟨k,0,none⟩)/\a'.tmps.size=35/\a'.defers=[])
  (λx a' _ A C aD h N q=>?own) ?assign ?body ?done ?stop
 case own=>
  obtain⟨k,G,⟨el,F⟩,h3⟩:=h;refine⟨k,G,⟨el,(N.block k (zV8.1 F).1 (λe=>?_)).trans F⟩,h3⟩;obtain⟨_,o,ho,hc⟩:=q k e.symm;rw[F]at ho;injection ho with ho
  subst ho;cases hc
 case stop=>
  intro D c pre W _ _ h;exact h.elim
 case assign=>
  intro l pre x W K t hK;obtain⟨z1,z2,z3⟩:=P x;have aN:(xs[x.1]'x.2)=(pf x).1:=by rw[aj]
  rw[aN];refine zTc (a.tmps) (.int .i64 (x.1:Int)) (pf x).1.enc ?_;refine zL6 (wpIn_mono ((zSn (b6:=b6) (x:=(pf x).1):awp Tryz.prog ⟨B,⟨35,[]⟩,some l,[]⟩ _ _ _ ⟨[],[],s.nx,[(i,.mp (trR ((pre.map pf).foldl mkR [])),[i])]⟩) (frzG g W i) _ W ⟨zOL q.inv m1 m2 t,λk=>?_,⟨?_,λ_ X=>(by cases X)⟩,rfl,zNH q.inv q.gl m3 m1 t.keep⟩) ?_)
  .show RV _ W _ (((a.tmps.setIfInBounds 16 (.int .i64 (x.1:Int))).setIfInBounds 17 (pf x).1.enc).getD k undef);by_cases F:k=6
   .subst F;rw[tmps2 _ _ _ _ q.size.1 (by decide) (by decide),zr (q.env 6)];exact RV_at_mk rfl
   .by_cases h8:k=17
    .subst h8;rw[tmps17 _ _ _ q.size.1];refine zFq (us:=[(pf x).1.a,(pf x).1.b,(pf x).1.c,(pf x).1.d,(pf x).1.e]) ?_;simp only[McC.raw,RC]at z2;simp only[RCs,RC]at z2 ⊢;exact z2
    .have:Env.get [(6,ptV b6),(17,(pf x).1.raw)] k=V.any:=by
      simp only[Env.get,zW8 F,zW8 h8,zWA]
     rw[this];trivial
  .show((a.tmps.setIfInBounds 16 (.int .i64 (x.1:Int))).setIfInBounds 17 (pf x).1.enc).size=35;simp[q.size.1]
  .rintro ex a2 w2 ⟨g',e',s',q1,L,rfl,k,hk,rfl,hl,ak⟩;have Y:zQ s'.ob i=some (.mp (trR ((pre.map pf).foldl mkR [])),[i]):=by rw[ak,zw,if_pos rfl]
   obtain⟨i1,i2,i3⟩:=zLa t m2 q1 L.inv Y;have a6:W.heap.size<=k:=by
    rcases zW5 k W.heap.size with h|h
    .exfalso;have z:k≠i:=λe=>by
      have:=((L.inv.ex.ob _ _ _ Y).2.2 i (by simp)).2.2.2.1;rw[<-e,hl]at this;cases this
     have:=(L.inv.ex.frz k (by rw[q1.fr];simp[frzG,h,z])).2.1;rw[hl]at this;cases this
    .exact h
   have al:=t.keep.below.size;refine hK a2 w2 i3 (aA W w2 al i2) i1 ⟨k,by omega,?_,zr (L.env 6),zr (L.env 8),L.size.1,L.df⟩;obtain⟨p1,p2,p3,p4,arr,el,us,p5,p6,p7,p8⟩:=L.inv.box _ _ _ hl;simp only[RCs,RC]at p7;obtain⟨u1,_,rfl,⟨rfl,_⟩,u2,_,rfl,⟨rfl,_⟩,u3,_,rfl,⟨rfl,_⟩,u4,_,rfl,⟨rfl,_⟩,u5,_,rfl,⟨rfl,_⟩,rfl⟩:=p7;refine⟨el,?_⟩;have aE:arr=#[(pf x).1.a,(pf x).1.b,(pf x).1.c,(pf x).1.d,(pf x).1.e]:=by
    apply zXK;rw[zXM (by simpa using zYX p6)]at p8;simpa using p8
   rw[p5,aE]
 case done=>
  rintro D ys W hD rfl t hK;obtain⟨J,am⟩:∃J,((kY xs.length xs.length).map pf).foldl mkR []=J:=⟨_,rfl⟩;have hm:toM J=qV r:=by
   rw[<-am,zLI _ _ (λy hy=>by obtain⟨x,_,rfl⟩:=zWa.1 hy;exact aC x)];unfold qV;rw[zVt r xs.length ai,zXD,aj];rfl
  have aO:∀p∈J,∃x,p.2=pf x:=λp X=>by
   rw[<-am]at X;rcases zOP _ _ X with h|h
   .obtain⟨x,_,h⟩:=zWa.1 h;exact⟨x,h.symm⟩
   .cases h
  replace t:IsM i (((kY xs.length xs.length).map pf).foldl mkR []) w W:=t;rw[am]at t;obtain⟨I,j2⟩:=Inv.butMp q.inv xm t;have j3:Al.Inv B g ⟨s.box,s.tg,s.nx,(i,.mp (encM (qV r)),[i])::s.ob⟩ W:=by
   rw[<-hm,show encM (toM J)=trE J from(zVq J).symm];refine⟨I.base,I.box,I.tag,I.own,I.dist,I.nodup,I.fresh,I.names,I.ex.frz,λb o fp h=>?_,λb1 o1 f1 b2 o2 f2 j G F h3 h4=>?_,I.ex.ft⟩
   .replace h:zQ ((i,OV.mp (trE J),[i])::s.ob) b=some (o,fp):=h;rw[zw]at h;split at h
    .rename_i e;subst e;injection h with h
     obtain⟨rfl,rfl⟩:=zYd h;obtain⟨⟨e1,arr,ck,G,F⟩,h3,h4⟩:=I.ex.ob i _ _ (show zQ ((i,OV.mp (trR J),[i])::s.ob) i=_ by rw[zw,if_pos rfl]);refine⟨⟨e1,arr,ck,G,zLW F λp X=>?_⟩,h3,h4⟩;obtain⟨x,hx⟩:=aO p X;rw[hx];exact(P x).2.2.later j2.bare
    .rename_i e;exact I.ex.ob b o fp (show zQ ((i,OV.mp (trR J),[i])::s.ob) b=_ by rw[zw,if_neg e];exact h)
   .have aF:∀{b o f},zQ ((i,OV.mp (trE J),[i])::s.ob) b=some (o,f)->∃o',zQ ((i,OV.mp (trR J),[i])::s.ob) b=some (o',f):=λ{b o f} h=>by
     rw[zw]at h ⊢;split at h
     .rename_i e;injection h with h
      obtain⟨rfl,rfl⟩:=zYd h;exact⟨_,if_pos e⟩
     .rename_i e;exact⟨_,(if_neg e).trans h⟩
    obtain⟨aP,k1⟩:=aF G;obtain⟨aQ,k2⟩:=aF F;exact I.ex.obd b1 aP f1 b2 aQ f2 j k1 k2 h3 h4
  refine HR g w D W _ ac q.inv q.gl hD t.keep hK ⟨j3,λk=>?_,q.size,by show _::a.defers=_;rw[q.df],q.gl.below ⟨t.keep.below.os,t.keep.below.tape,t.keep.below.output,t.keep.below.size,λk hk=>t.keep.blk k (by replace hk:k<B:=hk;omega) (by replace hk:k<B:=hk;omega)⟩ (λ_=>zV7 _)⟩;have:=(q.env k).later j2;show RV g W (Env.get [(1,v1),(6,ptV b6)] k) (a.tmps.getD k undef);by_cases Z:k=15
  .subst Z;trivial
  .have e:Env.get [(1,v1),(6,ptV b6)] k=Env.get [(1,v1),(6,ptV b6),(15,.clo (.func 43) [ptV O])] k:=by
    simp only[Env.get,zW8 Z,zWA]
   rw[e];exact this
 case body=>
  rintro l pre x a' W _ _ t ⟨k,hk,⟨el,aR⟩,u2,u7,aS,aT⟩ aY;obtain⟨z1,z2,z3⟩:=P x;have aa:((pre++[x]).map pf).foldl mkR []=putR ((pre.map pf).foldl mkR []) ⟨(pf x).2.name.toArray⟩ ((pf x).1,(pf x).2):=by
   rw[zWy,List.foldl_append,<-aC x];rfl
  obtain⟨c,hc⟩:∃c,(pre.map pf).foldl mkR []=c:=⟨_,rfl⟩;replace t:IsM i ((pre.map pf).foldl mkR []) w W:=t;rw[hc]at t aa;have hL:=zKT q.inv m3 t.keep;have al:=t.keep.below.size;have ab:∀{b':Nat}{cs:List V}{n':Nat},Al.look s.box b'=some (cs,n')->∃arr el us,W.heap[b']?=some (.cells arr el (0,0))/\arr.size=n'/\RCs (frzG g W i) W cs us/\arr.toList.take cs.length=us/\b'≠i:=λ{b' cs n'} h=>by
   obtain⟨p1,p2,p3,p4,arr,el,us,p5,p6,p7,p8⟩:=q.inv.box _ _ _ h;have z:b'≠i:=λe=>by rw[e,m4]at h;cases h
   exact⟨arr,el,us,(t.keep.blk b' (zV8.1 p5).1 z).trans p5,p6,zq hL _ _ p7,p8,z⟩
  obtain⟨aG,a7,a8,p5,p6,p7,p8,aU⟩:=ab x6;simp only[RCs,RC]at p7;obtain⟨_,_,rfl,⟨rfl,_⟩,rfl⟩:=p7;obtain⟨aH,a9,ba,o5,aV,o7,o8,aW⟩:=ab xw;simp only[RCs,RC]at o7;obtain⟨_,_,rfl,⟨rfl,_⟩,_,_,rfl,⟨rfl,_⟩,rfl⟩:=o7;have an:aG.toList=[.pointer (some ⟨bw,0,none⟩)]:=by
   rw[zXM (by simpa using zYX p6)]at p8;simpa using p8
  have ao:aH.toList=[.map (some i),.int .i64 0]:=by
   rw[zXM (by simpa using zYX aV)]at o8;simpa using o8
  refine zL6 (wpIn_mono ((zUC (x:=(pf x).1) (m:=(pf x).2) (c:=c) z1:awp Tryz.prog ⟨B,⟨35,[]⟩,some l,[]⟩ _ _ _ ⟨[],[],s.nx,[(i,.mp (trR c),[i])]⟩) (frzG g W i) a' W ⟨zOL q.inv m1 m2 t,λk1=>?_,⟨aS,λ_ X=>(by cases X)⟩,aT,zNH q.inv q.gl m3 m1 t.keep⟩) ?_)
  .by_cases F:k1=6
   .subst F;rw[u2];refine zCg (ds:=[.pointer (some ⟨bw,0,none⟩)]) ?_ (by have:=zJs (g:=g) aU p5;rw[an]at this;exact this);simp only[RC,RCs];exact⟨bw,0,[.map (some i),.int .i64 0],rfl,⟨[_],[_],rfl,⟨rfl,rfl⟩,[_],[],rfl,⟨rfl,rfl⟩,rfl⟩,by have:=zJs (g:=g) aW o5;rw[ao]at this;exact this⟩
   .by_cases h7:k1=8
    .subst h7;rw[u7];refine zCg (ds:=[(pf x).1.a,(pf x).1.b,(pf x).1.c,(pf x).1.d,(pf x).1.e]) ?_ (zJs (g:=g) (by omega) aR);simp only[McC.raw,RC,RCs]at z2 ⊢;exact z2
    .have:Env.get [(6,.rptr (.rptr (.agg [.at (.map (some i)),.at (.int .i64 0)]))),(8,.rptr (pf x).1.raw)] k1=V.any:=by
      simp only[Env.get,zW8 F,zW8 h7,zWA]
     rw[this];trivial
  .rintro ex a2 w2 ⟨g',e',s',q1,L,rfl,ak⟩;obtain⟨i1,i2,i3⟩:=zLa t m2 q1 L.inv ak;refine⟨i3,aA W w2 al i2,?_⟩;show IsM i (((pre++[x]).map pf).foldl mkR []) w w2;rw[aa];exact i1
end
section
open Go.Al Go.Den
abbrev as7:List (AK UU):=[]
abbrev rs7:List (AK UU):=[.bool]
abbrev as10:List (AK UU):=[.dl TI.mac,.dl TI.tok]
abbrev rs10:List (AK UU):=[.dl TI.tok,.int .i64]
abbrev as11:List (AK UU):=[.dl TI.tok,.dl TI.tok]
abbrev rs11:List (AK UU):=[.bool]
def kf11:Nat->List Nat
 |0=>[0,1]
 |1=>[0,1,10]
 |2=>[4]
 |3=>[0,1,5]
 |4=>[0,1,5,14]
 |5=>[0,1,5]
 |6=>[0,1,5,25]
 |7=>[4]
 |8=>[4]
 |_=>[]
def hd11:List (Nat×Head UU):=[(4,⟨[0,1],[(5,.int .i64)],[]⟩)]
noncomputable def fd11:FD UU:=⟨⟨λd=>hasN [] d,λd=>hasN [] d,kf11,zB hd11,zB [],yK [],yF []⟩,ze Tryz.f11,26,[.tmp 4]⟩
noncomputable def run11(fu:Nat)(a:Nat->Bool)(b:List TokT)(c:List TokT):Option (zS rs11):=
 xr CC Tb fu 2 (zB []) (zB []) (zB []) (zB []) fd11 as11 rs11 a (b,c,())
theorem fdok11:FDOk Tryz.prog (hasN []) (hasN []) 11 fd11:=fdk Tryz.func11 Tryz.ntmps11 Tryz.results11
end
end Go.Proofs.YtfjiiknfopmcjaaGreatDoor
namespace Go.Den
section
open Go.Al
def zipE:List Nat->List V->Env
 |k::a,v::vs=>(k,v)::zipE a vs
 |_,_=>[]
def zipT{U:TyU}:List Nat->List (T U)->En U
 |k::a,v::vs=>(k,v)::zipT a vs
 |_,_=>[]
def conE:List (Nat×Value)->Env->Env
 |[],e=>e
 |p::r,e=>(p.1,.at p.2)::conE r e
def conT{U:TyU}:List (Nat×Value)->En U->En U
 |[],e=>e
 |p::r,e=>(p.1,.con p.2)::conT r e
def chkC{U:TyU}{R:Type}:List (Nat×Value)->En U->Option R->Option R
 |[],_,K=>K
 |p::r,e,K=>match eget e p.1 with
  |.con _=>chkC r e K
  |_=>none
section
variable{U:TyU}(C:Cod U)(Tb:TypeId->TD U)
def runQ(fu d:Nat)(inl:Nat->Option (FD U))(orc:Nat->Option (Con U))(orr:Nat->Option (CR U))(orp:Nat->Option (CP U))(i:FI U)(c:Code)(cs:List (Nat×Value))(g:Bool)(b a:List Nat)(h f:List (SK U))(x:zA h):Option (Option (zA f)):=
 jy C h x ⟨[],[],0,0,[]⟩ λvs st=>feS st λst=>feA vs λj=>
 drun C Tb fu (zCe C Tb fu inl orc orr orp (some none) d) i c (conT cs (zipT b j)) st λex e' e=>match ex with
  |.normal=>chkC cs e' (xI C f (a.map λk=>eget e' k) e λy _=>some (some y))
  |.ret=>bif g then chkC cs e' (xI C f (a.map λk=>eget e' k) e λy _=>some (some y))else none
  |.exit id=>bif Nat.beq id 0&&!g then chkC cs e' (xI C f (a.map λk=>eget e' k) e λy _=>some (some y))else none
  |_=>none
variable{C Tb}{P:Program}
theorem zNw{st:St U}{N:NM}:∀(a:List Nat)(args:List (T U)),bdds st.nl st.nx args=true->ESim C N st (zipT a args) (zipE a (args.map (trT C N)))
 |[],_,_,k=>⟨.inl rfl,rfl⟩
 |_::_,[],_,k=>⟨.inl rfl,rfl⟩
 |n::a,x::xs,h,k=>by
  simp only[bdds,zV5]at h;simp only[zipT,eget,zV6,zipE,Env.get];by_cases e:n=k
  .subst e;have:Nat.beq n n=true:=by simp
   simp only[this,zWQ,zWE];exact⟨.inr rfl,h.1⟩
  .simp only[yy e,zWH,if_neg e];exact zNw a xs h.2 k
theorem zOi{st:St U}{N:NM}{e:En U}{E:Env}(h:ESim C N st e E):∀cs:List (Nat×Value),ESim C N st (conT cs e) (conE cs E)
 |[],k=>h k
 |p::r,k=>by
  simp only[conT,eget,conE,Env.get];by_cases a:p.1=k
  .have:Nat.beq p.1 k=true:=by simpa using a
   simp only[this,zWQ,if_pos a];exact⟨.inr rfl,rfl⟩
  .simp only[yy a,zWH,if_neg a];exact zOi h r k
theorem zOm{R:Type}{e:En U}{K:Option R}{r:R}:∀{cs:List (Nat×Value)},chkC cs e K=some r->K=some r/\∀p∈cs,∃v,eget e p.1=.con v
 |[],h=>⟨h,λp b=>(by cases b)⟩
 |p::cs,h=>by
  simp only[chkC]at h;split at h
  .rename_i v c;obtain⟨d,f⟩:=zOm h;refine⟨d,λq a=>?_⟩;rcases zWB.1 a with rfl|a
   .exact⟨v,c⟩
   .exact f q a
  .cases h
def QEnd(C:Cod U)(b:List (SK U))(cs:List (Nat×Value))(a:List Nat)(oc:Option (zA b))(e':Env)(c:S):Prop:=(∀p∈cs,e'.get p.1=(conE cs []).get p.1)/\∃y,oc=some y/\∃q,VKs C c b y (a.map e'.get) q/\q.Nodup
def QPost(C:Cod U)(syn:List PanicEntry)(c:List (SK U))(d:Bool)(cs:List (Nat×Value))(a:List Nat)(oc:Option (zA c)):Exit->Env->S->Prop
 |.normal,e',b=>QEnd C c cs a oc e' b
 |.ret,e',b=>d=true/\QEnd C c cs a oc e' b
 |.exit id,e',b=>(id=0/\d=false)/\QEnd C c cs a oc e' b
 |.panic e,_,_=>e=syn/\oc=none
 |_,_,_=>False
theorem zVy(hT:TbOk C P Tb)(B:CodOk C)(hm:P.follows .mixedOrders=true){syn:List PanicEntry}{pf rf:FuncId->Bool}{fu d:Nat}{inl:Nat->Option (FD U)}{orc:Nat->Option (Con U)}{orr:Nat->Option (CR U)}{orp:Nat->Option (CP U)}
 (I:∀f,pf f=(orc f).isSome) (J:∀f,rf f=(orr f).isSome) (K:∀f fd,inl f=some fd->FDOk P pf rf f fd) (L:∀f c,orc f=some c->OrcOk C P f c)
 (M:∀f c,orr f=some c->zU P f=true/\CROk C P f c) (O:∀f c,orp f=some c->zU P f=true/\CPOk C P syn f c) {u:FI U} {c:Code} {cs:List (Nat×Value)} {rt:Bool} {i g:List Nat} {D o:List (SK U)} {X:Cx} (Q:qE pf rf u X.N c=true) (R:qT u c=true)
 {x:zA D} {oc:Option (zA o)} (h:runQ C Tb fu d inl orc orr orp u c cs rt i g D o x=some oc) (T:∀p∈cs,p.1∉dsts u c) {W:S} {vx:List V} {rs:List Res} (F:VKs C W D x vx rs) (hn:rs.Nodup):awp P X c (QPost C syn o rt cs g oc) (conE cs (zipE i vx)) W:=by
 unfold runQ at h;have Y:∀y,¬Has ⟨id,id,id,id⟩ (⟨[],[],0,0,[]⟩:St U) y:=λy G=>by
  cases y with
  |inl n=>obtain⟨t,ht,_⟩:=G;cases ht
  |inr b=>obtain⟨l,b,Z,_⟩:=G;simp[lk]at Z
  |ob b=>obtain⟨l,b,Z,_⟩:=G;simp[lko]at Z
 obtain⟨N1,s,ac,k1,k2,k3,k4,k5,k6⟩:=qw B D x (SSim.empty ⟨id,id,id,id⟩ 0 0 W) F hn (λy G hh=>Y y hh) h;rw[xE,zB9]at k1;subst k4;refine qu (PP:=λe=>e=syn/\(some none:Option (Option (zA o)))=some oc) hT B hm (zBf hT B hm I J K L M O d u.wr u.own) c k3 (zOi (zNw i s k5) cs) k1 Q R (λe s' hq=>?_) ?_
 .obtain⟨h1,m⟩:=hq;injection m with m
  exact⟨h1,m.symm⟩
 .intro ex N' e' z E' s' r u2 u3 u4 u5;have aa:(xI C o (g.map λk=>eget e' k) z λy _=>some (some y))=some oc->∃y,oc=some y/\∃q,VKs C s' o y (g.map E'.get) q/\q.Nodup:=λhh=>by
   obtain⟨y,ad,q,h3,_,_,_,h4,h5,_,_⟩:=jF B o (vs:=g.map λk=>eget e' k) (vs':=g.map E'.get) u3 (by simp) (λj x v a b=>by
    rw[zWM]at a b;cases hk:g[j]? with
    |none=>rw[hk]at a;cases a
    |some k=>
     rw[hk]at a b;injection a with a
     injection b with b
     subst a;subst b;exact(u4 k).1) hh
   injection h3 with h3
   exact⟨y,h3.symm,q,h4,h5⟩
  have all:chkC cs e' (xI C o (g.map λk=>eget e' k) z λy _=>some (some y))=some oc->QEnd C o cs g oc E' s':=λr=>by
   obtain⟨v1,v2⟩:=zOm r;refine⟨λp H=>?_,aa v1⟩;obtain⟨v,F⟩:=v2 p H;have h1:eget e' p.1=eget (conT cs (zipT i s)) p.1:=by
    rcases u5 p.1 (T p H)with q|q
    .exact q
    .rw[F]at q;cases q
   have m:=(u4 p.1).1;have A:∀(cs:List (Nat×Value))(e:En U)(E:Env),p∈cs->eget (conT cs e) p.1=.con ((cs.find? λq=>Nat.beq q.1 p.1).getD p).2/\(conE cs E).get p.1=.at ((cs.find? λq=>Nat.beq q.1 p.1).getD p).2:=by
    intro cs
    induction cs with
    |nil=>intro _ _ h;cases h
    |cons a cs ih=>
     intro e E h;by_cases w:a.1=p.1
     .have e2:Nat.beq a.1 p.1=true:=by simpa using w
      simp only[conT,eget,conE,Env.get,e2,zWQ,if_pos w,List.find?_cons_of_pos,zXB];exact⟨trivial,trivial⟩
     .have e2:¬(Nat.beq a.1 p.1=true):=by simpa using w
      have ab:p∈cs:=by
       rcases zWB.1 h with rfl|h
       .exact absurd rfl w
       .exact h
      simp only[conT,eget,conE,Env.get,yy w,zWH,if_neg w];have:=ih e E ab;rw[List.find?_cons_of_neg (by simpa using e2)];exact this
   rcases m with m|m
   .rw[F]at m;cases m
   .rw[m,h1,(A cs _ [] H).1,(A cs (zipT i s) [] H).2];rfl
  cases ex with
  |normal=>exact all r
  |ret=>
   obtain⟨w1,w2⟩:=zN r;exact⟨w1,all w2⟩
  |exit id=>
   obtain⟨w1,w2⟩:=zN r;exact⟨by simpa using w1,all w2⟩
  |goto l=>cases r
  |panic c=>cases r
  |outgrown=>cases r
end
end
end Go.Den
namespace Go.Proofs.YtfjiiknfopmcjaaGreatDoor
section
open Go.Al Go.Den Go.RowKit Go.Shelf
attribute [local congr] qy jb jw zAB xx jE xP xN qk jV qo j0 qr jD xF xW qn jt jx qL jY qp qQ qO qv ql qR jG qm qK zAA j9 jv jZ ja je qq qN qM
theorem zTk{B:Nat}{g0 g g':Gh}{w0 w W d:World}{s u:S}{D q:Nat}(F:Step B g0 w0 g w)(C:B<=q/\g.wm q=0/\g.fr q=false)(r:Al.Inv B g s w)(l:Keep1 q w W)(G:w.heap.size<=D)
 (a:Step B ⟨g.wm,g.tb,⟨λb=>g.fr b||decide (b=D),g.fr.t⟩⟩ W g' d) (n:Al.Inv B g' u d):Step B g0 w0 ⟨g'.wm,g'.tb,g.fr⟩ (d.putObj D (.deferred none))/\Al.Inv B ⟨g'.wm,g'.tb,g.fr⟩ u (d.putObj D (.deferred none))/\d.heap[D]?=W.heap[D]?:=by
 have P:=r.base;have H:=l.below.size;have E:=a.below.size;have c:∀j,j≠D->(d.putObj D (.deferred none)).heap[j]?=d.heap[j]?:=λj m=>World.putObj_heap_other m;have f:∀b,g.fr b=true->g'.fr b=true:=λb h=>by rw[a.fr];simp[h]
 have p:g'.fr D=true:=by rw[a.fr];simp
 have v:g'.wm D=0:=by rw[(a.fz D (by simp)).2];exact r.fresh D G
 obtain⟨f1,I,J⟩:=n.ex.frz D p;refine⟨F.trans ⟨⟨λb=>a.later.wm b,λt x e=>a.later.tb t x e,λb o y=>?_⟩,⟨a.below.os.trans l.below.os,a.below.tape.trans l.below.tape,a.below.output.trans l.below.output,by simp[World.putObj];omega,λk K=>?_⟩,λb i=>?_,λb i=>a.wmB b i,rfl⟩,?_,(a.fz D (by simp)).1⟩
 .have i:b<w.heap.size:=by
   rcases zW5 b w.heap.size with z|z
   .exact z
   .rw[r.fresh b z]at y;omega
  refine(World.cell?_of_block (c b (by omega))).trans ((a.later.cell b o y).trans (World.cell?_of_block (l.blk b i (λe=>by rw[e,C.2.1]at y;omega))))
 .exact(c k (by omega)).trans ((a.below.block k K).trans (l.blk k (by omega) (by omega)))
 .obtain⟨L,_,_⟩:=r.ex.frz b i;obtain⟨M,N⟩:=a.fz b (by simp[i]);exact⟨(c b (by omega)).trans (M.trans (l.blk b L (λe=>by rw[e,C.2.2]at i;cases i))),N⟩
 .have O:Al.Inv B ⟨g'.wm,g'.tb,g.fr⟩ u d:=Inv.refr (f1:=g'.fr) n (λb h=>n.ex.frz b (f b h)) (λb o A h j m=>by
   have:=((n.ex.ob b o A h).2.2 j m).2.2.2.2.2;cases e:g.fr j with
   |false=>rfl
   |true=>rw[f j e]at this;cases this) (by rw[a.fr])
  exact(Inv.but O D I J (λb o A h m=>by
   have:=((n.ex.ob b o A h).2.2 D m).2.2.2.2.2;rw[p]at this;cases this) v (by simp[World.putObj]) (λj _ m=>c j m)).1
abbrev k10:LK:=[.dl TI.tok,.box [woK]]
noncomputable def zQv:Code:=(spRF (ze Tryz.f10)).2
def fi10:FI UU:=⟨λ_=>false,λ_=>false,λ|5=>[9,10]|6=>[4,5]|_=>[],λ_=>none,λ_=>none,λ_=>[],λ_=>[]⟩
noncomputable def run10q(c22:List TokT×Unit->Option (List TkT×Unit))(c23:List TkT×Unit->Option (List TokT×Unit))(a:(Bool×List TkT)×Unit->WW (List TkT×Int×Unit))(x:zA k10):Option (Option (zA ([.dl TI.tok,.int .i64]:LK))):=
 runQ CC Tb 0 2 (zB []) (zB [(22,(⟨as22,rs22,c22⟩:Con UU)),(23,(⟨as23,rs23,c23⟩:Con UU))]) (zB []) (zB [(21,cW kL kE a)]) fi10 zQv [] true [1,6] [4,5] k10 ([.dl TI.tok,.int .i64]:LK) x
def zE4(c22:List TokT×Unit->Option (List TkT×Unit))(c23:List TkT×Unit->Option (List TokT×Unit))(a:(Bool×List TkT)×Unit->WW (List TkT×Int×Unit))(x:List TokT×((WoT×Unit)×Unit)):Option (Option (List TokT×Int×Unit)):=Option.bind (c22 (x.1,())) λb=>Option.bind (a ((b.1.isEmpty,b.1),()) x.2.1.1.1 x.2.1.1.2.1) λc=>Option.bind (c23 (c.1.1,())) λd=>some (some (d.1,(c.1.2.1,())))
theorem eq10q:@run10q=@zE4:=by kernel_rfl
theorem zRN(c22:List TokT×Unit->Option (List TkT×Unit))(b:ConOk CC Tryz.prog 22 ⟨as22,rs22,c22⟩)(c23:List TkT×Unit->Option (List TokT×Unit))(c:ConOk CC Tryz.prog 23 ⟨as23,rs23,c23⟩)
 (a:(Bool×List TkT)×Unit->WW (List TkT×Int×Unit)) (e:CPOk CC Tryz.prog syn 21 (cW ([.bl TI.tk]:LK) ([.dl TI.tk,.int .i64]:LK) a)) {X:Cx} (j:X.N=⟨35,[]⟩) {x:zA k10} {oc:Option (zA ([.dl TI.tok,.int .i64]:LK))} (h:zE4 c22 c23 a x=some oc)
 {f:S} {i:List V} {rs:List Res} (k:VKs CC f k10 x i rs) (m:rs.Nodup):awp Tryz.prog X zQv (QPost CC syn ([.dl TI.tok,.int .i64]:LK) true [] [4,5] oc) (conE [] (zipE [1,6] i)) f:=by
 rw[<-eq10q]at h;exact zVy (fu:=0) (d:=2) (inl:=zB []) (orc:=zB [(22,(⟨as22,rs22,c22⟩:Con UU)),(23,(⟨as23,rs23,c23⟩:Con UU))]) (orr:=zB []) (orp:=zB [(21,cW ([.bl TI.tk]:LK) ([.dl TI.tk,.int .i64]:LK) a)]) (pf:=hasN [22,23]) (rf:=hasN []) zCX CCok mixed (λg=>(yT (α:=Con UU) (l:=[(22,(⟨as22,rs22,c22⟩:Con UU)),(23,(⟨as23,rs23,c23⟩:Con UU))]) g).symm) (λg=>(yT (α:=CR UU) (l:=[]) g).symm)
  (zD) (zK (OrcOk.of ⟨code22,b⟩ rfl) (zK (OrcOk.of ⟨zQ1,c⟩ rfl) (zD))) (zD) (zK ⟨code21,e⟩ (zD)) (by rw[j];kernel_rfl) (by kernel_rfl) h (λp n=>by cases n) k m
theorem zHI{P:Program}{L:Pol}{ds:List (Option Nat)}{KP:List PanicEntry->S->Prop}{c:List Oper}{K:Env->S->Prop}{e:Env}{st:S}{d:Option Nat}{ty:TypeId}{a:String}{f:Array Edge}(t:TypeId):AL P L ds KP (⟨d,.makeMap t none,ty,a,f,none⟩::c) K e st=(true=true/\zFG st λv b=>AL P L ds KP c K (e.putO d v) b):=propext zXt
def zCh:Nat->List Nat
 |0=>[0,1]
 |1=>[0,1,6]
 |_=>[1,6,15]
set_option maxRecDepth 100000 in
set_option maxHeartbeats 1000000 in
theorem pre10{B n:Nat}{es:List V}{t:V}{Q:Exit->Act->World->Prop}{g0:Gh}{w0:World}
 (l:∀(s:S)(f a b6 h:Nat),zQ s.ob f=some (.mp [],[f])->Al.look s.box a=some ([.at (.map (some f)),.at (.int .i64 0)],2)->Al.look s.box b6=some ([ptV a],1)->Al.look s.box h=some ([.lst (yL es) es],1)->b6≠a ->
  awpG Tryz.prog ⟨B,⟨35,[]⟩,none,[]⟩ n (spRF (ze Tryz.f10)).1 (Exit.then ((spRF (ze Tryz.f10)).2.wpIn Fence.wide n Tryz.prog Q) Q) g0 w0 [(1,t),(6,ptV b6),(15,.clo (.func 43) [ptV h])] s) :
 awpG Tryz.prog ⟨B,⟨35,[]⟩,none,[]⟩ n (ze Tryz.f10) Q g0 w0 (jh 0 [.lst (yL es) es,t]) ⟨[],[],0,[]⟩:=by
 simp only[ze,Tryz.f10,zXB,spRF]at l ⊢;simp only[jh,Nat.reduceAdd];refine zHZ ?_
 (repeat (first|(refine zn ?_)|(refine zd ?_;simp -failIfUnchanged only[zC,zE])|(refine zo ?_;simp -failIfUnchanged only[zb,zY,zk,za])|(refine zh ?_;simp -failIfUnchanged only[zX,zW,zC,zE,reduceIte])|(refine zZ ?_)|((first|(refine zp polN zCh _ rfl rfl ?_)|(refine zi polN mixed zCh _ rfl rfl (by kernel_rfl) (by kernel_rfl) ?_));simp only[↓yE,↓zAK,zC,zF,zG,zI,zT,yH,cV_nil,zg,zj,zWE,zWA,Nat.reduceEqDiff,reduceCtorEq,zCh])))
 refine zHZ ?_
 (repeat (first|(refine zn ?_)|(refine zd ?_;simp -failIfUnchanged only[zC,zE])|(refine zo ?_;simp -failIfUnchanged only[zb,zY,zk,za])|(refine zh ?_;simp -failIfUnchanged only[zX,zW,zC,zE,reduceIte])|(refine zZ ?_)|((first|(refine zp polN zCh _ rfl rfl ?_)|(refine zi polN mixed zCh _ rfl rfl (by kernel_rfl) (by kernel_rfl) ?_));simp only[↓yE,↓qt,↓zLu,↓zRo,↓zMT,zC,yM,zF,qF,zG,zI,zP,zg,zj,zKD,zHG,zV6,zV9,V.flat,zWj,zWE,zWA,zXJ,Nat.reduceEqDiff,reduceCtorEq,zero56,zCh,zHI])))
 intro f m;refine zI0 (cs:=[.at (.map none),.at (.int .i64 0)]) (cs':=[.at (.map (some f)),.at (.int .i64 0)]) (by kernel_rfl) (by kernel_rfl) rfl ?_;refine⟨rfl,λa o=>⟨rfl,λb6 b=>?_⟩⟩;have k:b6≠a:=λe=>by
  replace b:Al.look (Al.lay _ a _) b6=none:=b;rw[zR,if_pos e.symm]at b;cases b
 have p:¬a=b6:=λe=>k e.symm;have u:∀c d:List V×Nat,Al.look (Al.lay (Al.lay [] a c) b6 d) b6=some d:=λc d=>by rw[zR,if_pos rfl]
 dsimp only[V.flat];show qS _ _ _ _ _ _;unfold qS;dsimp only;rw[u];refine⟨by kernel_rfl,rfl,rfl,Nat.le_refl _,?_⟩;refine zSZ (λs=>zQ s.ob f=some (.mp [],[f])/\Al.look s.box a=some ([.at (.map (some f)),.at (.int .i64 0)],2)/\Al.look s.box b6=some ([ptV a],1)) ⟨?_,?_,?_⟩ ?_
 .show zQ (_::_) f=_;rw[zw,if_pos rfl]
 .show Al.look (Al.lay (Al.lay (Al.lay [] a _) b6 _) b6 _) a=_;rw[zR,if_neg k,zR,if_neg k,zR,if_pos rfl];rfl
 .show Al.look (Al.lay _ b6 _) b6=_;rw[zR,if_pos rfl];rfl
 rintro s ⟨x,v,w⟩;clear u p b o m;generalize(spRF (ze Tryz.f10)).2=rst at l;refine zRS ?_;refine zHZ ?_
 (repeat (first|(refine zn ?_)|(refine zd ?_;simp -failIfUnchanged only[zC,zE])|(refine zo ?_;simp -failIfUnchanged only[zb,zY,zk,za])|(refine zh ?_;simp -failIfUnchanged only[zX,zW,zC,zE,reduceIte])|(refine zZ ?_)|((first|(refine zp polN zCh _ rfl rfl ?_)|(refine zi polN mixed zCh _ rfl rfl (by kernel_rfl) (by kernel_rfl) ?_));simp only[↓xi,zC,yM,zG,zI,zP,zg,zj,zV6,zV9,zWE,zWA,reduceCtorEq,zCh])))
 have q:zx (.lst (yL es) es)=.lst (yL es) es:=by simp only[zBB]
 refine yI [.lst (yL es) es] rfl rfl rfl code20 (by simp only[zV6,zV9,zWK,zWZ,zP,zF,zG,zI,zWE,zWA,Nat.reduceEqDiff,reduceCtorEq,zGD,zWJ]) (by simp only[zV6,zV9,zP,zF,zG,zI,zWE,zWA,Nat.reduceEqDiff,reduceCtorEq];exact .keep .nil) ((ok20x q)) (λr s i=>?_) (λc s i=>(by first|(obtain⟨_,_,_,i,_⟩:=i;cases i;done)|(obtain⟨_,_,i,_⟩:=i;cases i;done)));obtain⟨h,g,j,rfl⟩:=i;injection j with j
 subst j;simp only[↓yE,zF,zG,zI,zWE,zWA,Nat.reduceEqDiff,reduceCtorEq];refine l _ f a b6 h x ?_ ?_ ?_ k
 .show Al.look (Al.lay s.box h _) a=_;rw[zR,if_neg (λe=>by rw[e,v]at g;cases g)];exact v
 .show Al.look (Al.lay s.box h _) b6=_;rw[zR,if_neg (λe=>by rw[e,w]at g;cases g)];exact w
 .show Al.look (Al.lay s.box h _) h=_;rw[zR,if_pos rfl]
def c10(c22:List TokT×Unit->Option (List TkT×Unit))(c23:List TkT×Unit->Option (List TokT×Unit))(a:(Bool×List TkT)×Unit->WW (List TkT×Int×Unit))(x:List MacT×List TokT×Unit):Option (List TokT×Int×Unit):=
 if x.1.length<1000000 then(match zE4 c22 c23 a (x.2.1,((qV x.1,((0:Int),())),()),())with|some (some y)=>some y|_=>none)else none
set_option maxRecDepth 100000 in
set_option maxHeartbeats 1000000 in
theorem ok10(c22:List TokT×Unit->Option (List TkT×Unit))(ab:ConOk CC Tryz.prog 22 ⟨as22,rs22,c22⟩)(c23:List TkT×Unit->Option (List TokT×Unit))(ac:ConOk CC Tryz.prog 23 ⟨as23,rs23,c23⟩)
 (F:(Bool×List TkT)×Unit->WW (List TkT×Int×Unit)) (ad:CPOk CC Tryz.prog syn 21 (cW ([.bl TI.tk]:LK) ([.dl TI.tk,.int .i64]:LK) F)):ConOk CC Tryz.prog 10 ⟨as10,rs10,c10 c22 c23 F⟩:=by
 intro x y z vs ae;obtain⟨E,l,u⟩:=x;change List MacT at E;change List TokT at l;replace z:(if E.length<1000000 then(match zE4 c22 c23 F (l,((qV E,((0:Int),())),()),())with|some (some y)=>some y|_=>none)else none)=some y:=z;split at z
 rotate_left
 .cases z
 rename_i af;split at z
 rotate_left
 .cases z
 rename_i oc hq;injection z with z
 subst z;obtain⟨v,vs',rfl,J,v2,am,rfl,K,rfl⟩:=ae;replace J:v=.lst (yL (E.map (CC.encV TI.mac))) (E.map (CC.encV TI.mac)):=J;replace K:v2=.lst (yL (l.map (CC.encV TI.tok))) (l.map (CC.encV TI.tok)):=K;subst J;subst K;intro wm w vs ag T hv;have hi:Al.Inv w.heap.size ⟨wm,λ_=>none,Fr.no⟩ ⟨[],[],0,[]⟩ w:=
  ⟨zV7 _,(λb cs k H=>(by cases H)),(λt G=>(by cases G)),(λt G=>(by cases G)),(λt G=>(by cases G)),zW7,ag,λ_ _=>rfl,⟨(λb hb=>by cases hb),(λb o fp H=>(by cases H)),(λb o fp b' o' an j H=>(by cases H)),(λt G=>by cases G)⟩⟩
 refine(callsIn_wide (n:=6)).1 ?_;have hF:∀f,Fence.wide.fn f:=λ_=>trivial;refine callsIn_of_wp_marks Tryz.func10 rfl (hF _) ?_ rfl;have a:=zDi (N:=35) hi T hv (by show 2<=35;decide);rw[show Tryz.f10.ntmps=35 from Tryz.ntmps10];generalize hB:w.heap.size=B at hi T a;refine pre10 (B:=B) (g0:=⟨wm,λ_=>none,Fr.no⟩) (w0:=w) ?_ ⟨wm,λ_=>none,Fr.no⟩ _ w (.refl _ _ _) a;intro s p I b6 bs xm xw x6 xb n6;refine loop10 xm xw x6 xb af ?_;intro r w1 D W a1 hs A al hD hM U a;obtain⟨m1,m2,m3,m4,m5,m6⟩:=(A.ex.ob _ _ _ xm).2.2 p (by simp);have Y:D<W.heap.size:=(zV8.1 U).1;have L:Rel ⟨B,⟨35,[]⟩,none,[{ target:=.collected D,args:=#[] }]⟩ ⟨r.wm,r.tb,⟨λb=>r.fr b||decide (b=D),r.fr.t⟩⟩ [(1,.lst (yL (l.map (CC.encV TI.tok))) (l.map (CC.encV TI.tok))),(6,ptV b6)] ⟨s.box,s.tg,s.nx,(p,.mp (encM (qV E)),[p])::s.ob⟩ a1 W:=by
  refine⟨Inv.refr (f1:=r.fr) a.inv (λj hj=>?_) (λj o f h i M=>?_) rfl,λk=>RV.later (g:=r) (w:=W) (g':=⟨r.wm,r.tb,⟨λb=>r.fr b||decide (b=D),r.fr.t⟩⟩) (w':=W) ⟨λ_=>zV7 _,λ_ _ e=>e,λ_ _ _=>rfl⟩ (a.env k),a.size,a.df,a.gl⟩
  .have ah:r.fr j=true\/j=D:=by simpa using hj
   rcases ah with hj|rfl
   .exact a.inv.ex.frz j hj
   .refine⟨Y,?_,λt G d hd=>?_⟩
    .cases e:Al.look s.box j with
     |none=>rfl
     |some c=>
      obtain⟨cs,n⟩:=c;obtain⟨_,_,_,_,arr,el,us,h5,_⟩:=A.box j cs n e;have:=(zV8.1 h5).1;omega
    .obtain⟨d1,d2,d3⟩:=d;obtain⟨_,_,_,_,_,arr,el,h5,_⟩:=A.own t G j d1 d2 d3 hd;have:=(zV8.1 h5).1;omega
  .have h1:=((a.inv.ex.ob j o f h).2.2 i M).2.2.2.2.2;have h2:i≠D:=by
    have h3:∃o2 f2,zQ s.ob j=some (o2,f2)/\i∈f2:=by
     replace h:zQ ((p,OV.mp _,[p])::s.ob) j=some (o,f):=h;rw[zw]at h;split at h
     .rename_i e;injection h with h
      obtain⟨_,rfl⟩:=zYd h;subst e;exact⟨_,_,xm,M⟩
     .exact⟨o,f,h,M⟩
    obtain⟨o2,f2,h3,h4⟩:=h3;have:=((A.ex.ob j _ _ h3).2.2 i h4).2.1;omega
   show(r.fr i||decide (i=D))=false;rw[show r.fr i=false from h1];simpa using h2
 have ai:VKs CC ⟨s.box,s.tg,s.nx,(p,.mp (encM (qV E)),[p])::s.ob⟩ k10 ((l,((qV E,((0:Int),())),()),()):List TokT×((WoT×Unit)×Unit)) [.lst (yL (l.map (CC.encV TI.tok))) (l.map (CC.encV TI.tok)),ptV b6] [.inr b6,.inr I,.ob p]:=
  ⟨_,_,[],[.inr b6,.inr I,.ob p],rfl,rfl,⟨rfl,rfl⟩,_,[],[.inr b6,.inr I,.ob p],[],rfl,rfl,⟨b6,[ptV I],[.inr I,.ob p],rfl,x6,⟨_,[],[.inr I,.ob p],[],rfl,rfl,⟨I,_,[.ob p],rfl,xw,⟨_,_,[.ob p],[],rfl,rfl,⟨p,[p],rfl,(by rw[show(⟨s.box,s.tg,s.nx,(p,OV.mp (encM (qV E)),[p])::s.ob⟩:S).ob=(p,OV.mp (encM (qV E)),[p])::s.ob from rfl,zw,if_pos rfl];rfl),rfl⟩,⟨_,[],[],[],rfl,rfl,⟨rfl,rfl⟩,rfl,rfl⟩⟩,rfl⟩,rfl,rfl⟩,rfl⟩,rfl,rfl⟩
 have O:=zRN c22 ab c23 ac F ad (X:=⟨B,⟨35,[]⟩,none,[{ target:=.collected D,args:=#[] }]⟩) rfl hq ai (by
  have:¬(Res.inr b6=Res.inr I):=λe=>by injection e with e;exact n6 e
  simp[this])
 refine wpIn_mono (zKF O L) ?_;have Z:∀{ex:Exit}{g':Gh}{e':Env}{s':S}{a2:Act}{P:World},Step B ⟨r.wm,r.tb,⟨λb=>r.fr b||decide (b=D),r.fr.t⟩⟩ W g' P->Rel ⟨B,⟨35,[]⟩,none,[{ target:=.collected D,args:=#[] }]⟩ g' e' s' a2 P ->
  QEnd CC ([.dl TI.tok,.int .i64]:LK) [] [4,5] (some oc) e' s'->LeavesInM Fence.wide 6 Tryz.prog Tryz.f10 a2.tmps
   (λe w'=>∃v Q,e=.returned v/\(∀b,w'.heap.size<=b->Q b=0)/\Step B ⟨wm,λ_=>none,Fr.no⟩ w ⟨Q,λ_=>none,Fr.no⟩ w'/\RV ⟨Q,λ_=>none,Fr.no⟩ w' (finV ((xh CC rs10 (λ_=>false) 0 oc).map (trT CC ⟨id,id,id,id⟩))) v) a2.defers .returning P:=by
  rintro ex g' e' s' a2 P C m ⟨_,y,z,q,aj,_⟩;injection z with z
  subst z;obtain⟨z1,z2,z3⟩:=zTk hs ⟨m1,m3,m6⟩ A hM hD C m.inv;have ak:g'.wm D=0:=by rw[(C.fz D (by simp)).2];exact A.fresh D hD
  have H:Later g' P ⟨g'.wm,g'.tb,r.fr⟩ (P.putObj D (.deferred none)):=⟨λ_=>zV7 _,λ_ _ e=>e,λb o ho=>World.cell?_of_block (World.putObj_heap_other (λe=>by replace e:b=D:=e;rw[e,ak]at ho;omega))⟩;rw[m.df];obtain⟨v4,ao,r1,r2,e4,_,⟨rfl,_⟩,v5,ap,r3,r4,e5,_,⟨rfl,_⟩,rfl,_⟩:=aj;simp only[zV6,zV9,zXe]at e4;obtain⟨e4,aa⟩:=e4;subst e5;simp only[zXe,zZN]at aa;have k4:=(m.env 4).later H;have k5:=(m.env 5).later H;rw[e4]at k4;rw[aa]at k5;refine⟨by simp,.inl ⟨_,_,rfl,run_takeDeferred (z3.trans U),?_⟩⟩;refine⟨_,results_tmp2 Tryz.results10 _ _ _,_,g'.wm,rfl,z2.fresh,⟨⟨z1.later.wm,(λ_ _ e=>(by cases e)),z1.later.cell⟩,z1.below,(λb hb=>by cases hb),z1.wmB,rfl⟩,?_⟩;have c4:=zB7 k4 (by show zJ [V.lst _ _];simp[zJ,V.isOne]);have c5:=zB7 k5 (by show zJ [V.at _];simp[zJ,V.isOne]);rw[zNk]at c4;exact⟨_,(RVs.cons c4 (.cons c5 .nil)).fr _ _,rfl⟩
 rintro ex a2 P ⟨g',e',s',C,m,R⟩;cases ex with
 |normal=>exact Z (ex:=.normal) C m R
 |ret=>exact Z (ex:=.ret) C m R.2
 |exit id=>exact absurd R.1.2 (by decide)
 |panic c=>cases R.2
 |goto _=>exact R.elim
 |outgrown=>exact R.elim
end
section
open Go.Al Go.Den
def TT{ρ:Type}(a:Option (Option ρ))(Q:ρ->Prop):Prop:=∃y,a=some (some y)/\Q y
section
variable{ρ α:Type}{Q:ρ->Prop}{t f:Option (Option ρ)}{a b:Int}
theorem xY{y:ρ}(h:Q y):TT (some (some y)) Q:=⟨y,rfl,h⟩
theorem yp{x:Option α}{v:α}{F:α->Option (Option ρ)}(h:x=some v)(c:TT (F v) Q):TT (Option.bind x F) Q:=by subst h;exact c
theorem zAi(h1:a=b->TT t Q)(c:a≠b->TT f Q):TT (cond (ieq a b) t f) Q:=by
 rw[zBl];by_cases h:a=b
 .rw[zWm h];exact h1 h
 .rw[zWz h];exact c h
theorem zQ4(h1:a≠b->TT t Q)(c:a=b->TT f Q):TT (cond (ine a b) t f) Q:=by
 rw[zEV];by_cases h:a=b
 .rw[zWm h];exact c h
 .rw[zWz h];exact h1 h
theorem zI9(h1:a<=b->TT t Q)(c:b<a->TT f Q):TT (cond (ile a b) t f) Q:=by
 unfold ile;by_cases h:a<=b
 .rw[zWm h];exact h1 h
 .rw[zWz h];exact c (by omega)
theorem kP(h1:a<b->TT t Q)(c:b<=a->TT f Q):TT (cond (ilt a b) t f) Q:=by
 unfold ilt;by_cases h:a<b
 .rw[zWm h];exact h1 h
 .rw[zWz h];exact c (by omega)
theorem zVm(h1:b<a->TT t Q)(c:a<=b->TT f Q):TT (cond (!(ile a b)) t f) Q:=by
 unfold ile;by_cases h:a<=b
 .rw[zWm h];exact c h
 .rw[zWz h];exact h1 (by omega)
theorem zN0{c:Bool}(h1:c=true->TT t Q)(d:c=false->TT f Q):TT (cond c t f) Q:=by
 cases c
 .exact d rfl
 .exact h1 rfl
theorem zRa{c:Bool}(h1:c=false->TT t Q)(d:c=true->TT f Q):TT (cond (!c) t f) Q:=by
 cases c
 .exact h1 rfl
 .exact d rfl
theorem zJZ{c:Bool}(h:c=true)(h1:TT t Q):TT (cond c t f) Q:=by rw[h];exact h1
theorem zGh{σ:Type}{F:(σ->Option (Option ρ))->σ->Option (Option ρ)}(I:σ->Prop)(μ:σ->Nat)
 (step:∀(rec:σ->Option (Option ρ)) s,I s->(∀c,I c->μ c<μ s->TT (rec c) Q)->TT (F rec s) Q) (n:Nat) (s:σ) (hs:I s) (d:μ s<n):TT (iter n F s) Q:=
 zA2 (λo=>TT o Q) I μ step n s hs d
end
theorem zCK{a b:Int}{n:Nat}(h1:0<=a)(c:a<=b)(d:b<=n):inS a b n=true:=by unfold inS;simp[h1,c,d]
theorem yJ{a:Int}{n:Nat}(h1:0<=a)(c:a<n):inB a n=true:=by unfold inB;simp[h1,c]
section
variable{s:Str}{i k:Int}{fu:Nat}
theorem zCQ(h:xU s k≠0):k<(s.length:Int):=by
 unfold xU at h;by_cases c:k<(s.length:Int)
 .exact c
 .rw[if_neg c]at h;exact absurd rfl h
theorem e35(h0:0<=i+k)(h1:i+k<9223372036854775808)(c:s.length<9223372036854775808):c35 (k,()) s i=some (xU s (i+k),()):=if_pos ⟨h0,h1,c⟩
theorem zJI{a b:Int}(h0:0<=a)(h1:a<=b)(c:b<=s.length):((cutL s a b).length:Int)=b-a:=by
 unfold cutL;rw[zXL,zWT];omega
noncomputable def r36:Str×Unit->DD (Bool×Unit):=c36
noncomputable def r39(fu:Nat):Unit->DD (Int×Unit):=c39 fu
noncomputable def r40(fu:Nat):Unit->DD (Int×Unit):=c40 fu
noncomputable def r41(fu:Nat):Int×Unit->DD (Int×Unit):=c41 fu
noncomputable def r42(fu:Nat):Unit->DD (Int×Unit):=c42 fu
noncomputable def r19(fu:Nat):Unit->DD (Int×Int×Unit):=c19 fu
noncomputable def r18(fu:Nat):Unit->DD (Bool×Unit):=c18 fu
theorem e36(t:Str)(h0:0<=i)(h1:i<=s.length):∃b,r36 (t,()) s i=some ((b,()),i)/\(b=true->i+t.length<=s.length/\(cutL s i s.length).take t.length=t):=by
 have d:=zJI (s:=s) h0 h1 (zYf _);show∃b,outD s (cond (inS i (lenI s) s.length) (cond (ile (lenI t) (lenI (cutL s i (lenI s)))) (cond (inS 0 (lenI t) (cutL s i (lenI s)).length) (some (some (((s,(i,())),()),((seq (cutL (cutL s i (lenI s)) 0 (lenI t)) t),())))) none) (some (some (((s,(i,())),()),(false,()))))) none)=some ((b,()),i)/\_;rw[show lenI s=(s.length:Int)from rfl,show lenI t=(t.length:Int)from rfl,zCK h0 h1 (zYf _),zWQ];by_cases h:(t.length:Int)<=lenI (cutL s i (s.length:Int))
 .have h':(t.length:Int)<=((cutL s i (s.length:Int)).length:Int):=h;rw[show ile (t.length:Int) (lenI (cutL s i (s.length:Int)))=true from zWm h,zWQ,zCK (by omega) (by omega) h',zWQ];refine⟨_,if_pos rfl,λe=>⟨by omega,?_⟩⟩;rw[zBg]at e;have c:=zXA e;rw[zTG]at c;exact c
 .rw[show ile (t.length:Int) (lenI (cutL s i (s.length:Int)))=false from zWz h,zWH];exact⟨false,if_pos rfl,λe=>by cases e⟩
def zAd(z:Int):Prop:=z=95\/(97<=z/\z<=122)\/(65<=z/\z<=90)
def RdQ(s:Str)(i:Int)(P:Int->Prop)(y:(RdT×Unit)×(Int×Unit)):Prop:=y.1.1.1=s/\y.1.1.2.1=i/\P y.2.1
theorem zGp{P:Int->Prop}{o:Option (Option ((RdT×Unit)×(Int×Unit)))}(h:TT o (RdQ s i P)):∃n,outD s o=some ((n,()),i)/\P n:=by
 obtain⟨⟨⟨⟨d,e,u⟩,j⟩,⟨n,l⟩⟩,rfl,h1,c,g⟩:=h;replace h1:d=s:=h1;replace c:e=i:=c;subst h1 c;exact⟨n,if_pos rfl,g⟩
end
section
variable{s:Str}{i:Int}{fu:Nat}(hs:s.length<=1090000)(hfu:s.length+100<fu)(h0:0<=i)(h1:i<=s.length)
include hs hfu h0 h1
theorem e39:∃n,r39 fu () s i=some ((n,()),i)/\0<=n/\i+n<=s.length/\(0<n->zAd (xU s i)):=by
 refine zGp (o:=sh39 fu c35 ((s,(i,())),()) ()) (P:=λn=>0<=n/\i+n<=s.length/\(0<n->zAd (xU s i))) ?_;unfold sh39;refine zGh (λst=>∃k:Int,st=((k,()),((s,(i,())),()))/\0<=k/\i+k<=s.length/\(0<k->zAd (xU s i))) (λst=>((s.length:Int)-st.1.1).toNat) ?_ fu _ ⟨0,rfl,by omega,by omega,λh=>by omega⟩ (by dsimp only;omega);rintro rec st ⟨k,rfl,g,j,c⟩ d;dsimp only;refine yp (e35 (by omega) (by omega) (by omega)) ?_;dsimp only;have go:xU s (i+k)≠0->(k=0->zAd (xU s (i+k)))->TT (rec ((iadd .i64 k 1,()),((s,(i,())),()))) (RdQ s i λn=>0<=n/\i+n<=s.length/\(0<n->zAd (xU s i))):=λe m=>by
  have q:=zCQ e;have p:iadd .i64 k 1=k+1:=xK _ _ (by omega) (by omega);rw[p];refine d _ ⟨k+1,rfl,by omega,by omega,λ_=>?_⟩ (by dsimp only;omega);by_cases l:k=0
  .have:=m l;rw[l,Int.add_zero]at this;exact this
  .exact c (by omega)
 have stop:TT (some (some (((s,(i,())),()),(k,())))) (RdQ s i λn=>0<=n/\i+n<=s.length/\(0<n->zAd (xU s i))):=xY ⟨rfl,rfl,g,j,c⟩
 repeat' (first
  |exact stop
  |exact go (by omega) (λ_=>by unfold zAd;omega)
  |exact go (by omega) (λ_=>by omega)
  |(refine zAi (λ_=>?_) λ_=>?_)
  |(refine zI9 (λ_=>?_) λ_=>?_)
  |(refine kP (λ_=>?_) λ_=>?_)
  |(refine yp (e35 (by omega) (by omega) (by omega)) ?_;dsimp only))
theorem e40:∃n,r40 fu () s i=some ((n,()),i)/\0<=n/\i+n<=s.length:=by
 refine zGp (o:=sh40 fu c37 c35 ((s,(i,())),()) ()) (P:=λn=>0<=n/\i+n<=s.length) ?_;unfold sh40;dsimp only;have zero:TT (some (some (((s,(i,())),()),((0:Int),())))) (RdQ s i λn=>0<=n/\i+n<=s.length):=xY ⟨rfl,rfl,by show(0:Int)<=0;omega,by show i+0<=s.length;omega⟩
 repeat' (first
  |exact zero
  |(refine zAi (λ_=>?_) λ_=>?_)
  |(refine zQ4 (λ_=>?_) λ_=>?_)
  |(refine zI9 (λ_=>?_) λ_=>?_)
  |(refine zVm (λ_=>?_) λ_=>?_)
  |(refine yp (e35 (by omega) (by omega) (by omega)) ?_;dsimp only))
 all_goals
  have d:xU s (i+0)≠0:=by omega
  have m:=zCQ d;refine zGh (λst=>∃k:Int,st=((k,()),((s,(i,())),()))/\0<=k/\i+k<=s.length) (λst=>((s.length:Int)-st.1.1).toNat) ?_ fu _ ⟨1,rfl,by omega,by omega⟩ (by dsimp only;omega);rintro rec st ⟨k,rfl,g,h⟩ c;dsimp only;have p:iadd .i64 k 1=k+1:=xK _ _ (by omega) (by omega);have q:iadd .i64 k 2=k+2:=xK _ _ (by omega) (by omega);rw[p,q];refine yp (e35 (by omega) (by omega) (by omega)) ?_;dsimp only;refine yp (e35 (by omega) (by omega) (by omega)) ?_;dsimp only;refine yp (show c37 _=some (_,())from rfl) ?_;dsimp only;have j:xU s (i+k)≠0->TT (rec ((k+1,()),((s,(i,())),()))) (RdQ s i λn=>0<=n/\i+n<=s.length):=λe=>by
   have r:=zCQ e;exact c _ ⟨k+1,rfl,by omega,by omega⟩ (by dsimp only;omega)
  have l:xU s (i+(k+1))≠0->TT (rec ((k+2,()),((s,(i,())),()))) (RdQ s i λn=>0<=n/\i+n<=s.length):=λe=>by
   have r:=zCQ e;exact c _ ⟨k+2,rfl,by omega,by omega⟩ (by dsimp only;omega)
  have stop:TT (some (some (((s,(i,())),()),(k,())))) (RdQ s i λn=>0<=n/\i+n<=s.length):=xY ⟨rfl,rfl,g,h⟩
  repeat' (first
   |exact stop
   |exact j (by omega)
   |exact l (by omega)
   |(refine zAi (λ_=>?_) λ_=>?_)
   |(refine zI9 (λ_=>?_) λ_=>?_)
   |(refine kP (λ_=>?_) λ_=>?_))
theorem e41(c:Int):∃n,r41 fu (c,()) s i=some ((n,()),i)/\0<=n/\i+n<=s.length:=by
 refine zGp (o:=sh41 fu c35 ((s,(i,())),()) (c,())) (P:=λn=>0<=n/\i+n<=s.length) ?_;unfold sh41;have zero:TT (some (some (((s,(i,())),()),((0:Int),())))) (RdQ s i λn=>0<=n/\i+n<=s.length):=xY ⟨rfl,rfl,by show(0:Int)<=0;omega,by show i+0<=s.length;omega⟩;dsimp only;refine zAi (λ_=>zero) λe=>?_;replace e:i≠(s.length:Int):=e;refine yp (e35 (by omega) (by omega) (by omega)) ?_;dsimp only;refine zQ4 (λ_=>zero) λ_=>?_;refine zGh (λst=>∃k:Int,st=((k,()),((s,(i,())),()))/\0<=k/\i+k<=s.length+2) (λst=>((s.length:Int)+2-st.1.1).toNat) ?_ fu _ ⟨1,rfl,by omega,by omega⟩ (by dsimp only;omega);rintro rec st ⟨k,rfl,l,m⟩ d;dsimp only;have p:iadd .i64 k 1=k+1:=xK _ _ (by omega) (by omega);have q:iadd .i64 (k+1) 1=k+1+1:=xK _ _ (by omega) (by omega);have r:iadd .i64 i k=i+k:=xK _ _ (by omega) (by omega);have u:iadd .i64 i (k+1)=i+(k+1):=xK _ _ (by omega) (by omega);rw[p,q,r,u];refine kP (λg=>?_) λ_=>zero;replace g:i+k<(s.length:Int):=g;refine yp (e35 (by omega) (by omega) (by omega)) ?_;dsimp only;have h:TT (rec ((k+1,()),((s,(i,())),()))) (RdQ s i λn=>0<=n/\i+n<=s.length):=d _ ⟨k+1,rfl,by omega,by omega⟩ (by dsimp only;omega);have j:TT (rec ((k+1+1,()),((s,(i,())),()))) (RdQ s i λn=>0<=n/\i+n<=s.length):=d _ ⟨k+1+1,rfl,by omega,by omega⟩ (by dsimp only;omega);have stop:TT (some (some (((s,(i,())),()),(k+1,())))) (RdQ s i λn=>0<=n/\i+n<=s.length):=xY ⟨rfl,rfl,by show 0<=k+1;omega,by show i+(k+1)<=s.length;omega⟩
 repeat' (first
  |exact zero
  |exact stop
  |exact h
  |exact j
  |(refine zAi (λ_=>?_) λ_=>?_)
  |(refine kP (λ_=>?_) λ_=>?_)
  |(refine yp (e35 (by omega) (by omega) (by omega)) ?_;dsimp only))
theorem e42:∃n,r42 fu () s i=some ((n,()),i)/\0<=n/\i+n<=s.length:=by
 refine zGp (o:=sh42 fu c36 ((s,(i,())),()) ()) (P:=λn=>0<=n/\i+n<=s.length) ?_;unfold sh42;refine zGh (λst=>∃n k:Int,st=((n,(k,())),((s,(i,())),()))/\0<=k/\k<=48/\0<=n/\i+n<=s.length) (λst=>(48-st.1.2.1).toNat) ?_ fu _ ⟨0,0,rfl,by omega,by omega,by omega,by omega⟩ (by dsimp only;omega);rintro rec st ⟨n,k,rfl,g,j,d,e⟩ c;dsimp only;refine kP (λh=>?_) λ_=>xY ⟨rfl,rfl,d,e⟩;refine zJZ (yJ g h) ?_;have l:iadd .i64 k 1=k+1:=xK _ _ (by omega) (by omega);rw[l];generalize List.getD _ (Int.toNat k) []=w;refine zI9 (λ_=>?_) λ_=>?_
 .exact c _ ⟨n,k+1,rfl,by omega,by omega,d,e⟩ (by dsimp only;omega)
 .obtain⟨b,m,p⟩:=e36 (s:=s) (i:=i) w h0 h1;refine yp m ?_;dsimp only;refine zRa (λ_=>?_) λq=>?_
  .exact c _ ⟨n,k+1,rfl,by omega,by omega,d,e⟩ (by dsimp only;omega)
  .exact c _ ⟨(w.length:Int),k+1,rfl,by omega,by omega,by omega,(p q).1⟩ (by dsimp only;omega)
theorem e19(hi:i<s.length):∃k n,r19 fu () s i=some ((k,(n,())),i)/\0<n/\i+n<=s.length/\(k=1->zAd (xU s i)):=by
 obtain⟨G,f1,H⟩:=e36 (s:=s) (i:=i) [10] h0 h1;obtain⟨I,r,J,v,w⟩:=e39 hs hfu h0 h1;obtain⟨K,x,L,z⟩:=e40 hs hfu h0 h1;obtain⟨M,c,A,d⟩:=e41 hs hfu h0 h1 34;obtain⟨N,g,B,j⟩:=e41 hs hfu h0 h1 39;obtain⟨O,l,C,m⟩:=e42 hs hfu h0 h1
 suffices h:TT (sh19 fu c36 (c39 fu) (c40 fu) (c41 fu) (c42 fu) ((s,(i,())),()) ()) (λy=>y.1.1.1=s/\y.1.1.2.1=i/\0<y.2.2.1/\i+y.2.2.1<=s.length/\(y.2.1=1->zAd (xU s i)))by
  obtain⟨⟨⟨⟨q,D,u⟩,P⟩,⟨k,n,R⟩⟩,E,o,p,F⟩:=h;replace o:q=s:=o;replace p:D=i:=p;subst o p;refine⟨k,n,?_,F⟩;show outD q _=_;rw[E];exact if_pos rfl
 unfold sh19;refine yp f1 ?_;dsimp only;refine zN0 (λe=>xY ⟨rfl,rfl,by show(0:Int)<1;omega,by show i+1<=s.length;omega,λe=>by cases e⟩) λ_=>?_;refine yp r ?_;dsimp only;refine kP (λe=>xY ⟨rfl,rfl,e,v,λ_=>w e⟩) λ_=>?_;refine yp x ?_;dsimp only;refine kP (λe=>xY ⟨rfl,rfl,e,z,λe=>by cases e⟩) λ_=>?_;refine yp c ?_;dsimp only;refine kP (λe=>xY ⟨rfl,rfl,e,d,λe=>by cases e⟩) λ_=>?_;refine yp g ?_;dsimp only;refine kP (λe=>xY ⟨rfl,rfl,e,j,λe=>by cases e⟩) λ_=>?_;refine yp l ?_;dsimp only;refine kP (λe=>xY ⟨rfl,rfl,e,m,λe=>by cases e⟩) λ_=>xY ⟨rfl,rfl,by show(0:Int)<1;omega,by show i+1<=s.length;omega,λe=>by cases e⟩
end
end
section
open Go.Al Go.Den
section
variable{ρ α:Type}{r t f:Option ρ}{a b:Int}
theorem Q_ile(c:a<=b->t=r)(d:b<a->f=r):cond (ile a b) t f=r:=by
 unfold ile;by_cases h:a<=b
 .rw[zWm h];exact c h
 .rw[zWz h];exact d (by omega)
theorem jS(c:a<b->t=r)(d:b<=a->f=r):cond (ilt a b) t f=r:=by
 unfold ilt;by_cases h:a<b
 .rw[zWm h];exact c h
 .rw[zWz h];exact d (by omega)
theorem zB3(c:a=b->t=r)(d:a≠b->f=r):cond (ieq a b) t f=r:=by
 rw[zBl];by_cases h:a=b
 .rw[zWm h];exact c h
 .rw[zWz h];exact d h
theorem zPG(c:a≠b->t=r)(d:a=b->f=r):cond (ine a b) t f=r:=by
 rw[zEV];by_cases h:a=b
 .rw[zWm h];exact d h
 .rw[zWz h];exact c h
theorem zD9{c:Bool}(d:c=true->t=r)(e:c=false->f=r):cond c t f=r:=by
 cases c
 .exact e rfl
 .exact d rfl
theorem Q_not{c:Bool}(d:c=false->t=r)(e:c=true->f=r):cond (!c) t f=r:=by
 cases c
 .exact d rfl
 .exact e rfl
theorem zH{c:Bool}(h:c=true)(d:t=r):cond c t f=r:=by rw[h];exact d
theorem zl{c:Bool}(h:c=false)(d:f=r):cond c t f=r:=by rw[h];exact d
theorem yA{x:Option α}{v:α}{F:α->Option ρ}(h:x=some v)(c:F v=r):Option.bind x F=r:=by subst h;exact c
end
theorem ile_t{a b:Int}(h:a<=b):ile a b=true:=zWm h
theorem zAm{a b:Int}(h:a<b):ilt a b=true:=zWm h
theorem zCn{a b:Int}(h:b<=a):ilt a b=false:=zWz (by omega)
theorem zPz{a b:Int}(h:a=b):ieq a b=true:=by rw[zBl];exact zWm h
theorem ieq_f{a b:Int}(h:a≠b):ieq a b=false:=by rw[zBl];exact zWz h
theorem zP3{a b:Int}(h:a≠b):ine a b=true:=by rw[zEV,zWz h];rfl
theorem zCZ{a b:Int}(h:a=b):ine a b=false:=by rw[zEV,zWm h];rfl
theorem zCM{α:Type}(l:List α):zL l.length l=l:=zW6
theorem zAF{α:Type}{n:Nat}{l:List α}(h:l.length=n):zL n l=l:=by unfold zL;exact zXM (by omega)
theorem qJ{a b:Nat}(h:a=b):eqN a b=true:=by subst h;unfold eqN;simp
theorem zEx{a b:Nat}(h:a<b):Nat.blt a b=true:=by simp[zYH,h]
theorem zE8{a b:Nat}(h:a<=b):Nat.ble a b=true:=zYN h
theorem i1{k:Nat}(c:k<=2000000):iadd .i64 (k:Int) 1=((k+1:Nat):Int):=by rw[xK _ _ (by omega) (by omega)];omega
theorem zEr{n:Nat}(h:n<=100000):okN 88 n=true:=zA5 (by omega) (by simp only[maxLen];omega)
theorem qH{α:Type}{l:List α}{k:Nat}{d:α}(h:k<l.length):l.getD k d=l[k]:=by rw[zWk,zWX h];rfl
theorem xT{α:Type}{l:List α}{k:Nat}(h:k<l.length):l.take (k+1)=l.take k++[l[k]]:=zYh h
def tkO(t:TokT):TkT:=⟨t.kind,t.text,t.file,t.ffrom,t.fto,t.blank,[],false,false⟩
theorem c80_m(m:MacT)(d:m.func=false)(k:Int)(c:0<=k):c80 (m,k,())=some (-1,()):=by
 show sh80 0 (λ_=>false) m k=some (-1,());unfold sh80;refine zl (zCn c) ?_;refine Q_ile (λ_=>rfl) λh=>?_;refine zH (yJ c h) ?_;refine zPG (λ_=>rfl) λ_=>?_;rw[d];rfl
theorem c82_m(m:MacT)(c:m.func=false)(k:Int):c82 (m,k,())=some (false,()):=by
 show sh82 0 c80 (λ_=>false) m k=some (false,());unfold sh82;rw[c];rfl
theorem c74_eq(fu:Nat)(m:MacT)(n:m.func=false)(p:∀t∈m.body.2,¬(t.kind=5/\t.text=[35,35]))(u:m.body.2.length<=4000)(q:5000<fu) :
 c74 fu (m,[],[],())=some (m.body.2.map tkO,()):=by
 show sh74 fu (c23 fu) c80 c82 (λ_=>false) m [] []=some (m.body.2.map tkO,());unfold sh74;refine xy (λst=>∃k:Nat,st=((((m.body.2.take k).map tkO,((k:Int),())),((m.name,(m.func,(m.params,(m.variadic,((m.body.1,m.body.2),()))))),())):(List TkT×(Int×Unit))×((Str×(Bool×(List Str×(Bool×((Bool×List TokT)×Unit)))))×Unit))/\k<=m.body.2.length) (λst=>m.body.2.length-st.1.2.1.toNat) ?_ fu _ ⟨0,rfl,Nat.zero_le _⟩ (by show m.body.2.length-(0:Int).toNat<fu;omega);rintro rec st ⟨k,rfl,v⟩ d;dsimp only;refine jS (λh=>?_) λh=>?_
 rotate_left
 .have e:k=m.body.2.length:=by have:(m.body.2.length:Int)<=(k:Int):=h;omega
  rw[e,zW6]
 have c:k<m.body.2.length:=by have:(k:Int)<(m.body.2.length:Int):=h;omega
 refine zH (yJ (by omega) (by omega)) ?_;refine yA (c80_m _ n _ (by omega)) ?_;refine yA (c82_m _ n _) ?_;rw[zYM,qH c];have g:=p _ (zXZ c);generalize s:m.body.2[k]=t at g;have i:rec (((m.body.2.take k).map tkO++[tkO t],(((k+1:Nat):Int),())),((m.name,(m.func,(m.params,(m.variadic,((m.body.1,m.body.2),()))))),()))=some (m.body.2.map tkO,()):=by
  refine d _ ⟨k+1,?_,c⟩ (by dsimp only;omega);rw[xT c,s,List.map_append];rfl
 have j:okN 88 (((m.body.2.take k).map tkO).length+1)=true:=zEr (by rw[List.length_map,List.length_take];omega);rw[i1 (k:=k) (by omega)];have hi:ile 0 (-1)=false:=rfl;dsimp only;simp only[cond_false,hi];refine zB3 (λo=>?_) λo=>?_
 .refine zD9 (λl=>?_) λl=>?_
  .exact absurd ⟨o,by rw[zBg]at l;exact zXA l⟩ g
  .exact zH j i
 .exact zH j i
end
section
open Go.Al Go.Den
theorem zJy{β:Type}{v:β}{o:Option (Option (Unit×β))}(h:o=some (some ((),v))):outF o=some v:=by rw[h];rfl
def oR{α:Type}:List α->Option (List α)
 |[]=>none
 |l=>some l
theorem zBi{α:Type}{l:List α}(h:l≠[]):oR l=some l:=by cases l<;>first|rfl|exact absurd rfl h
theorem c73_eq(fu:Nat)(l:List TkT)(m:∀t∈l,t.op=false)(s:l.length<=4000)(o:5000<fu) :
 c73 fu (l,())=some (oR l,(0:Int),()):=by
 refine zJy ?_;show sh73 fu () (l,())=(some (some ((),(oR l,0,()))):Option (Option (Unit×(Option (List TkT)×Int×Unit))));unfold sh73;refine xy (λst=>∃k:Nat,st=(((oR (l.take k),((k:Int),())),()):(Option (List TkT)×(Int×Unit))×Unit)/\k<=l.length) (λst=>l.length-st.1.2.1.toNat) ?_ fu _ ⟨0,rfl,Nat.zero_le _⟩ (by show l.length-(0:Int).toNat<fu;omega);rintro rec st ⟨k,rfl,p⟩ g;dsimp only;have d:∀y:List TkT,(b:k<l.length)->y=l.take k++[l[k]]->rec ((some y,(((k+1:Nat):Int),())),())=(some (some ((),(oR l,0,()))):Option (Option (Unit×(Option (List TkT)×Int×Unit)))):=λy b q=>by
  refine g _ ⟨k+1,?_,b⟩ (by dsimp only;omega);rw[xT b,zBi (List.append_ne_nil_of_right_ne_nil _ (List.cons_ne_nil _ _)),q]
 by_cases i:k=0
 .subst i;show z8 none _ _=_;dsimp only[z8];refine jS (λh=>?_) λh=>?_
  rotate_left
  .have e:l=[]:=zYc.1 (by have:(l.length:Int)<=((0:Nat):Int):=h;omega);subst e;rfl
  have b:0<l.length:=by have:((0:Nat):Int)<(l.length:Int):=h;omega
  refine zH (yJ (by omega) (by omega)) ?_;rw[zYM,qH b];refine zH (by rw[m _ (zXZ b)];rfl) ?_;refine zH (yJ (by omega) (by omega)) (zH (zEr (by simp)) (zH (qJ rfl) ?_));rw[i1 (by omega)];exact d _ b rfl
 .have c:l.take k≠[]\/l=[]:=by
   cases l with
   |nil=>exact .inr rfl
   |cons a r=>cases k with
    |zero=>exact absurd rfl i
    |succ k=>exact .inl (by simp)
  rcases c with c|c
  rotate_left
  .subst c;simp only[zWI]at p;omega
  rw[zBi c];dsimp only[z8];have f:(l.take k).length=k:=by rw[List.length_take];omega
  refine jS (λh=>?_) λh=>?_
  rotate_left
  .have e:k=l.length:=by have:(l.length:Int)<=(k:Int):=h;omega
   rw[e,zW6];refine zH (qJ rfl) ?_;have j:l≠[]:=by rw[e,zW6]at c;exact c
   rw[zBi j]
  have b:k<l.length:=by have:(k:Int)<(l.length:Int):=h;omega
  refine zH (yJ (by omega) (by omega)) ?_;rw[zYM,qH b];refine zH (by rw[m _ (zXZ b)];rfl) ?_;refine zH (yJ (by omega) (by omega)) ?_;rw[f];have n:zL (k+[TkT.mk (TkT.kind l[k]) (TkT.text l[k]) (TkT.file l[k]) (TkT.ffrom l[k]) (TkT.fto l[k]) (TkT.blank l[k]) (TkT.hide l[k]) (TkT.mark l[k]) (TkT.op l[k])].length) (List.take k (l.take k)++[TkT.mk (TkT.kind l[k]) (TkT.text l[k]) (TkT.file l[k]) (TkT.ffrom l[k]) (TkT.fto l[k]) (TkT.blank l[k]) (TkT.hide l[k]) (TkT.mark l[k]) (TkT.op l[k])])=l.take k++[l[k]]:=by
   rw[zX0,Nat.min_self];exact zAF (by rw[zWD,f])
  refine zH (by rw[zE8 (zV7 _),zEr (by simp only[zWC,zWI];omega)];rfl) (zH (qJ (by rw[n,zWD,f])) ?_);rw[i1 (by omega),n];exact d _ b rfl
theorem c75_eq(fu:Nat)(l:List TkT)(c:∀t∈l,t.mark=false)(e:l.length<=4000)(d:5000<fu) :
 c75 fu (some l,(),())=some (some l,()):=by
 refine zJy ?_;show sh75 fu () (some l,((),()))=(some (some ((),(some l,()))):Option (Option (Unit×(Option (List TkT)×Unit))));unfold sh75;dsimp only[z8];rw[zCM];refine zH (qJ rfl) ?_;refine xy (λst=>∃k:Nat,st=((((k:Int),()),(some l,())):(Int×Unit)×(Option (List TkT)×Unit))/\k<=l.length) (λst=>l.length-st.1.1.toNat) ?_ fu _ ⟨0,rfl,Nat.zero_le _⟩ (by show l.length-(0:Int).toNat<fu;omega);rintro rec st ⟨k,rfl,f⟩ b;dsimp only;rw[zCM];have e0:Int.ofNat l.length=((l.length:Nat):Int):=rfl;rw[e0];refine jS (λh=>?_) λh=>?_
 rotate_left
 .exact zH (zPz rfl) (zH (qJ rfl) rfl)
 have a:k<l.length:=by omega
 refine zH (yJ (by omega) (by omega)) (zH (zEx (by rw[Int.toNat_natCast];exact a)) ?_);rw[Int.toNat_natCast,qH a];refine zl (c _ (List.getElem_mem a)) (zH (qJ rfl) ?_);rw[i1 (by omega)];exact b _ ⟨k+1,rfl,a⟩ (by dsimp only;omega)
theorem zVM(fu:Nat)(n:Str):c77 (fu+10) ([],[n],())=some ([n],()):=by kernel_rfl
theorem zUb:c78 ([],())=some ([],()):=by kernel_rfl
def tkH(n:Str)(t:TkT):TkT:=⟨t.kind,t.text,t.file,t.ffrom,t.fto,t.blank,[n],t.mark,false⟩
def hid(n:Str)(y:List TkT)(k:Nat):List TkT:=(y.take k).map (tkH n)++y.drop k
theorem zGz(n:Str)(y:List TkT)(k:Nat):(hid n y k).length=y.length:=by
 unfold hid;rw[zWD,zWG,zWT,zXL];omega
theorem zVU(n:Str)(y:List TkT){k:Nat}(h:k<y.length):(hid n y k).getD k tkD=y[k]:=by
 unfold hid;have a:((y.take k).map (tkH n)).length=k:=by rw[zWG,zWT];omega
 rw[zWk,zX5 (by omega),a,zY7,zXG];rw[zW0,zWX h];rfl
theorem zU7(n:Str)(y:List TkT){k:Nat}(h:k<y.length):(hid n y k).set k (tkH n y[k])=hid n y (k+1):=by
 unfold hid;have a:((y.take k).map (tkH n)).length=k:=by rw[zWG,zWT];omega
 rw[zZJ _ _ (by omega),a,zY7,zWn h,zYs,xT h,zWy,zXT];rfl
theorem zTF{α:Type}(y:List α){k:Nat}(x d:α)(h:k<y.length):(y.set k x).getD k d=x:=by
 rw[zWk,List.getElem?_set_self h];rfl
theorem zER{β:Type}{v:β}{a:MapM}{n:Int}{o:Option (Option ((WoT×Unit)×β))}(h:o=some (some (((a,n,()),()),v))):outW o=some (v,a,n):=by rw[h];rfl
theorem zCk{α β:Type}(x:α)(a:β)(f:α->β):z8 (some x) a f=f x:=rfl
set_option maxHeartbeats 1000000 in
theorem c63_eq(fu:Nat)(m:MacT)(u:m.func=false)(w:∀t∈m.body.2,¬(t.kind=5/\t.text=[35,35]))(r:m.body.2≠[])(z:m.body.2.length<=3000)(A:6000<fu)(c:MapM)(n:Int) :
 c63 fu (m,[],[],()) c n=some ((some (m.body.2.map λt=>tkH m.name (tkO t)),(0:Int),()),c,n):=by
 refine zER ?_;show sh63 fu (c74 fu) (c77 fu) c78 c72 (c73 fu) (c75 fu) ((c,n,()),()) (m,[],[],())=(some (some (((c,n,()),()),(some (m.body.2.map λt=>tkH m.name (tkO t)),(0:Int),()))):Option (Option ((WoT×Unit)×(Option (List TkT)×Int×Unit))));unfold sh63;dsimp only;refine yA (v:=(((false,[]),(0:Int),()),c,n)) rfl ?_;dsimp only;refine zl (zCZ rfl) ?_;refine yA (c74_eq fu m u w (by omega) (by omega)) ?_;have b:m.body.2.map tkO≠[]:=λh=>r (List.map_eq_nil_iff.1 h);have f:∀t∈m.body.2.map tkO,t.op=false:=λt g=>by obtain⟨x,_,rfl⟩:=List.mem_map.1 g;rfl
 have i:∀t∈m.body.2.map tkO,t.mark=false:=λt g=>by obtain⟨x,_,rfl⟩:=zWa.1 g;rfl
 have j:∀t∈m.body.2.map tkO,t.hide=[]:=λt g=>by obtain⟨x,_,rfl⟩:=zWa.1 g;rfl
 have s:(m.body.2.map tkO).length<=3000:=by rw[zWG];exact z
 have l:m.body.2.map (λt=>tkH m.name (tkO t))=(m.body.2.map tkO).map (tkH m.name):=by rw[zXD];rfl
 rw[l];dsimp only;generalize m.body.2.map tkO=y at b f i j s ⊢;refine yA (c73_eq fu y f (by omega) (by omega)) ?_;dsimp only;rw[zBi b,zCk];refine zl (zCZ rfl) (zH (qJ rfl) ?_);refine yA (c75_eq fu y i (by omega) (by omega)) ?_;dsimp only;rw[zCk,zCM];refine zH (qJ rfl) ?_;obtain⟨d,o⟩:∃d,fu=d+10:=⟨fu-10,by omega⟩;refine xy (λst=>∃k:Nat,st=((((k:Int),()),((c,(n,())),((m.name,(m.func,(m.params,(m.variadic,((m.body.1,m.body.2),()))))),(some (hid m.name y k),())))):(Int×Unit)×((MapM×(Int×Unit))×((Str×(Bool×(List Str×(Bool×((Bool×List TokT)×Unit)))))×(Option (List TkT)×Unit))))/\k<=y.length) (λst=>y.length-st.1.1.toNat) ?_ fu _ ⟨0,rfl,Nat.zero_le _⟩ (by show y.length-(0:Int).toNat<fu;omega);rintro rec st ⟨k,rfl,E⟩ p;dsimp only;rw[zCk];have e0:Int.ofNat y.length=((y.length:Nat):Int):=rfl;rw[e0];refine jS (λh=>?_) λh=>?_
 rotate_left
 .have e:k=y.length:=by omega
  refine zl (zCn (by omega)) (zH (qJ (zGz _ _ _).symm) ?_);subst e;have:hid m.name y y.length=y.map (tkH m.name):=by unfold hid;rw[zW6,zYQ,zWc]
  rw[this]
 have a:k<y.length:=by omega
 have q:=zGz m.name y k;refine zH (yJ (by omega) (by omega)) (zH (zEx (by rw[Int.toNat_natCast,q];exact a)) ?_);refine yA zUb (zH rfl (zH (zA5 (by simp) (by simp[maxLen])) ?_));rw[Int.toNat_natCast,zVU _ _ a];have B:=j _ (List.getElem_mem a);refine yA (v:=([m.name],())) (by rw[B,o];exact zVM d m.name) ?_;dsimp only;refine zH (yJ (by omega) (by omega)) (zH (zEx (by omega)) (zH (yJ (by omega) (by omega)) (zH (zEx (by rw[List.length_set];omega)) ?_)));rw[zTF _ _ _ (by omega),List.set_set];have C:=zU7 m.name y a;have D:zL y.length ((hid m.name y k).set k (tkH m.name y[k]))=hid m.name y (k+1):=by rw[C];exact zAF (zGz _ _ _)
 show(cond (eqN y.length (zL y.length ((hid m.name y k).set k (tkH m.name y[k]))).length) (rec ((iadd IntKind.i64 (k:Int) 1,()),(c,n,()),(m.name,m.func,m.params,m.variadic,(m.body.1,m.body.2),()),some (zL y.length ((hid m.name y k).set k (tkH m.name y[k]))),())) none)=_;rw[D,i1 (by omega)];refine zH (qJ (zGz _ _ _).symm) ?_;exact p _ ⟨k+1,rfl,a⟩ (by dsimp only;omega)
theorem c46_eq(fu:Nat)(m:MacT)(c:m.func=false)(f:∀t∈m.body.2,¬(t.kind=5/\t.text=[35,35]))(d:m.body.2≠[])(g:m.body.2.length<=3000)(e:6000<fu)(b:Bool)(t:TkT)(r:List TkT)(h:t.hide=[])(a:MapM)(n:Int)(k:0<=n)(l:n<1000) :
 c46 fu (m,(b,t::r),()) a n=some ((some (m.body.2.map λt=>tkH m.name (tkO t)),(0:Int),(0:Int),()),a,n+1):=by
 refine zER ?_;show sh46 fu (c63 fu) ((a,n,()),()) (m,(b,t::r),())=(some (some (((a,n+1,()),()),(some (m.body.2.map λt=>tkH m.name (tkO t)),(0:Int),(0:Int),()))):Option (Option ((WoT×Unit)×(Option (List TkT)×Int×Int×Unit))));unfold sh46;dsimp only[qU];refine zH (yJ (by omega) (by simp only[List.length_cons];omega)) (zl c (zl (ieq_f (by omega)) (zl c ?_)));have i:iadd .i64 n 1=n+1:=xK _ _ (by omega) (by omega);have j:TkT.hide (List.getD (t::r) 0 tkD)=[]:=h;rw[i,j];refine yA (c63_eq fu m c f d g e a (n+1)) ?_;dsimp only;rw[zCk];exact zH (qJ rfl) rfl
theorem zVX(fu:Nat)(c:Str)(ps:List Str)(d b:Bool)(a:MapM)(n:Int):c63 (fu+10) (⟨c,false,ps,d,(b,[])⟩,[],[],()) a n=some ((none,(0:Int),()),a,n):=by kernel_rfl
theorem zUH(fu:Nat)(m:MacT)(d:m.func=false)(e:m.body.2=[])(f:6000<fu)(b:Bool)(t:TkT)(r:List TkT)(g:t.hide=[])(c:MapM)(n:Int)(p:0<=n)(q:n<1000) :
 c46 fu (m,(b,t::r),()) c n=some ((none,(0:Int),(0:Int),()),c,n+1):=by
 refine zER ?_;show sh46 fu (c63 fu) ((c,n,()),()) (m,(b,t::r),())=(some (some (((c,n+1,()),()),(none,(0:Int),(0:Int),()))):Option (Option ((WoT×Unit)×(Option (List TkT)×Int×Int×Unit))));unfold sh46;dsimp only[qU];refine zH (yJ (by omega) (by simp only[List.length_cons];omega)) (zl d (zl (ieq_f (by omega)) (zl d ?_)));have h:iadd .i64 n 1=n+1:=xK _ _ (by omega) (by omega);have i:TkT.hide (List.getD (t::r) 0 tkD)=[]:=g;rw[h,i];obtain⟨j,k,ps,l,bd,o⟩:=m;obtain rfl:k=false:=d;obtain rfl:o=[]:=e;obtain⟨a,rfl⟩:∃a,fu=a+10:=⟨fu-10,by omega⟩;exact yA (zVX a j ps l bd c (n+1)) rfl
theorem zAC{α β:Type}{x:α}{a:β}{f:α->β}{r:β}(h:f x=r):z8 (some x) a f=r:=h
theorem zEb{α β:Type}{a:β}{f:α->β}{r:β}(h:a=r):z8 none a f=r:=h
theorem zRU{σ R:Type}{n:Nat}{F:(σ->Option R)->σ->Option R}{s:σ}{r:Option R}(h:F (iter n F) s=r):iter (n+1) F s=r:=h
def cat{α:Type}(L:List (Bool×List α))(k:Nat):List α:=((L.take k).map (·.2)).flatten
theorem zDJ{α:Type}{L:List (Bool×List α)}{k:Nat}(h:k<L.length):cat L (k+1)=cat L k++(L[k]).2:=by
 unfold cat;rw[xT h,zWy,List.flatten_append];simp
theorem zL8{α:Type}(L:List (Bool×List α))(k:Nat):(cat L k).length<=(cat L L.length).length:=by
 unfold cat;rw[zW6]
 conv=>rhs;rw[<-zZI k L,zWy,List.flatten_append,zWD]
 omega
theorem zQJ(fu:Nat)(L:List (Bool×List TkT))(x:L.length<=1000)(y:(cat L L.length).length<=50000)(f:cat L L.length≠[])(o:2000<fu) :
 c48 fu (L,())=some (cat L L.length,()):=by
 show(sh48 fu c64 (λ_=>false) L).or _=some (cat L L.length,())
 suffices h:sh48 fu c64 (λ_=>false) L=some (cat L L.length,())by rw[h];rfl
 unfold sh48;have l:0<(cat L L.length).length:=List.length_pos_iff.2 f;refine xy (λst=>∃k:Nat,st=(((((cat L k).length:Nat):Int),((k:Int),())),())/\k<=L.length) (λst=>L.length-st.1.2.1.toNat) ?_ fu _ ⟨0,rfl,Nat.zero_le _⟩ (by show L.length-(0:Int).toNat<fu;omega);rintro rec st ⟨k,rfl,p⟩ g;dsimp only;refine jS (λh=>?_) λh=>?_
 .have b:k<L.length:=by have:(k:Int)<(L.length:Int):=h;omega
  refine zH (yJ (by omega) (by omega)) ?_;rw[zYM,qH b];have m:=zL8 L k;have c:=zL8 L (k+1);rw[zDJ b,zWD]at c;have q:iadd .i64 (((cat L k).length:Nat):Int) (lenI (L[k]).2)=(((cat L (k+1)).length:Nat):Int):=by
   rw[zDJ b,zWD];exact zTI _ _ (by omega)
  rw[q,i1 (by omega)];refine zl (zCn (by omega)) ?_;exact g _ ⟨k+1,rfl,b⟩ (by dsimp only;omega)
 have e:k=L.length:=by have:(L.length:Int)<=(k:Int):=h;omega
 subst e;have j:c64 ([],((((cat L L.length).length:Nat):Int),()))=some (some [],()):=by
  show zEz (i:=.tk) _=_;unfold zEz;simp only[List.isEmpty_nil,zWj];have s:decide (0<=(((cat L L.length).length:Nat):Int))=true:=zWm (by omega);have t:decide ((((cat L L.length).length:Nat):Int)<=100000000)=true:=zWm (by omega);rw[s,t];have u:¬(((cat L L.length).length:Nat):Int)=0:=by omega
  rw[if_neg u];rfl
 refine yA j (zAC (zH rfl ?_));refine xy (λst=>∃k:Nat,st=(((some (cat L k),((k:Int),())),()):(Option (List TkT)×(Int×Unit))×Unit)/\k<=L.length) (λst=>L.length-st.1.2.1.toNat) ?_ fu _ ⟨0,rfl,Nat.zero_le _⟩ (by show L.length-(0:Int).toNat<fu;omega);rintro n v ⟨k,rfl,p⟩ d;refine zAC ?_;dsimp only;refine jS (λh=>?_) λh=>?_
 rotate_left
 .have e:k=L.length:=by have:(L.length:Int)<=(k:Int):=h;omega
  subst e;rw[zCM];refine zH (zE8 (zV7 _)) (zH ?_ rfl);cases m:cat L L.length with
  |nil=>exact absurd m f
  |cons a r=>rfl
 have b:k<L.length:=by have:(k:Int)<(L.length:Int):=h;omega
 refine zH (yJ (by omega) (by omega)) ?_;rw[zYM,qH b];have c:=zL8 L (k+1);rw[zDJ b,zWD]at c;have w:zL ((cat L k).length+(L[k]).2.length) (List.take (cat L k).length (cat L k)++(L[k]).2)=cat L (k+1):=by
  rw[zW6,zDJ b];exact zAF (by rw[zWD])
 rw[w,i1 (by omega)];refine zH (by rw[zE8 (Nat.le_refl _),zEr (by omega)];rfl) (zH (qJ (by rw[zDJ b,List.length_append])) ?_);exact d _ ⟨k+1,rfl,b⟩ (by dsimp only;omega)
theorem zUs(fu:Nat)(a b:Bool):c48 (fu+10) ([(a,[]),(b,[])],())=some ([],()):=by kernel_rfl
theorem c47_eq(fu:Nat)(x:TkT)(r:List TkT)(a:r.length<=50000):c47 fu ((false,x::r),())=some (some (x::r),()):=by
 refine zJy ?_;show sh47 fu () ((false,x::r),())=_;unfold sh47;refine zl rfl (zH (zEr (by simp only[zWC];omega)) (zH (qJ (by simp)) rfl))
end
section
open Go.Al Go.Den
theorem zUa(fu:Nat)(t:TkT)(s:Str)(h:t.hide=[s]):c44 (fu+10) (t,s,())=some (true,()):=by
 show sh44 (fu+10) (λ_=>false) t s=some (true,());unfold sh44;rw[h];refine zRU (zH rfl (zH rfl ?_));refine zH ?_ rfl;show seq s s=true;rw[zBg];exact zWm rfl
theorem zMF(fu:Nat)(t:TkT)(s:Str)(h:t.hide=[]):c44 (fu+10) (t,s,())=some (false,()):=by
 show sh44 (fu+10) (λ_=>false) t s=some (false,());unfold sh44;rw[h];exact zRU (zl rfl rfl)
theorem cut1{α:Type}(t:α)(r:List α):cutL (t::r) 1 (lenI (t::r))=r:=zMj (t::r) 1
abbrev ST:=((Bool×List TkT)×(List TkT×Unit))×((MapM×(Int×Unit))×Unit)
abbrev RT:=Option (((MapM×(Int×Unit))×Unit)×(List TkT×(Int×Unit)))
def Kp(a:MapM)(t:TkT):Prop:=t.kind≠1\/t.hide=[t.text]\/(t.hide=[]/\mcH a t.text=false)
def setB(b:Bool):List TkT->List TkT
 |[]=>[]
 |x::r=>⟨x.kind,x.text,x.file,x.ffrom,x.fto,b,x.hide,x.mark,x.op⟩::r
theorem jc(b:Bool)(l:List TkT):(setB b l).length=l.length:=by cases l<;>rfl
def cmX(m:MacT):List TkT:=m.body.2.map λt=>tkH m.name (tkO t)
structure S21(F:(ST->Option RT)->ST->Option RT):Prop where
 stop:∀rec b out ms n,F rec (((b,[]),(out,())),((ms,(n,())),()))=some (some (((ms,(n,())),()),(out,((0:Int),()))))
 keep:∀rec b t r out ms n,Kp ms t->out.length<4000->F rec (((b,t::r),(out,())),((ms,(n,())),()))=rec (((b,r),(out++[t],())),((ms,(n,())),()))
 rep:∀rec b t r out ms n m,t.kind=1->t.hide=[]->mcH ms t.text=true->mcV macD ms t.text=m->m.func=false->(∀t∈m.body.2,¬(t.kind=5/\t.text=[35,35]))->m.body.2≠[]->m.body.2.length<=3000->0<=n->n<1000->r.length<=10000 ->
  F rec (((b,t::r),(out,())),((ms,(n,())),()))=rec (((false,setB t.blank (cmX m)++r),(out,())),((ms,(n+1,())),()))
 rep0:∀rec t r out ms n m,t.kind=1->t.hide=[]->mcH ms t.text=true->mcV macD ms t.text=m->m.func=false->m.body.2=[]->t.blank=true->0<=n->n<1000->r.length<=10000 ->
  F rec (((false,t::r),(out,())),((ms,(n,())),()))=rec (((r.isEmpty,setB true r),(out,())),((ms,(n+1,())),()))
set_option maxHeartbeats 1000000 in
theorem zLs(fu:Nat)(L:7000<fu):∃F,S21 F/\∀b l j n,sh21 fu (c44 fu) (c48 fu) (c46 fu) (c47 fu) ((j,(n,())),()) ((b,l),())=iter fu F (((b,l),([],())),((j,(n,())),())):=by
 obtain⟨e,c⟩:∃e,fu=e+10:=⟨fu-10,by omega⟩;unfold sh21;refine⟨_,?_,λb l j n=>rfl⟩;refine⟨λrec b g j n=>?_,λrec b t r g j n k R=>?_,λrec b t r g j n m s u B C w M A J D o y=>?_,λrec t r g j n m s u B C w A E D o y=>?_⟩
 .dsimp only;exact zl rfl rfl
 .dsimp only;have g0:List.getD (t::r) 0 tkD=t:=rfl;rw[g0,cut1];have d:ilt 0 (lenI (t::r))=true:=zAm (by show(0:Int)<((t::r).length:Int);simp only[List.length_cons];omega);have p:okN 88 (g.length+[TkT.mk t.kind t.text t.file t.ffrom t.fto t.blank t.hide t.mark t.op].length)=true:=zEr (by simp only[List.length_cons,List.length_nil];omega);have i:ilt 4000 (lenI (g++[TkT.mk t.kind t.text t.file t.ffrom t.fto t.blank t.hide t.mark t.op]))=false:=zCn (by show((g++[_]).length:Int)<=4000;simp only[List.length_append,List.length_cons,List.length_nil];omega);have f:inS 1 (lenI (t::r)) (t::r).length=true:=zCK (by omega) (by show(1:Int)<=((t::r).length:Int);simp only[List.length_cons];omega) (Int.le_refl _);refine zH d (zH (yJ (by omega) (by simp only[List.length_cons];omega)) ?_);refine zPG (λ_=>zH p (zl i (zH f rfl))) λs=>?_;rcases k with k|k|⟨k,N⟩
  .exact absurd s k
  .refine yA (v:=(true,())) (by rw[c];exact zUa e t t.text k) ?_;exact zH rfl (zH p (zl i (zH f rfl)))
  .refine yA (v:=(false,())) (by rw[c];exact zMF e t t.text k) ?_;refine zl rfl (zH (by rw[N];rfl) ?_);exact zH p (zl i (zH f rfl))
 .dsimp only;have g0:List.getD (t::r) 0 tkD=t:=rfl;have d:ilt 0 (lenI (t::r))=true:=zAm (by show(0:Int)<((t::r).length:Int);simp only[List.length_cons];omega);rw[g0];refine zH d (zH (yJ (by omega) (by simp only[List.length_cons];omega)) (zl (zCZ s) ?_));refine yA (v:=(false,())) (by rw[c];exact zMF e t t.text u) ?_;rw[C];refine zl rfl (zl (by rw[B];rfl) (zl w ?_));refine yA (c46_eq fu m w M A J (by omega) b t r u j n D o) ?_;have G:cmX m≠[]:=λh=>A (List.map_eq_nil_iff.1 h);have z:(cmX m).length<=3000:=by unfold cmX;rw[List.length_map];exact J
  show z8 (some (cmX m)) _ _=_;refine zAC ?_;have H:iadd .i64 (0:Int) 1=1:=rfl;dsimp only;rw[H,cut1];have f:inS 1 (lenI (t::r)) (t::r).length=true:=zCK (by omega) (by show(1:Int)<=((t::r).length:Int);simp only[List.length_cons];omega) (Int.le_refl _);cases K:cmX m with
  |nil=>exact absurd K G
  |cons x xs=>
   rw[K]at z;simp only[zWC]at z;have O:(0:Int)<Int.ofNat (x::xs).length:=by show(0:Int)<(((x::xs).length:Nat):Int);simp only[zWC];omega
   refine zl (zCZ rfl) (zH f (zH (zAm O) (zH (yJ (by omega) (by simp only[zWC];omega)) (zH (zEx (by simp)) ?_))));have P:List.getD (x::xs) 0 tkD=x:=rfl;rw[P];have Q:(x::xs).set 0 (TkT.mk x.kind x.text x.file x.ffrom x.fto t.blank x.hide x.mark x.op)=setB t.blank (x::xs):=rfl;rw[Q];refine zH (zE8 (by rw[jc];exact zV7 _)) ?_;have I:zL (x::xs).length (setB t.blank (x::xs))=setB t.blank (x::xs):=zAF (jc _ _);rw[I];have q:cat [(false,setB t.blank (x::xs)),(b,r)] 2=setB t.blank (x::xs)++r:=by simp[cat]
   have a:=zQJ fu [(false,setB t.blank (x::xs)),(b,r)] (by simp) (by show(cat _ 2).length<=_;rw[q,zWD,jc];simp only[zWC];omega) (by show cat _ 2≠[];rw[q];exact List.append_ne_nil_of_left_ne_nil (List.cons_ne_nil _ _) _) (by omega);replace a:c48 fu ([(false,setB t.blank (x::xs)),(b,r)],())=some (cat [(false,setB t.blank (x::xs)),(b,r)] 2,()):=a;rw[q]at a;refine yA a ?_;rfl
 .dsimp only;have g0:List.getD (t::r) 0 tkD=t:=rfl;have d:ilt 0 (lenI (t::r))=true:=zAm (by show(0:Int)<((t::r).length:Int);simp only[List.length_cons];omega);rw[g0];refine zH d (zH (yJ (by omega) (by simp only[List.length_cons];omega)) (zl (zCZ s) ?_));refine yA (v:=(false,())) (by rw[c];exact zMF e t t.text u) ?_;rw[C];refine zl rfl (zl (by rw[B];rfl) (zl w ?_));refine yA (zUH fu m w A (by omega) false t r u j n D o) ?_;have H:iadd .i64 (0:Int) 1=1:=rfl;have f:inS 1 (lenI (t::r)) (t::r).length=true:=zCK (by omega) (by show(1:Int)<=((t::r).length:Int);simp only[List.length_cons];omega) (Int.le_refl _);dsimp only;refine zEb ?_;rw[H,cut1];refine zl (zCZ rfl) (zH f (zl rfl (zH E ?_)));cases r with
  |nil=>exact zl rfl (yA (by rw[c];exact zUs e true false) rfl)
  |cons x xs=>
   simp only[zWC]at y;refine zH (zAm (by show(0:Int)<(((x::xs).length:Nat):Int);simp only[zWC];omega)) ?_;refine yA (c47_eq fu x xs (by omega)) (zAC ?_);refine zH (yJ (by omega) (by simp only[zWC];omega)) (zH (zEx (by simp)) ?_);have I:zL (x::xs).length (setB true (x::xs))=setB true (x::xs):=zAF (jc _ _);rw[show((x::xs).set 0 (TkT.mk ((x::xs).getD 0 tkD).kind ((x::xs).getD 0 tkD).text ((x::xs).getD 0 tkD).file ((x::xs).getD 0 tkD).ffrom ((x::xs).getD 0 tkD).fto true ((x::xs).getD 0 tkD).hide ((x::xs).getD 0 tkD).mark ((x::xs).getD 0 tkD).op))=setB true (x::xs)from rfl,I];refine zH (zE8 (by rw[jc];exact zV7 _)) ?_;have q:cat [(true,[]),(false,setB true (x::xs))] 2=setB true (x::xs):=by simp[cat]
   have a:=zQJ fu [(true,[]),(false,setB true (x::xs))] (by simp) (by show(cat _ 2).length<=_;rw[q,jc];simp only[zWC];omega) (by show cat _ 2≠[];rw[q];exact List.cons_ne_nil _ _) (by omega);replace a:c48 fu ([(true,[]),(false,setB true (x::xs))],())=some (cat [(true,[]),(false,setB true (x::xs))] 2,()):=a;rw[q]at a;exact yA a rfl
theorem zOA{b:MapM}{v:Bool}{l:List TkT}(h:∀x∈l,Kp b x):∀x∈setB v l,Kp b x:=by
 cases l with
 |nil=>exact h
 |cons z c=>
  intro x a;rcases zWB.1 a with rfl|a
  .exact h z zWr
  .exact h x (zWU _ a)
theorem zOg{F:(ST->Option RT)->ST->Option RT}(l:S21 F)(fu:Nat)(s:9000<fu)(b m:Bool)(A C R:List TkT)(t:TkT)(d:MapM)(n:Int)(r:∀t∈A,Kp d t)(u:∀t∈R,Kp d t)(y:A.length+C.length<=3000)(v:A.length+R.length<=3000)
 (h:∀rec i,F rec (((b,t::C),(i,())),((d,(n,())),()))=rec (((m,R),(i,())),((d,(n+1,())),()))) :
 iter fu F (((b,A++t::C),([],())),((d,(n,())),()))=some (some (((d,(n+1,())),()),(A++R,((0:Int),())))):=by
 obtain⟨T,j⟩:∃T,T=A++R:=⟨_,rfl⟩;have w:T.length<=3000:=by rw[j,zWD];exact v
 have o:∀x∈T,Kp d x:=λx g=>by
  rw[j]at g;rcases zWe.1 g with g|g
  .exact r x g
  .exact u x g
 rw[<-j];refine xy (λst=>(∃k:Nat,st=((((b,A.drop k++t::C),(A.take k,())),((d,(n,())),())):ST)/\k<=A.length)\/∃k:Nat,st=((((m,T.drop k),(T.take k,())),((d,(n+1,())),())):ST)/\k<=T.length) (λst=>if st.2.1.2.1=n then 4000+st.1.1.2.length else st.1.1.2.length) ?_ fu _ (.inl ⟨0,rfl,zWd _⟩) (by show(if n=n then 4000+(A++t::C).length else _)<fu;rw[if_pos rfl,zWD,zWC];omega);have f:¬n+1=n:=by omega
 rintro rec st p c;rcases p with⟨k,rfl,q⟩|⟨k,rfl,q⟩
 .by_cases a:k<A.length
  .rw[zWn a,zWY,l.keep rec b _ _ _ _ _ (r _ (zXZ a)) (by rw[zWT];omega),<-xT a];refine c _ (.inl ⟨k+1,rfl,a⟩) ?_;show(if n=n then 4000+(A.drop (k+1)++t::C).length else _)<(if n=n then 4000+(A.drop k++t::C).length else _);rw[if_pos rfl,if_pos rfl,zWD,zWD,zXL,zXL];omega
  .have e:k=A.length:=by omega
   subst e;rw[zYQ,zW6,zWR,h];refine c _ (.inr ⟨A.length,?_,by rw[j,zWD];omega⟩) ?_
   .rw[j,List.drop_left,zYr]
   .show(if n+1=n then _ else R.length)<(if n=n then 4000+(A.drop A.length++t::C).length else _);rw[if_neg f,if_pos rfl,zWD];omega
 .by_cases a:k<T.length
  .rw[zWn a,l.keep rec m _ _ _ _ _ (o _ (zXZ a)) (by rw[zWT];omega),<-xT a];refine c _ (.inr ⟨k+1,rfl,a⟩) ?_;show(if n+1=n then _ else(T.drop (k+1)).length)<(if n+1=n then _ else(T.drop k).length);rw[if_neg f,if_neg f,zXL,zXL];omega
  .have e:k=T.length:=by omega
   subst e;rw[zYQ,zW6];exact l.stop _ _ _ _ _
theorem zVZ(fu:Nat)(d:9000<fu)(b:Bool)(A C:List TkT)(t:TkT)(a:MapM)(n:Int)(m:MacT)(i:∀t∈A,Kp a t)(j:∀t∈C,Kp a t)
 (k:t.kind=1) (l:t.hide=[]) (o:mcH a t.text=true) (p:mcV macD a t.text=m) (q:m.func=false) (r:∀t∈m.body.2,¬(t.kind=5/\t.text=[35,35])) (s:m.body.2≠[]) (B:A.length+m.body.2.length+C.length<=3000) (u:0<=n) (e:n<1000)
 (v:∀t∈m.body.2,t.kind≠1\/t.text=m.name) :
 c21 fu ((b,A++t::C),()) a n=some ((A++(setB t.blank (cmX m)++C),(0:Int),()),a,n+1):=by
 obtain⟨F,g,hi⟩:=zLs fu (by omega);refine zER ((hi b _ a n).trans ?_);have w:(setB t.blank (cmX m)++C).length=m.body.2.length+C.length:=by rw[zWD,jc];unfold cmX;rw[zWG]
 refine zOg g fu d b false A C _ t a n i (λx c=>?_) (by omega) (by omega) λrec f=>g.rep rec b t C f a n m k l o p q r s (by omega) u e (by omega);rcases zWe.1 c with c|c
 .refine zOA (λx c=>?_) x c;obtain⟨y,z,rfl⟩:=zWa.1 c;rcases v y z with h|h
  .exact .inl h
  .exact .inr (.inl (by show[m.name]=[y.text];rw[h]))
 .exact j x c
theorem zTR(fu:Nat)(b:9000<fu)(A C:List TkT)(t:TkT)(a:MapM)(n:Int)(m:MacT)(g:∀t∈A,Kp a t)(h:∀t∈C,Kp a t)
 (i:t.kind=1) (j:t.hide=[]) (k:mcH a t.text=true) (l:mcV macD a t.text=m) (o:m.func=false) (p:m.body.2=[]) (q:t.blank=true) (e:A.length+C.length<=3000) (r:0<=n) (c:n<1000) :
 c21 fu ((false,A++t::C),()) a n=some ((A++setB true C,(0:Int),()),a,n+1):=by
 obtain⟨F,f,hi⟩:=zLs fu (by omega);refine zER ((hi false _ a n).trans ?_);exact zOg f fu b false C.isEmpty A C _ t a n g (zOA h) e (by rw[jc];exact e) λrec d=>f.rep0 rec t C d a n m i j k l o p q r c (by omega)
end
section
open Go.Al Go.Den
def sh11(fu:Nat)(e:Nat->Bool)(b:LT)(c:LT):(Option (Bool×Unit)):=cond (ine (lenI b) (lenI c)) (some (false,())) (iter fu (λ(d:((Int×Unit)×Unit)->Option (Bool×Unit))(a:((Int×Unit)×Unit))=>cond (ilt a.1.1 (lenI b)) (cond (inB a.1.1 b.length) (cond (inB a.1.1 c.length) (cond (!(dEqs (U:=UU) [(T.int .i64 (List.getD b a.1.1.toNat tokD).kind),(T.str (List.getD b a.1.1.toNat tokD).text),(T.int .i64 (List.getD b a.1.1.toNat tokD).file),(T.int .i64 (List.getD b a.1.1.toNat tokD).ffrom),(T.int .i64 (List.getD b a.1.1.toNat tokD).fto),(T.bool (List.getD b a.1.1.toNat tokD).blank)] [(T.int .i64 (List.getD c a.1.1.toNat tokD).kind),(T.str (List.getD c a.1.1.toNat tokD).text),(T.int .i64 (List.getD c a.1.1.toNat tokD).file),(T.int .i64 (List.getD c a.1.1.toNat tokD).ffrom),(T.int .i64 (List.getD c a.1.1.toNat tokD).fto),(T.bool (List.getD c a.1.1.toNat tokD).blank)])) (some (false,())) (d (((iadd .i64 a.1.1 1),()),()))) (none)) (none)) (some (true,()))) ((0,()),()))
theorem eq11:@run11=@sh11:=by kernel_rfl
theorem con11(fu:Nat) :ConOk CC Tryz.prog 11 ⟨as11,rs11,λx=>sh11 fu (λ_=>false) x.1 x.2.1⟩:=
 rfk zD zD zD zD fdok11 rfl (ya rfl) (λa x=>by show run11 fu a x.1 x.2.1=_;rw[eq11];rfl)
end
section
open Go.Al Go.Den
theorem zLb:∀(s sub:List UInt8),0<=Lib.index s sub->Lib.index s sub+sub.length<=s.length
 |[],sub,h=>by
  unfold Lib.index at h ⊢;cases sub with
  |nil=>simp
  |cons a l=>simp at h
 |b::l,sub,h=>by
  unfold Lib.index at h ⊢;by_cases c:sub.isPrefixOf (b::l)=true
  .rw[if_pos c];have:=(List.isPrefixOf_iff_prefix.1 c).length_le;omega
  .rw[if_neg c]at h ⊢;by_cases h1:(Lib.index l sub==-1)=true
   .rw[if_pos h1]at h;omega
   .rw[if_neg h1]at h ⊢;have d:Lib.index l sub≠-1:=λe=>h1 (by rw[e];rfl);have f:=Lib.index_ge l sub;have g:=zLb l sub (by omega);simp only[zWC];omega
theorem zFn:∀(s:List UInt8)(c:UInt8),0<=Lib.indexByte s c->Lib.indexByte s c<s.length
 |[],c,h=>by unfold Lib.indexByte at h;omega
 |b::l,c,h=>by
  unfold Lib.indexByte at h ⊢;by_cases a:(b==c)=true
  .rw[if_pos a];simp only[zWC];omega
  .rw[if_neg a]at h ⊢;by_cases h1:(Lib.indexByte l c==-1)=true
   .rw[if_pos h1]at h;omega
   .rw[if_neg h1]at h ⊢;have d:Lib.indexByte l c≠-1:=λe=>h1 (by rw[e];rfl);have f:=Lib.indexByte_ge l c;have g:=zFn l c (by omega);simp only[zWC];omega
theorem zJL{s:List UInt8}{c:UInt8}(h:Lib.indexByte s c=0):s.head?=some c:=by
 cases s with
 |nil=>unfold Lib.indexByte at h;omega
 |cons b l=>
  unfold Lib.indexByte at h;by_cases a:(b==c)=true
  .have:=eq_of_beq a;rw[this];rfl
  .rw[if_neg a]at h;by_cases h1:(Lib.indexByte l c==-1)=true
   .rw[if_pos h1]at h;omega
   .rw[if_neg h1]at h;have d:Lib.indexByte l c≠-1:=λe=>h1 (by rw[e];rfl);have f:=Lib.indexByte_ge l c;omega
section
variable{s:Str}{i:Int}{fu:Nat}(hs:s.length<=1090000)(hfu:s.length+100<fu)(h0:0<=i)(h1:i<=s.length)
include hs hfu h0 h1
theorem e18:∃b j,r18 fu () s i=some ((b,()),j)/\i<=j/\j<=s.length/\(b=true->i<j):=by
 obtain⟨H,f1,B⟩:=e36 (s:=s) (i:=i) [47,47] h0 h1;obtain⟨b1,C,D⟩:=e36 (s:=s) (i:=i) [47,42] h0 h1
 suffices h:TT (sh18 fu c37 c38 c35 c36 ((s,(i,())),()) ()) (λy=>y.1.1.1=s/\i<=y.1.1.2.1/\y.1.1.2.1<=s.length/\(y.2.1=true->i<y.1.1.2.1))by
  obtain⟨⟨⟨⟨w,j,u⟩,I⟩,⟨b,J⟩⟩,E,n,F⟩:=h;replace n:w=s:=n;subst n;refine⟨b,j,?_,F⟩;show outD w _=_;rw[E];exact if_pos rfl
 unfold sh18;dsimp only[qU];have k:TT (Option.bind (c36 ([47,47],()) s i) λf=>
  cond f.1.1
   (cond (inS f.2 (lenI s) (List.length s))
    (Option.bind (c37 ((cutL s f.2 (lenI s)),(10,()))) λc=>
     cond (ilt c.1 0)
      (some (Option.some (((s,((iadd .i64 f.2 (isub .i64 (lenI s) f.2)),())),()),(true,()))))
      (some (Option.some (((s,((iadd .i64 f.2 c.1),())),()),(true,())))))
    (none))
   (Option.bind (c36 ([47,42],()) s f.2) λc=>
    cond (!c.1.1)
     (some (Option.some (((s,(c.2,())),()),(false,()))))
     (cond (inS (iadd .i64 c.2 2) (lenI s) (List.length s))
      (Option.bind (c38 ((cutL s (iadd .i64 c.2 2) (lenI s)),([42,47],()))) λx=>
       cond (ilt x.1 0)
        (some (Option.some (((s,(c.2,())),()),(false,()))))
        (some (Option.some (((s,((iadd .i64 c.2 (iadd .i64 x.1 4)),())),()),(true,())))))
      (none)))) (λy:(RdT×Unit)×(Bool×Unit)=>y.1.1.1=s/\i<=y.1.1.2.1/\y.1.1.2.1<=s.length/\(y.2.1=true->i<y.1.1.2.1)):=by
  refine yp f1 ?_;dsimp only;refine zN0 (λo=>?_) λ_=>?_
  .obtain⟨g,z⟩:=B o;replace g:i+2<=(s.length:Int):=g;refine zJZ (zCK h0 h1 (Int.le_refl _)) ?_;have m:=zJI (s:=s) h0 h1 (Int.le_refl _);refine yp (show c37 _=some (_,())from rfl) ?_;dsimp only;refine kP (λ_=>?_) λl=>?_
   .have p:isub .i64 (lenI s) i=(s.length:Int)-i:=zJp _ _ (by show _<=(s.length:Int)-i;omega) (by show(s.length:Int)-i<=_;omega);have q:iadd .i64 i ((s.length:Int)-i)=s.length:=by rw[xK _ _ (by omega) (by omega)];omega
    rw[p,q];exact xY ⟨rfl,h1,zYf _,λ_=>by show i<(s.length:Int);omega⟩
   .have d:=zFn _ _ l;have r:Lib.indexByte (cutL s i (lenI s)) (Int.toNat 10).toUInt8≠0:=λe=>by
     have A:=zJL e;have G:(cutL s i (s.length:Int)).head?=some 47:=by
      have:((cutL s i (s.length:Int)).take 2).head?=some 47:=by rw[show(2:Nat)=([47,47]:Str).length from rfl,z];rfl
      rw[List.head?_take]at this;simpa using this
     rw[show lenI s=(s.length:Int)from rfl,G]at A;revert A;decide
    generalize K:Lib.indexByte (cutL s i (lenI s)) (Int.toNat 10).toUInt8=v at l d r ⊢;have t:v<(s.length:Int)-i:=by
     have:((cutL s i (lenI s)).length:Int)=(s.length:Int)-i:=m;omega
    rw[xK i v (by omega) (by omega)];exact xY ⟨rfl,by show i<=i+v;omega,by show i+v<=s.length;omega,λ_=>by show i<i+v;omega⟩
  .refine yp C ?_;dsimp only;refine zRa (λ_=>xY ⟨rfl,Int.le_refl _,h1,λe=>by cases e⟩) λo=>?_;obtain⟨g,z⟩:=D o;replace g:i+2<=(s.length:Int):=g;have p:iadd .i64 i 2=i+2:=xK _ _ (by omega) (by omega);rw[p];refine zJZ (zCK (by omega) g (Int.le_refl _)) ?_;have m:=zJI (s:=s) (a:=i+2) (by omega) g (Int.le_refl _);refine yp (show c38 _=some (_,())from if_pos (show(cutL s (i+2) (lenI s)).length<4294967281 by have:((cutL s (i+2) (lenI s)).length:Int)=(s.length:Int)-(i+2):=m;omega)) ?_;dsimp only;refine kP (λ_=>xY ⟨rfl,Int.le_refl _,h1,λe=>by cases e⟩) λl=>?_;have d:=zLb _ _ l;generalize Lib.index (cutL s (i+2) (lenI s)) [42,47]=v at l d ⊢;have t:v+2<=(s.length:Int)-(i+2):=by
    have L:((cutL s (i+2) (lenI s)).length:Int)=(s.length:Int)-(i+2):=m;have M:v+((2:Nat):Int)<=((cutL s (i+2) (lenI s)).length:Int):=d;omega
   have q:iadd .i64 v 4=v+4:=xK _ _ (by omega) (by omega);rw[q,xK i (v+4) (by omega) (by omega)];exact xY ⟨rfl,by show i<=i+(v+4);omega,by show i+(v+4)<=s.length;omega,λ_=>by show i<i+(v+4);omega⟩
 refine yp (e35 (by omega) (by omega) (by omega)) ?_;dsimp only;have one:xU s (i+0)≠0->TT (some (some (((s,(iadd .i64 i 1,())),()),(true,())))) (λy:(RdT×Unit)×(Bool×Unit)=>y.1.1.1=s/\i<=y.1.1.2.1/\y.1.1.2.1<=s.length/\(y.2.1=true->i<y.1.1.2.1)):=λe=>by
  have N:=zCQ e;rw[xK i 1 (by omega) (by omega)];exact xY ⟨rfl,by show i<=i+1;omega,by show i+1<=s.length;omega,λ_=>by show i<i+1;omega⟩
 refine zAi (λ_=>one (by omega)) λ_=>?_;refine zAi (λ_=>one (by omega)) λ_=>?_;refine zAi (λ_=>one (by omega)) λ_=>?_;refine zAi (λ_=>one (by omega)) λ_=>?_;refine zAi (λ_=>one (by omega)) λ_=>?_;exact k
end
def TokG(t:TokT):Prop:=t.kind=1->∃c r,t.text=c::r/\zAd (c.toNat:Int)
theorem zSV{s:Str}{i n:Int}(h0:0<=i)(b:0<n)(h1:i+n<=s.length):∃c r,cutL s i (i+n)=c::r/\(c.toNat:Int)=xU s i:=by
 have hi:i.toNat<s.length:=by omega
 unfold cutL;have a:i.toNat<(s.take (i+n).toNat).length:=by rw[zWT];omega
 rw[zWn a];refine⟨_,_,rfl,?_⟩;unfold xU;rw[if_pos (by omega)];unfold zFu;rw[List.getElem_take,zWk,zWX hi];rfl
theorem kj{fu:Nat}(z:Int)(x:Str)(hfu:x.length+200<fu)(Y:x.length<=1090000):∃l,c9 fu (z,(x,()))=some (l,())/\l.length<=x.length/\∀t∈l,TokG t:=by
 have q:c16 (x,())=some (chG x 0,()):=if_pos (show x.length<1100000 by omega);have v:=zGc x 0;have A:c17 (chG x 0,())=some ((chG x 0).map (λc=>UInt8.ofNat c.b.toNat),()):=if_pos (show(chG x 0).length<1100000 by omega);show∃l,sh9 fu c16 c17 (r18 fu) (r19 fu) (λ_=>false) z x=some (l,())/\_;unfold sh9;rw[q,Option.bind_some,A,Option.bind_some];dsimp only;generalize M:chG x 0=cs at v ⊢;obtain⟨s,hs⟩:∃s,s=cs.map (λc=>UInt8.ofNat c.b.toNat):=⟨_,rfl⟩;have N:s.length=cs.length:=by rw[hs,List.length_map]
 rw[<-hs];refine zA2 (P:=λo=>∃l:List TokT,o=some (l,())/\l.length<=x.length/\∀t∈l,TokG t)
  (I:=λst:(List TokT×Unit)×((Str×(Int×Unit))×Unit)=>∃a i,st=((a,()),((s,(i,())),()))/\0<=i/\i<=(s.length:Int)/\(a.length:Int)<=i/\∀t∈a,TokG t) (μ:=λst=>((s.length:Int)-st.2.1.2.1).toNat) ?_ fu _ ⟨[],0,rfl,by omega,by omega,by simp,λt f=>by cases f⟩ (by dsimp only;omega)
 rintro rec st ⟨a,i,rfl,O,B,Z,G⟩ h;dsimp only;refine zA2 (P:=λo=>∃l:List TokT,o=some (l,())/\l.length<=x.length/\∀t∈l,TokG t)
  (I:=λst:(List TokT×Unit)×((Str×(Int×Unit))×((Int×(Str×(Int×(Int×(Int×(Bool×Unit))))))×Unit))=>∃j w,st=((a,()),((s,(j,())),(w,())))/\i<=j/\j<=(s.length:Int)) (μ:=λst=>((s.length:Int)-st.2.1.2.1).toNat) ?_ fu _ ⟨i,_,rfl,Int.le_refl _,B⟩ (by dsimp only;omega)
 rintro H Q ⟨j,w,rfl,R,C⟩ g;dsimp only;have done:∃l,(some (a,()):Option (List TokT×Unit))=some (l,())/\l.length<=x.length/\∀t∈l,TokG t:=⟨a,rfl,by omega,G⟩;have tok:∀d:Int,i<=d->d<(s.length:Int)->∀(u:(Int×Int×Unit)×Int->TokT),(∀y,(u y).kind=y.1.1/\(u y).text=cutL s y.2 (iadd .i64 y.2 y.1.2.1))->∃l,(Option.bind (r19 fu () s d) λe=>
  cond (inS e.2 (iadd .i64 e.2 e.1.2.1) (List.length s))
   (cond (inB e.2 (List.length cs))
    (cond (inB (isub .i64 (iadd .i64 e.2 e.1.2.1) 1) (List.length cs))
     (cond (okN 56 ((List.length a)+(List.length [u e])))
      (rec (((a++[u e]),()),((s,((iadd .i64 e.2 e.1.2.1),())),())))
      (none))
     (none))
    (none))
   (none))=some (l,())/\l.length<=x.length/\∀t∈l,TokG t:=by
  intro d a1 S u T;obtain⟨k,n,f1,J,m,D⟩:=e19 (s:=s) (i:=d) (fu:=fu) (by omega) (by omega) (by omega) (by omega) S;obtain⟨E,p⟩:=T ((k,(n,())),d);replace p:(u ((k,(n,())),d)).text=cutL s d (iadd .i64 d n):=p;replace E:(u ((k,(n,())),d)).kind=k:=E;rw[f1,Option.bind_some];dsimp only;have K:iadd .i64 d n=d+n:=xK _ _ (by omega) (by omega);have U:isub .i64 (d+n) 1=d+n-1:=zJp _ _ (by omega) (by omega);rw[K]at p;rw[K,U,zCK (by omega) (by omega) m,cond_true,yJ (by omega) (by omega),cond_true,yJ (by omega) (by omega),cond_true];rw[show okN 56 (a.length+[u ((k,(n,())),d)].length)=true from zA5 (by simp only[List.length_cons,List.length_nil];omega) (by simp only[List.length_cons,List.length_nil,maxLen];omega),cond_true];refine h _ ⟨a++[u ((k,(n,())),d)],d+n,rfl,by omega,m,by rw[List.length_append];simp only[List.length_cons,List.length_nil];omega,λt f=>?_⟩ (by dsimp only;omega);rcases List.mem_append.1 f with f|f
  .exact G t f
  .rw[zW1]at f;subst f;intro V;obtain⟨c,r,W,X⟩:=zSV (s:=s) (i:=d) (n:=n) (by omega) J m;exact⟨c,r,p.trans W,by rw[X];exact D (E▸V)⟩
 by_cases L:j<(s.length:Int)
 .rw[show ilt j (lenI s)=true from zWm L,zWQ];obtain⟨b,d,f1,J,m,D⟩:=e18 (s:=s) (i:=j) (fu:=fu) (by omega) (by omega) (by omega) C;rw[f1,zXg];cases b with
  |true=>
   have:=D rfl;exact g _ ⟨d,_,rfl,by omega,m⟩ (by dsimp only;omega)
  |false=>
   dsimp only;rw[cond_false];by_cases F:d<(s.length:Int)
   .rw[show ile (lenI s) d=false from zWz (by show ¬(s.length:Int)<=d;omega),zWH];exact tok d (by omega) F (λy=>TokT.mk y.1.1 (cutL s y.2 (iadd .i64 y.2 y.1.2.1)) _ _ _ _) λ_=>⟨rfl,rfl⟩
   .rw[show ile (lenI s) d=true from zWm (by show(s.length:Int)<=d;omega),zWQ];exact done
 .rw[show ilt j (lenI s)=false from zWz L,zWH];rw[show ile (lenI s) j=true from zWm (by show(s.length:Int)<=j;omega),zWQ];exact done
end
section
open Go.Al Go.Den
def tO:Bool->List TokT->List TkT
 |_,[]=>[]
 |b,t::r=>if t.kind=7 then tO true r else⟨t.kind,t.text,t.file,t.ffrom,t.fto,t.blank||b,[],false,false⟩::tO false r
theorem zEP{k n:Nat}(h:(k:Int)<(n:Int)):k<n:=by omega
theorem zAl{n:Nat}(h:n<=100000):okN 56 n=true:=zA5 (by omega) (by simp only[maxLen];omega)
theorem app1{α:Type}(l:List α)(x:α):(l++[x]).length=l.length+1:=by rw[zWD];rfl
theorem c22_eq(fu:Nat)(l:List TokT)(m:l.length<fu)(p:l.length<=90000):c22 fu (l,())=some (tO false l,()):=by
 show sh22 fu (λ_=>false) l=_;unfold sh22;refine xy (λst=>∃(k:Nat)(o:List TkT)(b:Bool),st=((o,(b,((k:Int),()))),())/\k<=l.length/\o.length<=k/\o++tO b (l.drop k)=tO false l) (λst=>l.length-st.1.2.2.1.toNat) ?_ fu _ ⟨0,[],false,rfl,Nat.zero_le _,Nat.le_refl _,rfl⟩ (by show l.length-0<fu;omega);rintro rec st ⟨k,o,b,rfl,q,r,f⟩ c;dsimp only;refine jS (λa=>?_) λg=>?_
 .replace a:k<l.length:=zEP a;have n:List.getD l (Int.toNat (k:Int)) tokD=l[k]:=qH a;have h:l.length-(k+1)<l.length-k:=by omega
  rw[n,i1 (by omega)];rw[zWn a]at f;have d:∀t:TkT,okN 88 (o.length+[t].length)=true:=λt=>zEr (by show o.length+1<=_;omega);refine zH (yJ (by omega) (by omega)) ?_;refine zB3 (λi=>?_) λi=>?_
  .refine c _ ⟨k+1,o,true,rfl,a,by omega,?_⟩ h;rw[<-f,tO,if_pos i]
  .rw[tO,if_neg i]at f;refine zD9 (λj=>?_) λj=>?_
   .refine zH (d _) ?_;refine c _ ⟨k+1,_,false,rfl,a,by rw[app1];omega,?_⟩ h;rw[<-f,zXT,j];rfl
   .refine zH (d _) ?_;refine c _ ⟨k+1,_,false,rfl,a,by rw[app1];omega,?_⟩ h;rw[<-f,zXT,j];rfl
 .have e:k=l.length:=by
   have s:(l.length:Int)<=(k:Int):=g;omega
  subst e;rw[zYQ]at f;rw[<-f];show _=some (o++[],());rw[zWc]
def ofK(t:TkT):TokT:=⟨t.kind,t.text,t.file,t.ffrom,t.fto,t.blank⟩
theorem c23_eq(fu:Nat)(l:List TkT)(d:l.length<fu)(h:l.length<=90000):c23 fu (l,())=some (l.map ofK,()):=by
 show sh23 fu (λ_=>false) l=_;unfold sh23;refine xy (λst=>∃(k:Nat),st=(((l.take k).map ofK,((k:Int),())),())/\k<=l.length) (λst=>l.length-st.1.2.1.toNat) ?_ fu _ ⟨0,rfl,Nat.zero_le _⟩ (by show l.length-0<fu;omega);rintro rec st ⟨k,rfl,i⟩ b;dsimp only;refine jS (λa=>?_) λc=>?_
 .replace a:k<l.length:=zEP a;have f:List.getD l (Int.toNat (k:Int)) tkD=l[k]:=qH a;have g:l.length-(k+1)<l.length-k:=by omega
  rw[f,i1 (by omega)];refine zH (yJ (by omega) (by omega)) ?_;refine zH (zAl (by rw[zWG,zWT];show min k l.length+1<=_;omega)) ?_;refine b _ ⟨k+1,?_,a⟩ g;rw[xT a,zWy];rfl
 .have e:k=l.length:=by
   have j:(l.length:Int)<=(k:Int):=c;omega
  subst e;rw[zW6]
theorem zSr(t:TokT):dEqs (U:=UU) [T.int .i64 t.kind,T.str t.text,T.int .i64 t.file,T.int .i64 t.ffrom,T.int .i64 t.fto,T.bool t.blank] [T.int .i64 t.kind,T.str t.text,T.int .i64 t.file,T.int .i64 t.ffrom,T.int .i64 t.fto,T.bool t.blank]=true:=by
 simp[dEqs,ieq,seq,beqB]
noncomputable def c11(fu:Nat)(x:List TokT×List TokT×Unit):Option (Bool×Unit):=sh11 fu (λ_=>false) x.1 x.2.1
theorem ok11(fu:Nat):ConOk CC Tryz.prog 11 ⟨as11,rs11,c11 fu⟩:=con11 fu
theorem zL3(fu:Nat)(l:List TokT)(c:l.length<fu)(f:l.length<=90000):c11 fu (l,l,())=some (true,()):=by
 show sh11 fu (λ_=>false) l l=_;unfold sh11;refine zPG (λh=>absurd rfl h) λ_=>?_;refine xy (λst=>∃(k:Nat),st=(((k:Int),()),())/\k<=l.length) (λst=>l.length-st.1.1.toNat) ?_ fu _ ⟨0,rfl,Nat.zero_le _⟩ (by show l.length-0<fu;omega);rintro rec st ⟨k,rfl,g⟩ b;dsimp only;refine jS (λa=>?_) λd=>rfl;replace a:k<l.length:=zEP a;have e:l.length-(k+1)<l.length-k:=by omega
 rw[i1 (by omega)];refine zH (yJ (by omega) (by omega)) ?_;refine zH (yJ (by omega) (by omega)) ?_;refine Q_not (λh=>?_) λ_=>b _ ⟨k+1,rfl,a⟩ e;rw[zSr]at h;cases h
noncomputable def c10A(fu:Nat):zS as10->Option (zS rs10):=c10 (c22 fu) (c23 fu) (c21 fu)
theorem ok10A(fu:Nat):ConOk CC Tryz.prog 10 ⟨as10,rs10,c10A fu⟩:=ok10 _ (ok22 fu) _ (ok23 fu) _ (ok21 fu)
def noB:List TokT->List TokT
 |[]=>[]
 |x::r=>⟨x.kind,x.text,x.file,x.ffrom,x.fto,false⟩::r
theorem zEh(l:List TokT):(noB l).length=l.length:=by cases l<;>rfl
end
section
open Go.Al Go.Den
def setT:List TokT->List TokT
 |[]=>[]
 |x::r=>toBl x true::r
theorem zAq(l:List TokT):(setT l).length=l.length:=by cases l<;>rfl
theorem zRC:∀(l:List TokT),(∀t∈l,t.kind≠7)->tO false l=l.map tkO
 |[],_=>rfl
 |t::r,h=>by
  rw[tO,if_neg (h t zWr),zRC r λu a=>h u (zWU _ a),Bool.or_false];rfl
theorem zGm(l:List TokT):(l.map tkO).map ofK=l:=by rw[zXD];exact List.map_id _
theorem ofK_cm(m:MacT):(cmX m).map ofK=m.body.2:=by unfold cmX;rw[zXD];exact List.map_id _
theorem zL0(l:List TkT):(setB true l).map ofK=setT (l.map ofK):=by cases l<;>rfl
def wP(A B C:List TokT):List TokT:=A++setT (B++C)
def Pl(l:List TokT):Prop:=∀t∈l,t.kind≠1/\t.kind≠7
theorem zIH{a:MapM}{l:List TokT}(h:Pl l):∀t∈l.map tkO,Kp a t:=λt b=>by
 obtain⟨u,c,rfl⟩:=zWa.1 b;exact .inl (h u c).1
theorem zKG(fu:Nat)(c:9000<fu)(m:MacT)(A C:List TokT)(l:m.func=false)(n:∀t∈m.body.2,t.kind≠1/\t.text≠[35,35])(F:m.body.2.length<=200)(g:Pl A)(i:Pl C)(q:A.length<=200)(s:C.length<=200) :
 c10A fu ([m],A++(⟨1,m.name,0,0,0,true⟩:TokT)::C,())=some (wP A m.body.2 C,(0:Int),()):=by
 obtain⟨L,d⟩:∃L,L=A++(⟨1,m.name,0,0,0,true⟩:TokT)::C:=⟨_,rfl⟩;have u:L.length=A.length+(C.length+1):=by rw[d,zWD,zWC]
 rw[<-d];have e0:c10A fu ([m],L,())=if(1:Nat)<1000000 then(match zE4 (c22 fu) (c23 fu) (c21 fu) (L,((qV [m],(0,())),()),())with|some (some y)=>some y|_=>none)else none:=rfl
 rw[e0,if_pos (by omega)];have o:mcH (qV [m]) m.name=true:=by
  show cond (seq m.name m.name) true _=true;rw[zBg,zWm rfl];rfl
 have p:mcV macD (qV [m]) m.name=m:=by
  show cond (seq m.name m.name) m _=m;rw[zBg,zWm rfl];rfl
 have w:∀t∈L,t.kind≠7:=λt a=>by
  rw[d,zWe]at a;rcases a with a|a
  .exact(g t a).2
  .rcases zWB.1 a with rfl|a
   .intro h;cases h
   .exact(i t a).2
 have j:c22 fu (L,())=some (A.map tkO++(⟨1,m.name,0,0,0,true,[],false,false⟩:TkT)::C.map tkO,()):=by
  rw[c22_eq fu _ (by omega) (by omega),zRC L w,d,zWy];rfl
 have z:∀t∈m.body.2,t.kind≠1\/t.text=m.name:=λt a=>.inl (n t a).1;have b:∃Y:List TkT,c21 fu ((false,A.map tkO++(⟨1,m.name,0,0,0,true,[],false,false⟩:TkT)::C.map tkO),()) (qV [m]) 0=some ((Y,(0:Int),()),qV [m],0+1)/\Y.map ofK=wP A m.body.2 C/\Y.length<=1000:=by
  by_cases f:m.body.2=[]
  .refine⟨_,zTR fu c (A.map tkO) (C.map tkO) _ (qV [m]) 0 m (zIH g) (zIH i) rfl rfl o p l f rfl (by simp only[zWG];omega) (by omega) (by omega),?_,?_⟩
   .rw[zWy,zL0,zGm,zGm,f];rfl
   .rw[zWD,jc,zWG,zWG];omega
  .refine⟨_,zVZ fu c false (A.map tkO) (C.map tkO) _ (qV [m]) 0 m (zIH g) (zIH i) rfl rfl o p l (λt a h=>(n t a).2 h.2) f (by simp only[zWG];omega) (by omega) (by omega) z,?_,?_⟩
   .rw[zWy,zWy,zL0,zGm,zGm,ofK_cm];cases e:m.body.2 with
    |nil=>exact absurd e f
    |cons x r=>rfl
   .unfold cmX;rw[zWD,zWD,jc,zWG,zWG,zWG];omega
 obtain⟨Y,b,B,D⟩:=b;have k:(A.map tkO++(⟨1,m.name,0,0,0,true,[],false,false⟩:TkT)::C.map tkO).isEmpty=false:=by cases A<;>rfl
 have E:zE4 (c22 fu) (c23 fu) (c21 fu) (L,((qV [m],(0,())),()),())=some (some (wP A m.body.2 C,0,())):=by
  unfold zE4;refine yA j ?_;rw[k];refine yA b ?_;refine yA (v:=(wP A m.body.2 C,())) (by rw[<-B];exact c23_eq fu Y (by omega) (by omega)) ?_;rfl
 rw[E]
end
section
open Go.Al Go.Den
abbrev as50:List (AK UU):=[.ls TI.str,.str]
abbrev rs50:List (AK UU):=[.bool]
def kf27:Nat->List Nat
 |0=>[0,1]
 |1=>[0]
 |2=>[0,5]
 |3=>[0,5]
 |4=>[0,4]
 |_=>[]
noncomputable def fd27:FD UU:=⟨⟨λd=>hasN [] d,λd=>hasN [] d,kf27,zB [],zB [],yK [],yF []⟩,ze Tryz.f27,40,[.tmp 4]⟩
def kf29:Nat->List Nat
 |0=>[0,1]
 |1=>[0,4]
 |_=>[]
noncomputable def fd29:FD UU:=⟨⟨λd=>hasN [] d,λd=>hasN [] d,kf29,zB [],zB [],yK [],yF []⟩,ze Tryz.f29,32,[.tmp 4]⟩
def kf30:Nat->List Nat
 |0=>[0,1]
 |1=>[0,8]
 |2=>[0,4]
 |3=>[0]
 |4=>[0,4]
 |_=>[]
noncomputable def fd30:FD UU:=⟨⟨λd=>hasN [] d,λd=>hasN [] d,kf30,zB [],zB [],yK [],yF []⟩,ze Tryz.f30,17,[.tmp 4]⟩
def kf32:Nat->List Nat
 |0=>[0]
 |1=>[0,4]
 |2=>[2]
 |3=>[2]
 |_=>[]
noncomputable def fd32:FD UU:=⟨⟨λd=>hasN [5,7] d,λd=>hasN [] d,kf32,zB [],zB [],yK [],yF []⟩,ze Tryz.f32,8,[.tmp 2]⟩
def kf33:Nat->List Nat
 |0=>[1]
 |1=>[1,2]
 |2=>[1,2]
 |3=>[1,2,3]
 |4=>[1,2,3,16]
 |5=>[1,2]
 |6=>[1,2]
 |7=>[1,2]
 |8=>[1,2,43]
 |9=>[1,2]
 |10=>[1,2,53]
 |11=>[1,2]
 |12=>[]
 |_=>[]
def hd33:List (Nat×Head UU):=[(8,⟨[1,2],[],[(1,maK),(2,rlK)]⟩)]
def jn33:List (Nat×Head UU):=[(9,⟨[1,2],[],[(1,maK),(2,rlK)]⟩),(7,⟨[1,2],[],[(1,maK),(2,rlK)]⟩)]
noncomputable def fd33:FD UU:=⟨⟨λd=>hasN [] d,λd=>hasN [] d,kf33,zB hd33,zB jn33,yK [(11,[(82,1,1)])],yF []⟩,ze Tryz.f33,92,[]⟩
def kf51:Nat->List Nat
 |0=>[1,2]
 |1=>[1,2,10]
 |2=>[4]
 |3=>[4]
 |_=>[]
noncomputable def fd51:FD UU:=⟨⟨λd=>hasN [] d,λd=>hasN [] d,kf51,zB [],zB [],yK [],yF []⟩,ze Tryz.f51,18,[.tmp 4]⟩
def kf52:Nat->List Nat
 |0=>[0,1]
 |1=>[4]
 |_=>[]
noncomputable def fd52:FD UU:=⟨⟨λd=>hasN [] d,λd=>hasN [] d,kf52,zB [],zB [],yK [],yF []⟩,ze Tryz.f52,9,[.tmp 4]⟩
def kf53:Nat->List Nat
 |0=>[1]
 |1=>[2]
 |_=>[]
noncomputable def fd53:FD UU:=⟨⟨λd=>hasN [] d,λd=>hasN [] d,kf53,zB [],zB [],yK [],yF []⟩,ze Tryz.f53,11,[.tmp 2]⟩
def kf66:Nat->List Nat
 |0=>[0,1]
 |1=>[0,1,7,8]
 |2=>[0,1,7,8,9]
 |3=>[0,1,5,7,8]
 |4=>[0,1,5,7,8,16]
 |5=>[4]
 |6=>[0,1,7,8]
 |7=>[4]
 |_=>[]
def hd66:List (Nat×Head UU):=[(2,⟨[0,1,7],[(8,.int .i64)],[]⟩)]
noncomputable def fd66:FD UU:=⟨⟨λd=>hasN [] d,λd=>hasN [] d,kf66,zB hd66,zB [],yK [],yF []⟩,ze Tryz.f66,19,[.tmp 4]⟩
noncomputable def run29(fu:Nat)(x:zA ([rlK]:LK))(a:zA kS):Option (Option (zA ([rlK]:LK)×zA kB)):=
 runP CC Tb fu 2 (zB []) (zB []) (zB []) (zB []) fd29 ([rlK]:LK) ([rlK]:LK) kS kB x a
theorem fdok29:FDOk Tryz.prog (hasN []) (hasN []) 29 fd29:=fdk Tryz.func29 Tryz.ntmps29 Tryz.results29
noncomputable def run30(fu:Nat)(b:zA ([rlK]:LK)->zA kS->Option (Option (zA ([rlK]:LK)×zA kB)))(x:zA ([rlK]:LK))(a:zA kS):Option (Option (zA ([rlK]:LK)×zA kB)):=
 runP CC Tb fu 2 (zB []) (zB []) (zB []) (zB [(29,cP ([rlK]:LK) ([rlK]:LK) kS kB b)]) fd30 ([rlK]:LK) ([rlK]:LK) kS kB x a
theorem fdok30:FDOk Tryz.prog (hasN []) (hasN []) 30 fd30:=fdk Tryz.func30 Tryz.ntmps30 Tryz.results30
noncomputable def run27(fu:Nat)(b:Int)(x:zA ([rlK]:LK))(a:zA kI):Option (Option (zA ([rlK]:LK)×zA kS)):=
 runP CC Tb fu 2 (zB []) (zB []) (zB []) (zB [(28,cNd b)]) fd27 ([rlK]:LK) ([rlK]:LK) kI kS x a
theorem fdok27:FDOk Tryz.prog (hasN []) (hasN []) 27 fd27:=fdk Tryz.func27 Tryz.ntmps27 Tryz.results27
noncomputable def run50(fu:Nat)(a:Nat->Bool)(b:List (List UInt8))(c:List UInt8):Option (zS rs50):=
 xr CC Tb fu 3 (zB [(65,fd65)]) (zB []) (zB []) (zB []) fd50 as50 rs50 a (b,c,())
theorem fdok50:FDOk Tryz.prog (hasN []) (hasN []) 50 fd50:=fdk Tryz.func50 Tryz.ntmps50 Tryz.results50
theorem zSF:FDOk Tryz.prog (hasN []) (hasN []) 65 fd65:=fdk Tryz.func65 Tryz.ntmps65 Tryz.results65
noncomputable def run51(fu:Nat)(a:Nat->Bool)(b:MacT)(c:List UInt8):Option (zS rs51):=
 xr CC Tb fu 3 (zB [(65,fd65)]) (zB []) (zB []) (zB []) fd51 as51 rs51 a (b,c,())
theorem fdok51:FDOk Tryz.prog (hasN []) (hasN []) 51 fd51:=fdk Tryz.func51 Tryz.ntmps51 Tryz.results51
theorem zSC:FDOk Tryz.prog (hasN []) (hasN []) 65 fd65:=fdk Tryz.func65 Tryz.ntmps65 Tryz.results65
noncomputable def run32(fu:Nat)(x:zA k0)(a:zA ([.bl TI.tok]:LK)):Option (Option (zA k0×zA ([.arr TI.tok]:LK))):=
 zDc CC Tb fu 2 (zB []) (zB []) (zB []) (zB []) fd32 k0 k0 ([.bl TI.tok]:LK) ([.arr TI.tok]:LK) x a
theorem fdok32:FDOk Tryz.prog (hasN []) (hasN []) 32 fd32:=fdk Tryz.func32 Tryz.ntmps32 Tryz.results32
noncomputable def run33(fu:Nat)(c51:MacT×List UInt8×Unit->Option (Int×Unit))(b:Int)(c:zA ([rlK]:LK)->zA kS->Option (Option (zA ([rlK]:LK)×zA kB)))(x:zA k0)(a:zA ([.st TI.mac]:LK)):Option (Option (zA k0×zA k0)):=
 runP CC Tb fu 5 (zB [(52,fd52),(53,fd53),(66,fd66)]) (zB [(51,(⟨as51,rs51,c51⟩:Con UU))]) (zB []) (zB [(28,cNd b),(29,cP ([rlK]:LK) ([rlK]:LK) kS kB c)]) fd33 k0 k0 ([.st TI.mac]:LK) k0 x a
theorem fdok33:FDOk Tryz.prog (hasN [51]) (hasN []) 33 fd33:=fdk Tryz.func33 Tryz.ntmps33 Tryz.results33
theorem zQb:FDOk Tryz.prog (hasN [51]) (hasN []) 52 fd52:=fdk Tryz.func52 Tryz.ntmps52 Tryz.results52
theorem zRj:FDOk Tryz.prog (hasN [51]) (hasN []) 53 fd53:=fdk Tryz.func53 Tryz.ntmps53 Tryz.results53
theorem zQw:FDOk Tryz.prog (hasN [51]) (hasN []) 66 fd66:=fdk Tryz.func66 Tryz.ntmps66 Tryz.results66
end
section
open Go.Al Go.Den
def sh29(fu:Nat)(x:(((Bool×LT)×Unit)×Unit))(a:(Str×Unit)):(Option (Option ((((Bool×LT)×Unit)×Unit)×(Bool×Unit)))):=cond (ilt 0 (lenI x.1.1.2)) (cond (inB 0 x.1.1.2.length) (cond (ieq (List.getD x.1.1.2 0 tokD).kind 5) (cond (inB 0 x.1.1.2.length) (some (some ((((x.1.1.1,x.1.1.2),()),()),((seq (List.getD x.1.1.2 0 tokD).text a.1),())))) (none)) (some (some ((((x.1.1.1,x.1.1.2),()),()),(false,()))))) (none)) (some (some ((((x.1.1.1,x.1.1.2),()),()),(false,()))))
theorem eq29:@run29=@sh29:=by kernel_rfl
def sh30(fu:Nat)(c:(((Bool×LT)×Unit)×Unit)->(Str×Unit)->(Option (Option ((((Bool×LT)×Unit)×Unit)×(Bool×Unit)))))(x:(((Bool×LT)×Unit)×Unit))(a:(Str×Unit)):(Option (Option ((((Bool×LT)×Unit)×Unit)×(Bool×Unit)))):=bo (c (((x.1.1.1,x.1.1.2),()),()) (a.1,())) λb=>cond (!b.2.1) (some (some ((((b.1.1.1.1,b.1.1.1.2),()),()),(false,())))) (cond (inS 1 (lenI b.1.1.1.2) b.1.1.1.2.length) (some (some ((((b.1.1.1.1,(cutL b.1.1.1.2 1 (lenI b.1.1.1.2))),()),()),(true,())))) (none))
theorem eq30:@run30=@sh30:=by kernel_rfl
def sh27(fu:Nat)(b:Int)(x:(((Bool×LT)×Unit)×Unit))(a:(Int×Unit)):(Option (Option ((((Bool×LT)×Unit)×Unit)×(Str×Unit)))):=cond (ilt 0 (lenI x.1.1.2)) (cond (inB 0 x.1.1.2.length) (cond (ieq (List.getD x.1.1.2 0 tokD).kind 1) (cond (inB 0 x.1.1.2.length) (cond (inS 1 (lenI x.1.1.2) x.1.1.2.length) (some (some ((((x.1.1.1,(cutL x.1.1.2 1 (lenI x.1.1.2))),()),()),((List.getD x.1.1.2 0 tokD).text,())))) (none)) (none)) (cond (ieq a.1 b) (some none) (none))) (none)) (cond (ieq a.1 b) (some none) (none))
theorem eq27:@run27=@sh27:=by kernel_rfl
def sh51(fu:Nat)(e:Nat->Bool)(c:MacT)(d:Str):(Option (Int×Unit)):=cond (MacT.variadic c) (cond (seq d [95,95,86,65,95,65,82,71,83,95,95]) (some ((lenI (MacT.params c)),())) (iter fu (λ(a:((Int×Unit)×Unit)->Option (Int×Unit))(b:((Int×Unit)×Unit))=>cond (ilt b.1.1 (lenI (MacT.params c))) (cond (inB b.1.1 (List.length (MacT.params c))) (cond (seq d (List.getD (MacT.params c) b.1.1.toNat [])) (some (b.1.1,())) (a (((iadd .i64 b.1.1 1),()),()))) (none)) (some ((Neg.neg 1),()))) ((0,()),()))) (iter fu (λ(a:((Int×Unit)×Unit)->Option (Int×Unit))(b:((Int×Unit)×Unit))=>cond (ilt b.1.1 (lenI (MacT.params c))) (cond (inB b.1.1 (List.length (MacT.params c))) (cond (seq d (List.getD (MacT.params c) b.1.1.toNat [])) (some (b.1.1,())) (a (((iadd .i64 b.1.1 1),()),()))) (none)) (some ((Neg.neg 1),()))) ((0,()),()))
theorem eq51:@run51=@sh51:=by kernel_rfl
def sh50(fu:Nat)(e:Nat->Bool)(c:(List Str))(d:Str):(Option (Bool×Unit)):=iter fu (λ(a:((Int×Unit)×Unit)->Option (Bool×Unit))(b:((Int×Unit)×Unit))=>cond (ilt b.1.1 (lenI c)) (cond (inB b.1.1 c.length) (cond (seq d (List.getD c b.1.1.toNat [])) (some ((ile 0 b.1.1),())) (a (((iadd .i64 b.1.1 1),()),()))) (none)) (some ((ile 0 (Neg.neg 1)),()))) ((0,()),())
theorem eq50:@run50=@sh50:=by kernel_rfl
def sh32(fu:Nat)(x:Unit)(a:((Bool×LT)×Unit)):(Option (Option (Unit×((Option LT)×Unit)))):=cond (nilT (TM.b a.1.1) a.1.2) (some (some ((),(none,())))) (cond (okN 56 (0+a.1.2.length)) (cond (eqN (0+a.1.2.length) (List.length ((List.take 0 [])++a.1.2))) (some (some ((),((some ((List.take 0 [])++a.1.2)),())))) (none)) (none))
theorem eq32:@run32=@sh32:=by kernel_rfl
def sh33(fu:Nat)(c51:(MacT×(Str×Unit))->(Option (Int×Unit)))(d:Int)(j:(((Bool×LT)×Unit)×Unit)->(Str×Unit)->(Option (Option ((((Bool×LT)×Unit)×Unit)×(Bool×Unit)))))(x:Unit)(a:(MacT×Unit)):(Option (Option (Unit×Unit))):=bo (j ((((MacT.body a.1).1,(MacT.body a.1).2),()),()) ([35,35],())) λl=>cond (!l.2.1) (qU (λ(c:(Unit×((Str×(Bool×((List Str)×(Bool×((Bool×LT)×Unit)))))×(((Bool×LT)×Unit)×Unit)))->Option (Option (Unit×Unit)))=>cond (ilt 0 (lenI (MacT.body a.1).2)) (cond (inS (isub .i64 (lenI (MacT.body a.1).2) 1) (lenI (MacT.body a.1).2) (List.length (MacT.body a.1).2)) (bo (j ((((MacT.body a.1).1,(cutL (MacT.body a.1).2 (isub .i64 (lenI (MacT.body a.1).2) 1) (lenI (MacT.body a.1).2))),()),()) ([35,35],())) λg=>cond (!g.2.1) (c ((),(((MacT.name a.1),((MacT.func a.1),((MacT.params a.1),((MacT.variadic a.1),(((MacT.body a.1).1,(MacT.body a.1).2),()))))),(((g.1.1.1.1,g.1.1.1.2),()),())))) (cond (ieq 63 d) (some none) (none))) (none)) (c ((),(((MacT.name a.1),((MacT.func a.1),((MacT.params a.1),((MacT.variadic a.1),(((MacT.body a.1).1,(MacT.body a.1).2),()))))),(((l.1.1.1.1,l.1.1.1.2),()),()))))) (λ(i:(Unit×((Str×(Bool×((List Str)×(Bool×((Bool×LT)×Unit)))))×(((Bool×LT)×Unit)×Unit))))=>iter fu (λ(k:(Unit×((Str×(Bool×((List Str)×(Bool×((Bool×LT)×Unit)))))×(((Bool×LT)×Unit)×Unit)))->Option (Option (Unit×Unit)))(b:(Unit×((Str×(Bool×((List Str)×(Bool×((Bool×LT)×Unit)))))×(((Bool×LT)×Unit)×Unit))))=>cond b.2.1.2.1 (cond (ilt 0 (lenI b.2.2.1.1.2)) (qU (λ(c:(Unit×((Str×(Bool×((List Str)×(Bool×((Bool×LT)×Unit)))))×(((Bool×LT)×Unit)×Unit)))->Option (Option (Unit×Unit)))=>bo (j (((b.2.2.1.1.1,b.2.2.1.1.2),()),()) ([35],())) λg=>cond g.2.1 (cond (ilt 1 (lenI g.1.1.1.2)) (cond (inB 1 g.1.1.1.2.length) (cond (ieq (List.getD g.1.1.1.2 1 tokD).kind 1) (cond (inB 1 g.1.1.1.2.length) (Option.bind (c51 ((MacT.mk b.2.1.1 b.2.1.2.1 b.2.1.2.2.1 b.2.1.2.2.2.1 (b.2.1.2.2.2.2.1.1,b.2.1.2.2.2.2.1.2)),((List.getD g.1.1.1.2 1 tokD).text,()))) λm=>cond (ile 0 m.1) (c ((),((b.2.1.1,(b.2.1.2.1,(b.2.1.2.2.1,(b.2.1.2.2.2.1,((b.2.1.2.2.2.2.1.1,b.2.1.2.2.2.2.1.2),()))))),(((g.1.1.1.1,g.1.1.1.2),()),())))) (cond (ieq 64 d) (some none) (none))) (none)) (cond (ieq 64 d) (some none) (none))) (none)) (cond (ieq 64 d) (some none) (none))) (c ((),((b.2.1.1,(b.2.1.2.1,(b.2.1.2.2.1,(b.2.1.2.2.2.1,((b.2.1.2.2.2.2.1.1,b.2.1.2.2.2.2.1.2),()))))),(((g.1.1.1.1,g.1.1.1.2),()),()))))) (λ(h:(Unit×((Str×(Bool×((List Str)×(Bool×((Bool×LT)×Unit)))))×(((Bool×LT)×Unit)×Unit))))=>cond (inS 1 (lenI h.2.2.1.1.2) h.2.2.1.1.2.length) (k ((),((h.2.1.1,(h.2.1.2.1,(h.2.1.2.2.1,(h.2.1.2.2.2.1,((h.2.1.2.2.2.2.1.1,h.2.1.2.2.2.2.1.2),()))))),(((h.2.2.1.1.1,(cutL h.2.2.1.1.2 1 (lenI h.2.2.1.1.2))),()),())))) (none))) (cond b.2.1.2.2.2.1 (some (some ((),()))) (iter fu (λ(e:((Int×Unit)×Unit)->Option (Option (Unit×Unit)))(f:((Int×Unit)×Unit))=>cond (ilt f.1.1 (lenI b.2.1.2.2.2.2.1.2)) (cond (inB f.1.1 b.2.1.2.2.2.2.1.2.length) (cond (ieq (List.getD b.2.1.2.2.2.2.1.2 f.1.1.toNat tokD).kind 1) (cond (seq (List.getD b.2.1.2.2.2.2.1.2 f.1.1.toNat tokD).text [95,95,86,65,95,65,82,71,83,95,95]) (cond (!(ile 0 f.1.1)) (some (some ((),()))) (cond (ieq 65 d) (some none) (none))) (e (((iadd .i64 f.1.1 1),()),()))) (e (((iadd .i64 f.1.1 1),()),()))) (none)) (cond (!(ile 0 (Neg.neg 1))) (some (some ((),()))) (cond (ieq 65 d) (some none) (none)))) ((0,()),())))) (cond b.2.1.2.2.2.1 (some (some ((),()))) (iter fu (λ(e:((Int×Unit)×Unit)->Option (Option (Unit×Unit)))(f:((Int×Unit)×Unit))=>cond (ilt f.1.1 (lenI b.2.1.2.2.2.2.1.2)) (cond (inB f.1.1 b.2.1.2.2.2.2.1.2.length) (cond (ieq (List.getD b.2.1.2.2.2.2.1.2 f.1.1.toNat tokD).kind 1) (cond (seq (List.getD b.2.1.2.2.2.2.1.2 f.1.1.toNat tokD).text [95,95,86,65,95,65,82,71,83,95,95]) (cond (!(ile 0 f.1.1)) (some (some ((),()))) (cond (ieq 65 d) (some none) (none))) (e (((iadd .i64 f.1.1 1),()),()))) (e (((iadd .i64 f.1.1 1),()),()))) (none)) (cond (!(ile 0 (Neg.neg 1))) (some (some ((),()))) (cond (ieq 65 d) (some none) (none)))) ((0,()),())))) ((),((i.2.1.1,(i.2.1.2.1,(i.2.1.2.2.1,(i.2.1.2.2.2.1,((i.2.1.2.2.2.2.1.1,i.2.1.2.2.2.2.1.2),()))))),(((i.2.1.2.2.2.2.1.1,i.2.1.2.2.2.2.1.2),()),()))))) (cond (ieq 63 d) (some none) (none))
theorem eq33:@run33=@sh33:=by kernel_rfl
theorem con29(fu:Nat){sy:List PanicEntry} :CPOk CC Tryz.prog sy 29 (cP ([rlK]:LK) ([rlK]:LK) kS kB (sh29 fu)):=
 rpk zD zD zD zD fdok29 rfl (λx a=>by rw[<-eq29];rfl)
theorem con30(fu:Nat){sy:List PanicEntry}(b:zA ([rlK]:LK)->zA kS->Option (Option (zA ([rlK]:LK)×zA kB)))(c:CPOk CC Tryz.prog sy 29 (cP ([rlK]:LK) ([rlK]:LK) kS kB b)):CPOk CC Tryz.prog sy 30 (cP ([rlK]:LK) ([rlK]:LK) kS kB (sh30 fu b)):=
 rpk zD zD zD (zK ⟨zMW,c⟩ zD) fdok30 rfl (λx a=>by rw[<-eq30];rfl)
theorem con27(fu:Nat)(b:Int)(c:CPOk CC Tryz.prog (sE b) 28 (cNd b)):CPOk CC Tryz.prog (sE b) 27 (cP ([rlK]:LK) ([rlK]:LK) kI kS (sh27 fu b)):=
 rpk zD zD zD (zK ⟨kC,c⟩ zD) fdok27 rfl (λx a=>by rw[<-eq27];rfl)
theorem con50(fu:Nat) :ConOk CC Tryz.prog 50 ⟨as50,rs50,λx=>sh50 fu (λ_=>false) x.1 x.2.1⟩:=
 rfk (lo:=[]) (lr:=[]) (zK zSF zD) zD zD zD fdok50 rfl (ya rfl) (λa x=>by show run50 fu a x.1 x.2.1=_;rw[eq50];rfl)
theorem con51(fu:Nat) :ConOk CC Tryz.prog 51 ⟨as51,rs51,λx=>sh51 fu (λ_=>false) x.1 x.2.1⟩:=
 rfk (lo:=[]) (lr:=[]) (zK zSC zD) zD zD zD fdok51 rfl (ya rfl) (λa x=>by show run51 fu a x.1 x.2.1=_;rw[eq51];rfl)
theorem con32(fu:Nat){sy:List PanicEntry} :CPOk CC Tryz.prog sy 32 (cP k0 k0 ([.bl TI.tok]:LK) ([.arr TI.tok]:LK) (sh32 fu)):=
 zBe (syn:=sy) (fu:=fu) (d:=2) (inl:=zB []) (orc:=zB []) (orr:=zB []) (orp:=zB []) (pf:=hasN []) (rf:=hasN []) zCX CCok mixed (λg=>(yT (α:=Con UU) (l:=[]) g).symm) (λg=>(yT (α:=CR UU) (l:=[]) g).symm) zD zD zD zD fdok32 (by show(k0:LK).length+(([.bl TI.tok]:LK):LK).length<=8;decide) (λx a=>by show run32 fu x a=sh32 fu x a;rw[eq32])
theorem con33(fu:Nat)(c51:zS as51->Option (zS rs51))(d:ConOk CC Tryz.prog 51 ⟨as51,rs51,c51⟩)(b:Int)(e:CPOk CC Tryz.prog (sE b) 28 (cNd b))(c:zA ([rlK]:LK)->zA kS->Option (Option (zA ([rlK]:LK)×zA kB)))(f:CPOk CC Tryz.prog (sE b) 29 (cP ([rlK]:LK) ([rlK]:LK) kS kB c)):CPOk CC Tryz.prog (sE b) 33 (cP k0 k0 ([.st TI.mac]:LK) k0 (sh33 fu c51 b c)):=
 rpk (lo:=[(51,(⟨as51,rs51,c51⟩:Con UU))]) (lr:=[]) (zK zQb (zK zRj (zK zQw zD))) (zK (OrcOk.of ⟨zRr,d⟩ rfl) zD) zD (zK ⟨kC,e⟩ (zK ⟨zMW,f⟩ zD)) fdok33 rfl (λx a=>by rw[<-eq33];rfl)
end
end Go.Proofs.YtfjiiknfopmcjaaGreatDoor
section
namespace Go.Den
open Go.Al
structure KeptS(s s':S)(bs:List Nat):Prop where
 box:∀b c,b∉bs->Al.look s.box b=some c->Al.look s'.box b=some c
 tg:∀t∈s.tg,t∈s'.tg
theorem KeptS.refl(s:S)(a:List Nat):KeptS s s a:=⟨λ_ _ _ h=>h,λ_ h=>h⟩
theorem KeptS.trans{s d e:S}{a:List Nat}(h:KeptS s d a)(k:KeptS d e a):KeptS s e a:=⟨λb c f g=>k.box b c f (h.box b c f g),λt i=>k.tg t (h.tg t i)⟩
theorem KeptS.mono{s a:S}{d cs:List Nat}(h:KeptS s a d)(e:∀b∈d,b∈cs):KeptS s a cs:=⟨λb c f g=>h.box b c (λi=>f (e b i)) g,h.tg⟩
section
variable{U:TyU}{C:Cod U}
theorem zDP{P:Program}{syn:List PanicEntry}{f:Nat}{c:CP U}(h:CPOk C P syn f c){x:zA c.io}{a:zA c.as}{oc:Option (zA c.oo×zA c.rs)}(L:c.fn x a (some none) (λu v=>some (some (u,v)))=some oc)
 {s:S} {l r:List V} {g i:List Res} (G:VKs C s c.io x l g) (H:VKs C s c.as a r i) (I:(g++i).Nodup) (J:List Nat) (M:∀b,.inr b∈g++i->b∈J) (N:∀t,.inl t∉g++i) :
 FnC P f (l++r) s λo m=>KeptS s m J/\match oc with
  |none=>o=.pan syn
  |some y=>∃n A B,o=.ret (finV n)/\VKs C m c.oo y.1 l A/\VKs C m c.rs y.2 n B:=by
 obtain⟨d,p,O⟩:=h x a (some none) (λu v=>some (some (u,v))) oc L;have e:d=oc:=by
  cases d with
  |none=>injection p with p
  |some y=>injection p with p
 subst e;have D:∀z∈g++i,InS s z:=λz j=>by
  rcases zWe.1 j with j|j
  .exact jN c.io x G z j
  .exact jN c.as a H z j
 refine qg (zDb (O s l r g i G H I) (zCD I D)) ?_;rintro oc m ⟨W,q,rfl,k⟩;refine⟨⟨λb c E Q=>(zCB k (λF=>E (M b F)) Q).1,λt F=>(zGl k (N t) F).1⟩,?_⟩;cases d with
 |none=>
  cases oc with
  |pan e=>exact zWp Outc.pan q
  |ret w=>exact q.elim
 |some K=>
  cases oc with
  |pan e=>exact q.elim
  |ret w=>
   obtain⟨n,A,B,R,T,X,rfl⟩:=q;exact⟨n,A,B,rfl,xG c.oo K.1 R (zAQ _ _ _ _),xG c.rs K.2 T (zAQ _ _ _ _)⟩
end
end Go.Den
namespace Go.Proofs.YtfjiiknfopmcjaaGreatDoor
open Go.Al Go.Den Go.RowKit
abbrev stV(l:Str):V:=.at (.string ⟨l.toArray⟩)
abbrev tokL(x:Bool×List TokT):V:=.lst (if x.1 then .nil else .no) (x.2.map (CC.encV TI.tok))
def Rdr(s:S)(b:Nat)(x:Bool×List TokT):Prop:=Al.look s.box b=some ([tokL x],1)
theorem zME{s:S}{b:Nat}{x:Bool×List TokT}(h:Rdr s b x):VKs CC s ([rlK]:LK) ((x,()),()) [ptV b] [.inr b]:=
 ⟨_,[],_,[],rfl,rfl,⟨b,_,[],rfl,h,⟨_,[],_,[],rfl,rfl,⟨rfl,rfl⟩,rfl,rfl⟩,rfl⟩,rfl,rfl⟩
theorem zL5{s:S}{b:Nat}{x:(((Bool×List TokT)×Unit)×Unit)}{q:List Res}(h:VKs CC s ([rlK]:LK) x [ptV b] q):Rdr s b x.1.1:=by
 obtain⟨v,vs,m,n,c,o,⟨p,vs',d,a,e,f,_⟩,g⟩:=h;obtain⟨r,i,_,_,j,_,⟨k,_⟩,l,_⟩:=f;injection c with c _
 subst c;injection a with a
 injection a with a
 injection a with a
 injection a with a _ _
 subst a;subst l;subst j;subst k;exact e
theorem zIM{b c d rs:LK}{m:zA b->zA d->Option (Option (zA c×zA rs))}{x:zA b}{a:zA d}{oc:Option (zA c×zA rs)}(h:m x a=some oc):(cP b c d rs m).fn x a (some none) (λu v=>some (some (u,v)))=some oc:=by
 show Option.bind (m x a) (λo=>z8 o (some none) λy=>some (some (y.1,y.2)))=some oc;rw[h];cases oc<;>rfl
def sgn(l:List TokT)(w:Str):Bool:=match l with
 |[]=>false
 |t::_=>ieq t.kind 5&&seq t.text w
theorem zD1(fu:Nat)(x:(((Bool×List TokT)×Unit)×Unit))(w:Str):sh29 fu x (w,())=some (some (x,(sgn x.1.1.2 w,()))):=by
 obtain⟨⟨⟨c,l⟩,u⟩,d⟩:=x;unfold sh29;cases l with
 |nil=>rfl
 |cons t r=>
  have b:ilt 0 (lenI (t::r))=true:=zAm (by show(0:Int)<((r.length+1:Nat):Int);omega);have a:inB 0 (List.length (t::r))=true:=yJ (by omega) (by show(0:Int)<((r.length+1:Nat):Int);omega);refine zH b (zH a ?_);show cond (ieq t.kind 5) _ _=some (some (_,(ieq t.kind 5&&seq t.text w,())));cases ieq t.kind 5 with
  |true=>
   show cond (inB 0 (List.length (t::r))) _ _=_;rw[a];rfl
  |false=>rfl
abbrev Y1:=(((Bool×List TokT)×Unit)×Unit)
def aft(x:Bool×List TokT)(b:Bool):Bool×List TokT:=cond b (x.1,x.2.tail) x
theorem cutT(t:TokT)(r:List TokT):cutL (t::r) 1 (lenI (t::r))=r:=zMj (t::r) 1
theorem zUt(fu:Nat)(x:Y1)(w:Str):sh30 fu (sh29 fu) x (w,())=some (some (((aft x.1.1 (sgn x.1.1.2 w),()),()),(sgn x.1.1.2 w,()))):=by
 obtain⟨⟨⟨a,l⟩,u⟩,c⟩:=x;unfold sh30;refine yA (zD1 fu (((a,l),()),()) w) ?_;refine zAC ?_;show cond (!(sgn l w)) _ _=_;cases b:sgn l w with
 |false=>rfl
 |true=>
  cases l with
  |nil=>cases b
  |cons t r=>
   refine zl rfl (zH ?_ ?_)
   .show inS 1 (lenI (t::r)) (List.length (t::r))=true;unfold inS lenI;simp;omega
   .show some (some ((((a,cutL (t::r) 1 (lenI (t::r))),()),()),(true,())))=_;rw[cutT];rfl
theorem k29(fu:Nat)(sy:List PanicEntry):CPOk CC Tryz.prog sy 29 (cP ([rlK]:LK) ([rlK]:LK) ([.str]:LK) ([.bool]:LK) (sh29 fu)):=con29 fu
theorem k30(fu:Nat)(sy:List PanicEntry):CPOk CC Tryz.prog sy 30 (cP ([rlK]:LK) ([rlK]:LK) ([.str]:LK) ([.bool]:LK) (sh30 fu (sh29 fu))):=con30 fu (sh29 fu) (k29 fu sy)
theorem zQi{s:S}(w:Str):VKs CC s ([.str]:LK) ((w,()):Str×Unit) [stV w] []:=⟨_,[],[],[],rfl,rfl,⟨rfl,rfl⟩,rfl,rfl⟩
theorem sm29{s:S}{b:Nat}{x:Bool×List TokT}(h:Rdr s b x)(w:Str):FnC Tryz.prog 29 [ptV b,stV w] s λo c=>KeptS s c [b]/\o=.ret (.at (.bool (sgn x.2 w)))/\Rdr c b x:=by
 refine qg (zDP (k29 0 []) (x:=((x,()),())) (a:=((w,()):Str×Unit)) (oc:=some (((x,()),()),(sgn x.2 w,()))) (zIM (zD1 0 ((x,()),()) w)) (zME h) (zQi w) (by simp) [b] (by simp) (by simp)) ?_;rintro o c ⟨d,g,i,j,rfl,e,f⟩;obtain⟨v,vs,_,_,rfl,_,⟨rfl,_⟩,rfl,_⟩:=f;exact⟨d,rfl,zL5 e⟩
theorem sm30{s:S}{b:Nat}{x:Bool×List TokT}(h:Rdr s b x)(w:Str):FnC Tryz.prog 30 [ptV b,stV w] s λo c=>KeptS s c [b]/\o=.ret (.at (.bool (sgn x.2 w)))/\Rdr c b (aft x (sgn x.2 w)):=by
 refine qg (zDP (k30 0 []) (x:=((x,()),())) (a:=((w,()):Str×Unit)) (oc:=some (((aft x (sgn x.2 w),()),()),(sgn x.2 w,()))) (zIM (zUt 0 ((x,()),()) w)) (zME h) (zQi w) (by simp) [b] (by simp) (by simp)) ?_;rintro o c ⟨d,g,i,j,rfl,e,f⟩;obtain⟨v,vs,_,_,rfl,_,⟨rfl,_⟩,rfl,_⟩:=f;exact⟨d,rfl,zL5 e⟩
attribute [local congr] qy jb jw zAB xx jE xP xN qk jV qo j0 qr jD xF xW qn jt jx qL jY qp qQ qO qv ql qR jG qm qK zAA j9 jv jZ ja je qq qN qM
theorem zG7{P:Program}{L:Pol}{ds:List (Option Nat)}{KP:List PanicEntry->S->Prop}{K:Env->S->Prop}{e:Env}{st:S}{d:Option Nat}{ty:TypeId}{a:String}{c:Array Edge}{b:List Oper}(t:TypeId)(x:Operand) :
 AL P L ds KP (⟨d,.makeInterface t x,ty,a,c,none⟩::b) K e st=zFH P t (e.ev x) λv=>AL P L ds KP b K (e.putO d v) st:=propext zXt
theorem zRB{P:Program}{L:Pol}{ds:List (Option Nat)}{KP:List PanicEntry->S->Prop}{K:Env->S->Prop}{e:Env}{st:S}{d:Option Nat}{ty:TypeId}{a:String}{b:Array Edge}{f:List Oper}(x:Operand) :
 AL P L ds KP (⟨d,.panic x,ty,a,b,none⟩::f) K e st=zIr (e.ev x) λc=>KP c st:=propext zXt
set_option maxRecDepth 100000 in
theorem sm28(s:S)(b:Bool)(e:Int):FnC Tryz.prog 28 [.at (.bool b),.at (.int .i64 e)] s λo c=>c=s/\o=if b=true then .ret (.tup [])else .pan (sE e):=by
 refine zAU Tryz.func28 rfl Tryz.ntmps28 Tryz.results28 (by show 2<=9;decide) λB=>?_;simp only[zWY,zWR,zWc,jh,Nat.reduceAdd]
 (repeat (first|(refine zn ?_)|(refine zd ?_;simp -failIfUnchanged only[zC,zE])|(refine zo ?_;simp -failIfUnchanged only[zb,zY,zk,za])|(refine zh ?_;simp -failIfUnchanged only[zX,zW,zC,zE,reduceIte])|(refine zZ ?_)|((first|(refine zp polN ks28 _ rfl rfl ?_)|(refine zi polN mixed ks28 _ rfl rfl (by kernel_rfl) (by kernel_rfl) ?_));simp only[↓yE,↓xi,↓zG2,zC,zF,zG,zI,zP,zg,zj,zEW,zWE,zWA,Nat.reduceEqDiff,reduceCtorEq,ks28])))
 refine qP rfl (λh=>?_) (λh=>?_)
 .have a:b=false:=by cases b<;>simp at h ⊢
  subst a
  (repeat (first|(refine zn ?_)|(refine zd ?_;simp -failIfUnchanged only[zC,zE])|(refine zo ?_;simp -failIfUnchanged only[zb,zY,zk,za])|(refine zh ?_;simp -failIfUnchanged only[zX,zW,zC,zE,reduceIte])|(refine zZ ?_)|((first|(refine zp polN ks28 _ rfl rfl ?_)|(refine zi polN mixed ks28 _ rfl rfl (by kernel_rfl) (by kernel_rfl) ?_));simp only[↓xi,↓zMT,zF,zG,zI,zP,zj,zV6,zV9,zWE,zWA,Nat.reduceEqDiff,zWO,ks28,zG7,zRB])))
  refine zI0 (cs:=[.at (.int .i64 0)]) (cs':=[.at (.int .i64 e)]) (by kernel_rfl) (by kernel_rfl) rfl ?_;exact⟨by kernel_rfl,rfl,rfl⟩
 .have a:b=true:=by cases b<;>simp at h ⊢
  subst a;refine zd ?_;exact⟨rfl,rfl⟩
theorem k28(e:Int):CPOk CC Tryz.prog (sE e) 28 (cNd e):=by
 intro x a R h K r c;obtain⟨b,e',y⟩:=a;change Bool at b;change Int at e';replace c:cond b (K () ()) (cond (ieq e' e) h none)=some r:=c;cases b with
 |true=>
  refine⟨some ((),()),c,λs i j k l d f m=>?_⟩;simp only[VKs,VK]at d f;obtain⟨rfl,rfl⟩:=d;obtain⟨v,w,n,o,rfl,rfl,⟨rfl,rfl⟩,v',w',p,q,rfl,rfl,⟨rfl,rfl⟩,rfl,rfl⟩:=f;refine qg (sm28 _ true e') ?_;rintro oc t ⟨rfl,rfl⟩;exact⟨[],[],[],⟨rfl,rfl⟩,⟨rfl,rfl⟩,by simp,rfl⟩
 |false=>
  cases g:ieq e' e with
  |false=>rw[g]at c;cases c
  |true=>
   have u:e'=e:=by rw[zBl]at g;exact zXA g
   subst u;rw[g]at c;refine⟨none,c,λs i j k l d f m=>?_⟩;simp only[VKs,VK]at d f;obtain⟨rfl,rfl⟩:=d;obtain⟨v,w,n,o,rfl,rfl,⟨rfl,rfl⟩,v',w',p,q,rfl,rfl,⟨rfl,rfl⟩,rfl,rfl⟩:=f;refine qg (sm28 _ false e') ?_;rintro oc t ⟨rfl,rfl⟩;rfl
theorem k27(fu:Nat)(e:Int):CPOk CC Tryz.prog (sE e) 27 (cP ([rlK]:LK) ([rlK]:LK) ([.int .i64]:LK) ([.str]:LK) (sh27 fu e)):=con27 fu e (k28 e)
def wrd(l:List TokT):Option Str:=match l with
 |[]=>none
 |t::_=>if t.kind=1 then some t.text else none
theorem zUw(fu:Nat)(e:Int)(x:Bool×List TokT):sh27 fu e ((x,()),()) (e,())=some ((wrd x.2).map λw=>((((x.1,x.2.tail),()),()),(w,()))):=by
 obtain⟨d,l⟩:=x;unfold sh27;have b:ieq e e=true:=zPz rfl;cases l with
 |nil=>
  refine zl rfl ?_;show cond (ieq e e) _ _=_;rw[b];rfl
 |cons t r=>
  have f:ilt 0 (lenI (t::r))=true:=zAm (by show(0:Int)<((r.length+1:Nat):Int);omega);have c:inB 0 (List.length (t::r))=true:=yJ (by omega) (by show(0:Int)<((r.length+1:Nat):Int);omega);have g:inS 1 (lenI (t::r)) (List.length (t::r))=true:=by unfold inS lenI;simp;omega
  refine zH f (zH c ?_);show cond (ieq t.kind 1) _ _=some ((if t.kind=1 then some t.text else none).map _);rw[zBl];by_cases a:t.kind=1
  .rw[zWm a,if_pos a];show cond (inB 0 (List.length (t::r))) (cond (inS 1 (lenI (t::r)) (List.length (t::r))) _ _) _=_;rw[c,g];show some (some ((((d,cutL (t::r) 1 (lenI (t::r))),()),()),(t.text,())))=_;rw[cutT];rfl
  .rw[zWz a,if_neg a];show cond (ieq e e) _ _=_;rw[b];rfl
theorem sm27{s:S}{b:Nat}{x:Bool×List TokT}(h:Rdr s b x)(e:Int):FnC Tryz.prog 27 [ptV b,.at (.int .i64 e)] s λo f=>KeptS s f [b]/\match wrd x.2 with
 |none=>o=.pan (sE e)
 |some w=>o=.ret (stV w)/\Rdr f b (x.1,x.2.tail):=by
 obtain⟨oc,c⟩:∃oc:Option (Y1×Str×Unit),oc=(wrd x.2).map λw=>((((x.1,x.2.tail),()),()),(w,())):=⟨_,rfl⟩;refine qg (zDP (k27 0 e) (x:=((x,()),())) (a:=((e,()):Int×Unit)) (oc:=oc) (zIM ((zUw 0 e x).trans (zWp some c.symm))) (zME h) ⟨_,[],[],[],rfl,rfl,⟨rfl,rfl⟩,rfl,rfl⟩ (by simp) [b] (by simp) (by simp)) ?_;rintro o f ⟨i,d⟩;refine⟨i,?_⟩;cases g:wrd x.2 with
 |none=>
  obtain rfl:oc=none:=by rw[c,g];rfl
  exact d
 |some w=>
  obtain rfl:oc=some ((((x.1,x.2.tail),()),()),(w,())):=by rw[c,g];rfl
  obtain⟨k,l,m,rfl,d,j⟩:=d;obtain⟨v,vs,_,_,rfl,_,⟨rfl,_⟩,rfl,_⟩:=j;exact⟨rfl,zL5 d⟩
end Go.Proofs.YtfjiiknfopmcjaaGreatDoor
end
namespace Go.Proofs.YtfjiiknfopmcjaaGreatDoor
section
open Go.Al Go.Den Go.RowKit
def vaS:Str:=[95,95,86,65,95,65,82,71,83,95,95]
def parE(l:List TokT)(P:List Str)(v:Bool):Option (List TokT×List Str×Bool):=if sgn l [41]=true then some (l.tail,P,v)else none
def parA(v:Bool):Nat->List TokT->List Str->Option (List TokT×List Str×Bool)
 |0,_,_=>none
 |n+1,l,P=>if sgn l [46,46,46]=true then parE l.tail P true else match wrd l with
  |none=>none
  |some w=>if w≠vaS/\w∉P then(if sgn l.tail [44]=true then parA v n l.tail.tail (P++[w])else parE l.tail (P++[w]) v)else none
def parS(l:List TokT)(v:Bool):Option (List TokT×List Str×Bool):=if sgn l [41]=true then some (l.tail,[],v)else parA v (l.length+1) l []
attribute [local congr] qy jb jw zAB xx jE xP xN qk jV qo j0 qr jD xF xW qn jt jx qL jY qp qQ qO qv ql qR jG qm qK zAA j9 jv jZ ja je qq qN qM
def KeptB(s a:S)(d:List Nat):Prop:=∀b c,b∉d->Al.look s.box b=some c->Al.look a.box b=some c
theorem KeptB.trans{s d e:S}{a:List Nat}(h:KeptB s d a)(k:KeptB d e a):KeptB s e a:=λb c f g=>k b c f (h b c f g)
theorem toB{s a:S}{c:List Nat}(h:KeptS s a c){cs:List Nat}(d:∀b∈c,b∈cs):KeptB s a cs:=(h.mono d).box
def Par(s:S)(v:V)(P:List Str):Prop:=(v=.lst .nil []/\P=[])\/∃t,v=.lst (.own t true 1) (P.map stV)/\t∈s.tg
theorem Par.kept{s a:S}{b:List Nat}{v:V}{P:List Str}(h:Par s v P)(k:KeptS s a b):Par a v P:=by
 rcases h with h|⟨t,c,d⟩
 .exact .inl h
 .exact .inr ⟨t,c,k.tg t d⟩
def MacB(s:S)(b:Nat)(a c:V)(P:List Str)(d:Bool)(bd:V):Prop:=∃v,Al.look s.box b=some ([a,c,v,.at (.bool d),bd],5)/\Par s v P
def Q31(c b:Nat)(d e bd:V)(f:Bool)(o:Option (List TokT×List Str×Bool))(s:S)(oc:Outc)(a:S):Prop:=KeptB s a [c,b]/\match o with
 |none=>oc=.pan (sE 61)/\∃cs,Al.look a.box b=some (cs,5)
 |some y=>oc=.ret (.tup [])/\Rdr a c (f,y.1)/\MacB a b d e y.2.1 y.2.2 bd
theorem sm27n{s:S}{b:Nat}{a:Bool}{l:List TokT}(h:Rdr s b (a,l))(e:Int)(c:wrd l=none):FnC Tryz.prog 27 [ptV b,.at (.int .i64 e)] s λo d=>KeptS s d [b]/\o=.pan (sE e):=by
 have:=sm27 h e;simp only[c]at this;exact this
theorem sm27s{s:S}{b:Nat}{a:Bool}{l:List TokT}(h:Rdr s b (a,l))(e:Int){w:Str}(d:wrd l=some w):FnC Tryz.prog 27 [ptV b,.at (.int .i64 e)] s λo c=>KeptS s c [b]/\o=.ret (stV w)/\Rdr c b (a,l.tail):=by
 have:=sm27 h e;simp only[d]at this;exact this
theorem MacB.kept{s a:S}{b:Nat}{c:List Nat}{d e bd:V}{P:List Str}{v:Bool}(h:MacB s b d e P v bd)(k:KeptS s a c)(f:b∉c):MacB a b d e P v bd:=by
 obtain⟨u,g,i⟩:=h;exact⟨u,k.box _ _ f g,i.kept k⟩
theorem zBK(P:Program)(d:BinOp)(t:TypeId)(c:Bool)(a b:ByteArray)(K:V->Prop):zB8 P d t c (.at (.string a)) (.at (.string b)) K=aBin P d t (.at (.string a)) (.at (.string b)) K:=propext zXt
theorem zCO(a b:ByteArray)(K:V->Prop):aStr .neq a b K=K (.at (.bool !(a.toList==b.toList))):=propext zXt
abbrev zLF:Pol:=⟨λf=>f==50,λ_=>false,λ_=>false,λ_=>false,[],λ_=>[]⟩
theorem zUi(fu:Nat)(P:List Str)(w:Str)(m:P.length<fu)(g:P.length<=2000000):sh50 fu (λ_=>false) P w=some (decide (w∈P),()):=by
 unfold sh50;refine xy (λst=>∃(k:Nat),st=(((k:Int),()),())/\k<=P.length/\w∉P.take k) (λst=>P.length-st.1.1.toNat) ?_ fu _ ⟨0,rfl,Nat.zero_le _,by simp⟩ (by show P.length-0<fu;omega);rintro rec st ⟨k,rfl,n,d⟩ b;dsimp only;refine jS (λa=>?_) λf=>?_
 .replace a:k<P.length:=zEP a;have i:List.getD P (Int.toNat (k:Int)) []=P[k]:=qH a;have j:P.length-(k+1)<P.length-k:=by omega
  rw[i,i1 (by omega)];refine zH (yJ (by omega) (by omega)) ?_;rw[zBg];by_cases c:w=P[k]
  .have l:w∈P:=by rw[c];exact zXZ a
   rw[zWm c,zWm l];show some (ile 0 (k:Int),())=_;rw[ile_t (by omega)]
  .rw[zWz c];refine b _ ⟨k+1,rfl,a,?_⟩ j;rw[xT a,zWe];rintro(h|h)
   .exact d h
   .exact c (zW1.1 h)
 .have e:k=P.length:=by
   have g:(P.length:Int)<=(k:Int):=f;omega
  subst e;rw[zW6]at d;rw[zWz d];rfl
theorem pure50{s:S}{v:V}{P:List Str}(h:Par s v P)(w:Str)(b:P.length<=2000000):PureF Tryz.prog 50 [v.untag,stV w] (.at (.bool (decide (w∈P)))):=by
 have a:∀n:Bool,PureF Tryz.prog 50 [.lst (if n then .nil else .no) (P.map (CC.encV TI.str)),stV w] (.at (.bool (decide (w∈P)))):=λn=>by
  have:=con50 (P.length+1) (P,w,()) (decide (w∈P),()) (zUi _ P w (by omega) b) [.lst (if n then .nil else .no) (P.map (CC.encV TI.str)),stV w] ⟨_,_,rfl,⟨n,rfl⟩,_,_,rfl,rfl,rfl⟩;exact this
 rcases h with⟨rfl,rfl⟩|⟨t,rfl,_⟩
 .exact a true
 .have e:(V.lst (Tag.own t true 1) (List.map stV P)).untag=.lst (if P.isEmpty=true then .nil else .no) (P.map (CC.encV TI.str)):=by
   cases P<;>rfl
  rw[e];exact a P.isEmpty
theorem Par.tgs{s a:S}{v:V}{P:List Str}(h:Par s v P)(k:∀t∈s.tg,t∈a.tg):Par a v P:=by
 rcases h with h|⟨t,b,c⟩
 .exact .inl h
 .exact .inr ⟨t,b,k t c⟩
theorem zFp{f s:S}{d:List Nat}(h:KeptB f s d){b:Nat}(c:List V×Nat)(i:b∈d)(tg:List Nat)(nx:Nat):KeptB f ⟨Al.lay s.box b c,tg,nx,s.ob⟩ d:=λg j a k=>by
 show Al.look (Al.lay s.box b c) g=_;rw[zR,if_neg (λe=>a (by rw[<-e];exact i))];exact h g j a k
theorem zMe{b d:Nat}{i:Bool}{l:List TokT}{P:List Str}{v:Bool}{j k bd:V}{m n:S}{o:Option (List TokT×List Str×Bool)}(y:KeptB m n [b,d])(z:Rdr n b (i,l))(A:MacB n d j k P v bd)(p:b≠d)(t:o=parE l P v) :
 AL Tryz.prog polN [some 39,some 40,some 41] (λc s=>retE Tryz.prog [] (Q31 b d j k bd i o m) (Exit.panic c) [] s)
  [⟨some 40,.call ⟨.value (.func 30),#[.tmp 39,.const (.string ⟨#[41]⟩)],#[72,9]⟩,4, "macro.go:67",#[⟨0,.data⟩],none⟩,
   ⟨some 41,.call ⟨.value (.func 28),#[.tmp 40,.const (.int .i64 61)],#[4,33]⟩,0, "macro.go:67",#[⟨1,.data⟩,⟨1,.chain⟩],none⟩]
  (λe' B=>retE Tryz.prog [] (Q31 b d j k bd i o m) Exit.normal [] B) (Env.putO [(0,ptV b)] (some 39) (ptV b)) n:=by
 refine yI [ptV b,stV [41]] rfl rfl rfl zEa (by simp only[zV6,zV9,zWK,zWZ,zP,zT,yg,zF,zG,zI,zWE,zWA,reduceCtorEq,zz,zWJ]) (by simp only[zV6,zV9,zP,zT,yg,zF,zG,zI,zWE,zWA,reduceCtorEq];exact .keep (.keep .nil)) (sm30 z [41]) (λr s a=>?_) (λc s a=>(by first|(obtain⟨_,a,_⟩:=a;cases a;done)|(obtain⟨_,_,_,a,_⟩:=a;cases a;done)|(obtain⟨_,_,a,_⟩:=a;cases a;done)));obtain⟨w,q,x⟩:=a;injection q with q
 subst q;have g:=A.kept w (by simp[zW8 p]);have h:=y.trans (toB w (cs:=[b,d]) (by simp));refine yI [.at (.bool (sgn l [41])),.at (.int .i64 61)] rfl rfl rfl kC (by simp only[zV6,zV9,zWK,zWZ,zP,zT,yH,zF,zG,zI,zWE,zWA,Nat.reduceEqDiff,reduceCtorEq,zz,zWJ]) (by simp only[zV6,zV9,zP,zT,yH,zF,zG,zI,zWE,zWA,Nat.reduceEqDiff,reduceCtorEq];exact .keep (.keep .nil)) (sm28 _ _ 61) (λr s a=>?_) (λc s a=>?_)
 .obtain⟨rfl,a⟩:=a;cases f:sgn l [41]with
  |false=>rw[f]at a;cases a
  |true=>
   simp only[↓yE];have e:o=some (l.tail,P,v):=t.trans (if_pos f);rw[e];rw[f]at x;exact⟨h,rfl,x,g⟩
 .obtain⟨rfl,a⟩:=a;cases f:sgn l [41]with
  |true=>rw[f]at a;cases a
  |false=>
   rw[f]at a;have e:o=none:=t.trans (if_neg (by rw[f];simp));obtain⟨u,C,D⟩:=g;show Q31 b d j k bd i o m (.pan c) _;rw[e];exact⟨h,a,_,C⟩
set_option maxRecDepth 100000 in
theorem sm31{G:S}{f i:Nat}{x:Bool×List TokT}{I J bd:V}{k:Bool}(h:Rdr G f x)(hm:MacB G i I J [] k bd)(g:f≠i)(hx:x.2.length<=1100000) :
 FnC Tryz.prog 31 [ptV f,ptV i] G (Q31 f i I J bd x.1 (parS x.2 k) G):=by
 refine zAU Tryz.func31 rfl Tryz.ntmps31 Tryz.results31 (by show 2<=42;decide) λB=>?_;simp only[zWY,zWR,zWc,jh,Nat.reduceAdd]
 (repeat (first|(refine zn ?_)|(refine zd ?_;simp -failIfUnchanged only[zC,zE])|(refine zo ?_;simp -failIfUnchanged only[zb,zY,zk,za])|(refine zh ?_;simp -failIfUnchanged only[zX,zW,zC,zE,reduceIte])|(refine zZ ?_)|((first|(refine zp polN ks31 _ rfl rfl ?_)|(refine zi polN mixed ks31 _ rfl rfl (by kernel_rfl) (by kernel_rfl) ?_));simp only[↓xi,zC,yM,zG,zI,zP,zg,zj,zV6,zV9,zWE,zWA,reduceCtorEq,ks31])))
 refine yI [ptV f,stV [41]] rfl rfl rfl zEa (by simp only[zV6,zV9,zWK,zWZ,zP,zT,yg,zF,zG,zI,zWE,zWA,Nat.reduceEqDiff,reduceCtorEq,zz,zWJ]) (by simp only[zV6,zV9,zP,zT,yg,zF,zG,zI,zWE,zWA,Nat.reduceEqDiff,reduceCtorEq];exact .keep (.keep .nil)) (sm30 h [41]) (λr s d=>?_) (λc s d=>(by first|(obtain⟨_,d,_⟩:=d;cases d;done)|(obtain⟨_,_,_,d,_⟩:=d;cases d;done)|(obtain⟨_,_,d,_⟩:=d;cases d;done)));obtain⟨W,o,h1⟩:=d;injection o with o
 subst o;simp only[↓yE,zF,zG,zI,zWE,zWA,Nat.reduceEqDiff,reduceCtorEq];refine qP rfl (λN=>?_) (λhf=>?_)
 . (repeat (first|(refine zn ?_)|(refine zd ?_;simp -failIfUnchanged only[zC,zE])|(refine zo ?_;simp -failIfUnchanged only[zb,zY,zk,za])|(refine zh ?_;simp -failIfUnchanged only[zX,zW,zC,zE,reduceIte])|(refine zZ ?_)|((first|(refine zp polN ks31 _ rfl rfl ?_)|(refine zi polN mixed ks31 _ rfl rfl (by kernel_rfl) (by kernel_rfl) ?_));simp only[])))
   have e:parS x.2 k=some (x.2.tail,[],k):=if_pos N;rw[e];obtain⟨v,q,H⟩:=hm;refine⟨toB W (by simp),rfl,?_,v,W.box _ _ (by simp[zW8 g]) q,H.kept W⟩;rw[N]at h1;exact h1
 . (repeat (first|(refine zn ?_)|(refine zd ?_;simp -failIfUnchanged only[zC,zE])|(refine zo ?_;simp -failIfUnchanged only[zb,zY,zk,za])|(refine zh ?_;simp -failIfUnchanged only[zX,zW,zC,zE,reduceIte])|(refine zZ ?_)|((first|(refine zp polN ks31 _ rfl rfl ?_)|(refine zi polN mixed ks31 _ rfl rfl (by kernel_rfl) (by kernel_rfl) ?_));simp only[])))
   have h2:Rdr s f x:=by rw[hf]at h1;exact h1
   have aa:MacB s i I J [] k bd:=by
    obtain⟨v,q,H⟩:=hm;exact⟨v,W.box _ _ (by simp[zW8 g]) q,H.kept W⟩
   refine zS9 (α:=S×(Bool×List TokT)×List Str) (λz=>KeptB G z.1 [f,i]/\Rdr z.1 f z.2.1/\z.2.1.1=x.1/\MacB z.1 i I J z.2.2 k bd/\z.2.2.length+z.2.1.2.length<=x.2.length/\∃n,z.2.1.2.length<n/\parS x.2 k=parA k n z.2.1.2 z.2.2)
    (λz=>z.2.1.2.length) (λ_=>[(0,ptV f),(1,ptV i)]) (λz=>z.1) (s,x,[]) ⟨toB W (by simp),h2,rfl,aa,by simp,_,zXk _,if_neg (by rw[hf];simp)⟩ (Env.sub_of _ [(0,ptV f),(1,ptV i)] (λp M=>by simp only[zWB,zWu,zXc]at M;rcases M with rfl|rfl<;>rfl)) (S.sub_refl _) ?_
   rintro⟨s1,⟨nb,l⟩,P⟩ ⟨g1,g2,g3,g4,g8,n,g5,y⟩;simp only at g1 g2 g3 g4 g5 y g8;subst g3;have hP:P.length<=2000000:=by omega
   (repeat (first|(refine zn ?_)|(refine zd ?_;simp -failIfUnchanged only[zC,zE])|(refine zo ?_;simp -failIfUnchanged only[zb,zY,zk,za])|(refine zh ?_;simp -failIfUnchanged only[zX,zW,zC,zE,reduceIte])|(refine zZ ?_)|((first|(refine zp polN ks31 _ rfl rfl ?_)|(refine zi polN mixed ks31 _ rfl rfl (by kernel_rfl) (by kernel_rfl) ?_));simp only[↓xi,zC,yM,qj,zG,zI,zP,zg,zj,zV6,zV9,zWE,zWA,reduceCtorEq,ks31])))
   refine yI [ptV f,stV [46,46,46]] rfl rfl rfl zEa (by simp only[zV6,zV9,zWK,zWZ,zP,zT,yg,zF,zG,zI,zWE,zWA,Nat.reduceEqDiff,reduceCtorEq,zz,zWJ]) (by simp only[zV6,zV9,zP,zT,yg,zF,zG,zI,zWE,zWA,Nat.reduceEqDiff,reduceCtorEq];exact .keep (.keep .nil)) (sm30 g2 [46,46,46]) (λr s d=>?_) (λc s d=>(by first|(obtain⟨_,d,_⟩:=d;cases d;done)|(obtain⟨_,_,_,d,_⟩:=d;cases d;done)|(obtain⟨_,_,d,_⟩:=d;cases d;done)));obtain⟨O,o,X⟩:=d;injection o with o
   subst o;simp only[↓yE,zF,zG,zI,zWE,zWA,Nat.reduceEqDiff,reduceCtorEq];refine qP rfl (λN=>?_) (λu=>?_)
   .obtain⟨v,q,H⟩:=g4;have q3:=O.box _ _ (by simp[zW8 g]) q
    (repeat (first|(refine zn ?_)|(refine zd ?_;simp -failIfUnchanged only[zC,zE])|(refine zo ?_;simp -failIfUnchanged only[zb,zY,zk,za])|(refine zh ?_;simp -failIfUnchanged only[zX,zW,zC,zE,reduceIte])|(refine zZ ?_)|((first|(refine zp polN ks31 _ rfl rfl ?_)|(refine zi polN mixed ks31 _ rfl rfl (by kernel_rfl) (by kernel_rfl) ?_));simp only[↓yE,↓xi,↓qD,↓qt,↓qe,zC,zF,qF,zG,zI,zP,zT,xz,zg,zj,yi,qB,xV,zu,yB,spl,zV6,zV9,zWY,zWR,zXR,zJ,V.isOne,V.flat,zWK,zWZ,zWC,zWI,zWg,zWl,zWW,zWo,zWj,zWJ,zWE,zWA,zXJ,Nat.reduceAdd,Nat.reduceEqDiff,Nat.reduceLeDiff,reduceCtorEq,zWP,zW4,zGZ,zEU,zU8,ks31,q3])))
    refine zMe ?_ ?_ ⟨v,by rw[zR,if_pos rfl],(H.kept O).tgs λ_ h=>h⟩ g (y.trans (by rw[show n=(n-1)+1 by omega];exact if_pos N))
    .exact zFp (g1.trans (toB O (by simp))) _ (by simp) _ _
    .show Al.look (lay _ i _) f=_;rw[zR,if_neg (zW8 g)];simp only[N]at X;exact X
   .obtain⟨m,rfl⟩:∃m,n=m+1:=⟨n-1,by omega⟩;simp only[u]at X
    (repeat (first|(refine zn ?_)|(refine zd ?_;simp -failIfUnchanged only[zC,zE])|(refine zo ?_;simp -failIfUnchanged only[zb,zY,zk,za])|(refine zh ?_;simp -failIfUnchanged only[zX,zW,zC,zE,reduceIte])|(refine zZ ?_)|((first|(refine zp polN ks31 _ rfl rfl ?_)|(refine zi polN mixed ks31 _ rfl rfl (by kernel_rfl) (by kernel_rfl) ?_));simp only[↓xi,zC,yM,qj,zG,zI,zP,zg,zj,zV6,zV9,zWE,zWA,reduceCtorEq,ks31])))
    cases A:wrd l with
    |none=>
     refine yI [ptV f,.at (.int .i64 61)] rfl rfl rfl zIo (by simp only[zV6,zV9,zWK,zWZ,zP,zT,yH,zF,zG,zI,zWE,zWA,Nat.reduceEqDiff,reduceCtorEq,zz,zWJ]) (by simp only[zV6,zV9,zP,zT,yH,zF,zG,zI,zWE,zWA,Nat.reduceEqDiff,reduceCtorEq];exact .keep (.keep .nil)) (sm27n X 61 A) (λr s d=>?_) (λc s d=>?_)
     .cases d.2
     .obtain⟨Y,d⟩:=d;have e:parS x.2 k=none:=by
       rw[y];show(if sgn l [46,46,46]=true then _ else match wrd l with|none=>none|some w=>_)=none;rw[u,A];rfl
      obtain⟨v,q,H⟩:=(g4.kept O (by simp[zW8 g])).kept Y (by simp[zW8 g]);show Q31 f i I J bd x.1 (parS x.2 k) G (.pan c) _;rw[e];exact⟨(g1.trans (toB O (by simp))).trans (toB Y (by simp)),d,_,q⟩
    |some w=>
     refine yI [ptV f,.at (.int .i64 61)] rfl rfl rfl zIo (by simp only[zV6,zV9,zWK,zWZ,zP,zT,yH,zF,zG,zI,zWE,zWA,Nat.reduceEqDiff,reduceCtorEq,zz,zWJ]) (by simp only[zV6,zV9,zP,zT,yH,zF,zG,zI,zWE,zWA,Nat.reduceEqDiff,reduceCtorEq];exact .keep (.keep .nil)) (sm27s X 61 A) (λr s d=>?_) (λc s d=>?_)
     .obtain⟨Y,o,h4⟩:=d;injection o with o
      subst o;simp only[↓yE,↓zAK,zF,zG,zI,zP,zWE,zWA,Nat.reduceEqDiff,reduceCtorEq];have g7:=(g4.kept O (by simp[zW8 g])).kept Y (by simp[zW8 g]);have k4:=(g1.trans (toB O (cs:=[f,i]) (by simp))).trans (toB Y (cs:=[f,i]) (by simp));obtain⟨v,q,H⟩:=g7;by_cases Z:w=vaS
      .have hB:(w==[95,95,86,65,95,65,82,71,83,95,95])=true:=by rw[Z];exact zYD vaS
       (repeat (first|(refine zn ?_)|(refine zd ?_;simp -failIfUnchanged only[zC,zE])|(refine zo ?_;simp -failIfUnchanged only[zb,zY,zk,za])|(refine zh ?_;simp -failIfUnchanged only[zX,zW,zC,zE,reduceIte])|(refine zZ ?_)|((first|(refine zp zLF ks31 _ rfl rfl ?_)|(refine zi zLF mixed ks31 _ rfl rfl (by kernel_rfl) (by kernel_rfl) ?_));simp only[↓xq,↓xi,↓jL,↓zIP,↓zG2,↓qD,↓yq,↓qe,zC,yM,qj,zF,zG,zI,zP,zT,xz,yg,zg,zj,zDL,xX,yi,yb,yP,zu,yB,zXU,zV6,zV9,zXR,yO,yN,zWC,zWI,zWg,zWl,zWW,zWo,zWf,zWq,zWj,zWJ,zWE,zWA,zXJ,Nat.reduceAdd,Nat.reduceEqDiff,Nat.reduceLeDiff,reduceCtorEq,zWO,zWP,zW4,yj,zDf,zJA,zJC,zGn,zGd,ks31,zBK,zCO,xM,hB,zYR,q])))
       refine yI [.at (.bool false),.at (.int .i64 61)] rfl rfl rfl kC (by simp only[zV6,zV9,zWK,zWZ,zP,zT,yH,zF,zG,zI,zWE,zWA,Nat.reduceEqDiff,reduceCtorEq,zz,zWJ]) (by simp only[zV6,zV9,zP,zT,yH,zF,zG,zI,zWE,zWA,Nat.reduceEqDiff,reduceCtorEq];exact .keep (.keep .nil)) (sm28 _ _ 61) (λr s d=>?_) (λc s d=>?_)
       .cases d.2
       .obtain⟨rfl,d⟩:=d;have e:parS x.2 k=none:=by
         rw[y];show(if sgn l [46,46,46]=true then _ else match wrd l with|none=>none|some w=>_)=none;rw[u,A];exact if_neg (λh:w≠vaS/\w∉P=>h.1 Z)
        show Q31 f i I J bd x.1 (parS x.2 k) G (.pan c) _;rw[e];exact⟨k4,d,_,q⟩
      .have hB:(w==[95,95,86,65,95,65,82,71,83,95,95])=false:=zZD Z
       (repeat (first|(refine zn ?_)|(refine zd ?_;simp -failIfUnchanged only[zC,zE])|(refine zo ?_;simp -failIfUnchanged only[zb,zY,zk,za])|(refine zh ?_;simp -failIfUnchanged only[zX,zW,zC,zE,reduceIte])|(refine zZ ?_)|((first|(refine zp zLF ks31 _ rfl rfl ?_)|(refine zi zLF mixed ks31 _ rfl rfl (by kernel_rfl) (by kernel_rfl) ?_));simp only[↓xq,↓xi,↓jL,↓zIP,↓zG2,↓qD,↓yq,↓qe,zC,yM,qj,zF,zG,zI,zP,zT,xz,yg,zg,zj,zDL,yi,yb,yP,zu,yB,zXU,zV6,zV9,zXR,yO,yN,zWC,zWI,zWg,zWl,zWW,zWo,zWf,zWq,zWj,zWJ,zWE,zWA,zXJ,Nat.reduceAdd,Nat.reduceEqDiff,Nat.reduceLeDiff,reduceCtorEq,zWO,zWP,zW4,yj,qf,zJA,zJC,zGn,zGd,ks31,zBK,zCO,xM,hB,zZK,q])))
       have ab:v.flat.all V.isOne=true:=by rcases H with⟨rfl,_⟩|⟨t,rfl,_⟩<;>rfl
       (refine zSq (pure50 H w hP) rfl code50 (by simp only[zV6,zV9,zP,zF,zG,zI,zWE,zWA,Nat.reduceEqDiff,reduceCtorEq,Go.Al.untag_at]) (by simp only[zV6,zV9,zWK,zWZ,zP,zF,zG,zI,zWE,zWA,Nat.reduceEqDiff,reduceCtorEq,zz,zWJ,ab]) ?_;simp only[↓xq,↓jL,↓zG2,zF,zG,zI,zP,zT,xz,zEW,xX,zWf,zWq,zWE,zWA,Nat.reduceEqDiff,reduceCtorEq])
       by_cases C:w∈P
       .rw[zWm C];simp only[zF,zG,zI,zWE,zWA,Nat.reduceEqDiff,reduceCtorEq,yj,qf];refine yI [.at (.bool false),.at (.int .i64 61)] rfl rfl rfl kC (by simp only[zV6,zV9,zWK,zWZ,zP,zT,yH,zF,zG,zI,zWE,zWA,Nat.reduceEqDiff,reduceCtorEq,zz,zWJ]) (by simp only[zV6,zV9,zP,zT,yH,zF,zG,zI,zWE,zWA,Nat.reduceEqDiff,reduceCtorEq];exact .keep (.keep .nil)) (sm28 _ _ 61) (λr s d=>?_) (λc s d=>?_)
        .cases d.2
        .obtain⟨rfl,d⟩:=d;have e:parS x.2 k=none:=by
          rw[y];show(if sgn l [46,46,46]=true then _ else match wrd l with|none=>none|some w=>_)=none;rw[u,A];exact if_neg (λh:w≠vaS/\w∉P=>h.2 C)
         show Q31 f i I J bd x.1 (parS x.2 k) G (.pan c) _;rw[e];exact⟨k4,d,_,q⟩
       .rw[zWz C];simp only[zF,zG,zI,zWE,zWA,Nat.reduceEqDiff,reduceCtorEq,yj,qf];refine yI [.at (.bool true),.at (.int .i64 61)] rfl rfl rfl kC (by simp only[zV6,zV9,zWK,zWZ,zP,zT,yH,zF,zG,zI,zWE,zWA,Nat.reduceEqDiff,reduceCtorEq,zz,zWJ]) (by simp only[zV6,zV9,zP,zT,yH,zF,zG,zI,zWE,zWA,Nat.reduceEqDiff,reduceCtorEq];exact .keep (.keep .nil)) (sm28 _ _ 61) (λr s d=>?_) (λc s d=>?_)
        .obtain⟨rfl,d⟩:=d;injection d with d
         subst d;simp only[↓yE,zF,zG,zI,zWE,zWA,Nat.reduceEqDiff,reduceCtorEq];rcases H with⟨rfl,rfl⟩|⟨t,rfl,N⟩
         . (repeat (first|(refine zn ?_)|(refine zd ?_;simp -failIfUnchanged only[zC,zE])|(refine zo ?_;simp -failIfUnchanged only[zb,zY,zk,za])|(refine zh ?_;simp -failIfUnchanged only[zX,zW,zC,zE,reduceIte])|(refine zZ ?_)|((first|(refine zp polN ks31 _ rfl rfl ?_)|(refine zi polN mixed ks31 _ rfl rfl (by kernel_rfl) (by kernel_rfl) ?_));simp only[↓yE,↓xi,↓qD,↓yq,↓qt,↓zFU,↓qe,↓zJ8,zC,yM,qj,zF,qF,zG,zI,zP,zg,zj,yi,yb,yP,qB,xV,zu,yB,zII,zSa,zU9,zDr,spl,zEL,zLV,zOM,jl,zKc,zH0,pow24,zFW,zXC,zXU,zYC,Go.Al.untag_at,zV6,zV9,zWY,zWR,zXR,zYD,yO,yN,zJ,V.isOne,V.size,V.flat,zWK,zWZ,zWC,zWI,zWg,zWl,zWW,zWo,zWf,zWq,zWj,zWJ,zX3,zWE,zWA,zXJ,Nat.reduceAdd,Nat.reduceEqDiff,Nat.reduceLeDiff,reduceCtorEq,zWO,zWP,zW4,zCY,zBP,zQe,zero9,zJA,zJC,zGn,elT22,zGd,ks31,q])))
           generalize K:S.mk _ _ _ _=S5;have Q:KeptB G S5 [f,i]:=K▸zFp k4 _ (by simp) _ _;have R:Rdr S5 f (x.1,l.tail):=by
            rw[<-K];show Al.look (lay _ i _) f=_;rw[zR,if_neg (zW8 g)];exact h4
           have T:MacB S5 i I J ([]++[w]) k bd:=by
            rw[<-K];exact⟨.lst (.own s.nx true 1) ([w].map stV),by rw[zR,if_pos rfl];rfl,.inr ⟨_,rfl,zWr⟩⟩
           clear K;refine yI [ptV f,stV [44]] rfl rfl rfl zEa (by simp only[zV6,zV9,zWK,zWZ,zP,zT,yg,zF,zG,zI,zWE,zWA,Nat.reduceEqDiff,reduceCtorEq,zz,zWJ]) (by simp only[zV6,zV9,zP,zT,yg,zF,zG,zI,zWE,zWA,Nat.reduceEqDiff,reduceCtorEq];exact .keep (.keep .nil)) (sm30 R [44]) (λr s d=>?_) (λc s d=>(by first|(obtain⟨_,d,_⟩:=d;cases d;done)|(obtain⟨_,_,_,d,_⟩:=d;cases d;done)|(obtain⟨_,_,d,_⟩:=d;cases d;done)));obtain⟨k6,o,L⟩:=d;injection o with o
           subst o;simp only[↓yE,↓zG2,zF,zG,zI,zP,zEW,zWE,zWA,Nat.reduceEqDiff,reduceCtorEq];have D:=T.kept k6 (by simp[zW8 g]);have E:=Q.trans (toB k6 (cs:=[f,i]) (by simp));have hl:l≠[]:=λe=>by rw[e]at A;cases A
           have ac:l.tail.length<l.length:=by cases l with|nil=>exact absurd rfl hl|cons a b=>simp
           have F:parA k (m+1) l []=if sgn l.tail [44]=true then parA k m l.tail.tail ([]++[w])else parE l.tail ([]++[w]) k:=by
            show(if sgn l [46,46,46]=true then _ else match wrd l with|none=>none|some w=>_)=_;rw[u,A];exact if_pos (And.intro Z C)
           rw[F]at y;refine qP rfl (λU=>?_) (λU=>?_)
           .have j:sgn l.tail [44]=false:=by simpa using U
            rw[j]at L
            (repeat (first|(refine zn ?_)|(refine zd ?_;simp -failIfUnchanged only[zC,zE])|(refine zo ?_;simp -failIfUnchanged only[zb,zY,zk,za])|(refine zh ?_;simp -failIfUnchanged only[zX,zW,zC,zE,reduceIte])|(refine zZ ?_)|((first|(refine zp polN ks31 _ rfl rfl ?_)|(refine zi polN mixed ks31 _ rfl rfl (by kernel_rfl) (by kernel_rfl) ?_));simp only[↓xi,zG,zI,zP,zj,zV6,zV9,zWE,zWA,reduceCtorEq,ks31])))
            exact zMe E L D g (y.trans (if_neg (by rw[j];simp)))
           .have j:sgn l.tail [44]=true:=by simpa using U
            rw[j]at L
            (repeat (first|(refine zn ?_)|(refine zd ?_;simp -failIfUnchanged only[zC,zE])|(refine zo ?_;simp -failIfUnchanged only[zb,zY,zk,za])|(refine zh ?_;simp -failIfUnchanged only[zX,zW,zC,zE,reduceIte])|(refine zZ ?_)|((first|(refine zp polN ks31 _ rfl rfl ?_)|(refine zi polN mixed ks31 _ rfl rfl (by kernel_rfl) (by kernel_rfl) ?_));simp only[])))
            refine⟨(s,(x.1,l.tail.tail),[]++[w]),⟨E,L,rfl,D,?_,m,?_,y.trans (if_pos j)⟩,?_,Env.sub_of _ [(0,ptV f),(1,ptV i)] (λp M=>by simp only[zWB,zWu,zXc]at M;rcases M with rfl|rfl<;>rfl),S.sub_refl _⟩
            .simp only[zWD,zYE,zWC,zWI]at *;omega
            .simp only[zYE]at *;omega
            .simp only[zYE]at *;omega
         . (repeat (first|(refine zn ?_)|(refine zd ?_;simp -failIfUnchanged only[zC,zE])|(refine zo ?_;simp -failIfUnchanged only[zb,zY,zk,za])|(refine zh ?_;simp -failIfUnchanged only[zX,zW,zC,zE,reduceIte])|(refine zZ ?_)|((first|(refine zp polN ks31 _ rfl rfl ?_)|(refine zi polN mixed ks31 _ rfl rfl (by kernel_rfl) (by kernel_rfl) ?_));simp only[↓yE,↓xi,↓qD,↓yq,↓qt,↓zFU,↓qe,↓zJ8,zC,zF,qF,zG,zI,zP,zg,zj,yi,yb,yP,qB,xV,zu,yB,zII,zSR,zDr,spl,zEL,zLV,zOM,jl,zKc,zH0,pow24,zFW,zXC,zXU,zYC,Go.Al.untag_at,zV6,zV9,zWY,zWR,zXR,zYD,yO,yN,zJ,V.isOne,V.size,V.flat,zWK,zWZ,zWC,zWI,zWg,zWl,zWW,zWo,zWf,zWq,zWG,zWj,zWJ,zX3,zWE,zWA,zXJ,Nat.reduceAdd,Nat.reduceEqDiff,Nat.reduceLeDiff,reduceCtorEq,zWO,zWP,zW4,zCY,zBP,zQe,zero9,zJA,zJC,zGn,elT22,zGd,ks31,q])))
           refine⟨⟨by omega,by simp only[maxLen];omega⟩,N,?_⟩
           (repeat (first|(refine zn ?_)|(refine zd ?_;simp -failIfUnchanged only[zC,zE])|(refine zo ?_;simp -failIfUnchanged only[zb,zY,zk,za])|(refine zh ?_;simp -failIfUnchanged only[zX,zW,zC,zE,reduceIte])|(refine zZ ?_)|((first|(refine zp polN ks31 _ rfl rfl ?_)|(refine zi polN mixed ks31 _ rfl rfl (by kernel_rfl) (by kernel_rfl) ?_));simp only[↓xi,zC,yM,qj,zG,zI,zP,zg,zj,zV6,zV9,zWE,zWA,reduceCtorEq,ks31])))
           generalize K:S.mk _ _ _ _=S5;have Q:KeptB G S5 [f,i]:=K▸zFp k4 _ (by simp) _ _;have R:Rdr S5 f (x.1,l.tail):=by
            rw[<-K];show Al.look (lay _ i _) f=_;rw[zR,if_neg (zW8 g)];exact h4
           have T:MacB S5 i I J (P++[w]) k bd:=by
            rw[<-K];exact⟨.lst (.own s.nx true 1) (P.map stV++[stV w]),by rw[zR,if_pos rfl],.inr ⟨_,by rw[zWy];rfl,zWr⟩⟩
           clear K;refine yI [ptV f,stV [44]] rfl rfl rfl zEa (by simp only[zV6,zV9,zWK,zWZ,zP,zT,yg,zF,zG,zI,zWE,zWA,Nat.reduceEqDiff,reduceCtorEq,zz,zWJ]) (by simp only[zV6,zV9,zP,zT,yg,zF,zG,zI,zWE,zWA,Nat.reduceEqDiff,reduceCtorEq];exact .keep (.keep .nil)) (sm30 R [44]) (λr s d=>?_) (λc s d=>(by first|(obtain⟨_,d,_⟩:=d;cases d;done)|(obtain⟨_,_,_,d,_⟩:=d;cases d;done)|(obtain⟨_,_,d,_⟩:=d;cases d;done)));obtain⟨k6,o,L⟩:=d;injection o with o
           subst o;simp only[↓yE,↓zG2,zF,zG,zI,zP,zEW,zWE,zWA,Nat.reduceEqDiff,reduceCtorEq];have D:=T.kept k6 (by simp[zW8 g]);have E:=Q.trans (toB k6 (cs:=[f,i]) (by simp));have hl:l≠[]:=λe=>by rw[e]at A;cases A
           have ac:l.tail.length<l.length:=by cases l with|nil=>exact absurd rfl hl|cons a b=>simp
           have F:parA k (m+1) l P=if sgn l.tail [44]=true then parA k m l.tail.tail (P++[w])else parE l.tail (P++[w]) k:=by
            show(if sgn l [46,46,46]=true then _ else match wrd l with|none=>none|some w=>_)=_;rw[u,A];exact if_pos (And.intro Z C)
           rw[F]at y;refine qP rfl (λU=>?_) (λU=>?_)
           .have j:sgn l.tail [44]=false:=by simpa using U
            rw[j]at L
            (repeat (first|(refine zn ?_)|(refine zd ?_;simp -failIfUnchanged only[zC,zE])|(refine zo ?_;simp -failIfUnchanged only[zb,zY,zk,za])|(refine zh ?_;simp -failIfUnchanged only[zX,zW,zC,zE,reduceIte])|(refine zZ ?_)|((first|(refine zp polN ks31 _ rfl rfl ?_)|(refine zi polN mixed ks31 _ rfl rfl (by kernel_rfl) (by kernel_rfl) ?_));simp only[↓xi,zG,zI,zP,zj,zV6,zV9,zWE,zWA,reduceCtorEq,ks31])))
            exact zMe E L D g (y.trans (if_neg (by rw[j];simp)))
           .have j:sgn l.tail [44]=true:=by simpa using U
            rw[j]at L
            (repeat (first|(refine zn ?_)|(refine zd ?_;simp -failIfUnchanged only[zC,zE])|(refine zo ?_;simp -failIfUnchanged only[zb,zY,zk,za])|(refine zh ?_;simp -failIfUnchanged only[zX,zW,zC,zE,reduceIte])|(refine zZ ?_)|((first|(refine zp polN ks31 _ rfl rfl ?_)|(refine zi polN mixed ks31 _ rfl rfl (by kernel_rfl) (by kernel_rfl) ?_));simp only[])))
            refine⟨(s,(x.1,l.tail.tail),P++[w]),⟨E,L,rfl,D,?_,m,?_,y.trans (if_pos j)⟩,?_,Env.sub_of _ [(0,ptV f),(1,ptV i)] (λp M=>by simp only[zWB,zWu,zXc]at M;rcases M with rfl|rfl<;>rfl),S.sub_refl _⟩
            .simp only[zWD,zYE,zWC,zWI]at *;omega
            .simp only[zYE]at *;omega
            .simp only[zYE]at *;omega
        .cases d.2
     .cases d.2.1
end
section
open Go.Al Go.Den
section
variable{X α:Type}
def EE(r:Int->Option (Option X)):Prop:=(∃y,∀e,r e=some (some y))\/∃e,e≠0/\r e=some none
theorem zJX(y:X):EE λ_=>some (some y):=.inl ⟨y,λ_=>rfl⟩
theorem zDS{k:Int}(a:k≠0):EE (X:=X) λe=>cond (ieq k e) (some none) none:=.inr ⟨k,a,by show cond (ieq k k) _ _=_;rw[zPz rfl];rfl⟩
theorem xk{c:Bool}{a b:Int->Option (Option X)}(d:c=true->EE a)(f:c=false->EE b):EE λe=>cond c (a e) (b e):=by
 cases c with
 |true=>exact d rfl
 |false=>exact f rfl
theorem zEO{c:Bool}{a b:Int->Option (Option X)}(h:c=true)(f:EE a):EE λe=>cond c (a e) (b e):=xk (λ_=>f) (λd=>by rw[h]at d;cases d)
theorem zGr{x:Option α}{v:α}{F:α->Int->Option (Option X)}(a:x=some v)(h:EE (F v)):EE λe=>Option.bind x λy=>F y e:=by subst a;exact h
theorem zOx{σ:Type}{F:Int->(σ->Option (Option X))->σ->Option (Option X)}(I:σ->Prop)(μ:σ->Nat)
 (step:∀(rec:Int->σ->Option (Option X)) s,I s->(∀a,I a->μ a<μ s->EE λe=>rec e a)->EE λe=>F e (rec e) s):∀(n:Nat)(s:σ),I s->μ s<n->EE λe=>iter n (F e) s:=by
 intro n
 induction n with
 |zero=>intro s _ h;omega
 |succ n c=>
  intro s d g;exact step (λe=>iter n (F e)) s d λa b f=>c a b (by omega)
end
noncomputable def c51(x:MacT×Str×Unit):Option (Int×Unit):=sh51 1200000 (λ_=>false) x.1 x.2.1
theorem ok51:ConOk CC Tryz.prog 51 ⟨as51,rs51,c51⟩:=con51 1200000
theorem zPE(N:Nat)(g:1150000<N)(m:MacT)(w:Str)(h:m.params.length<=1100000):∃k:Int,sh51 N (λ_=>false) m w=some (k,()):=by
 have a:∃k:Int,iter N (λ(b:((Int×PUnit)×PUnit)->Option (Int×PUnit))(c:((Int×PUnit)×PUnit))=>
  cond (ilt c.1.1 (lenI (MacT.params m)))
   (cond (inB c.1.1 (List.length (MacT.params m)))
    (cond (seq w (List.getD (MacT.params m) (Int.toNat c.1.1) []))
     (some (c.1.1,()))
     (b (((iadd .i64 c.1.1 1),()),())))
    (none))
   (some ((Neg.neg 1),())))
  ((0,()),())=some (k,()):=by
  refine zA2 (P:=λr:Option (Int×Unit)=>∃k:Int,r=some (k,())) (λst=>∃(k:Nat),st=(((k:Int),()),())/\k<=m.params.length) (λst=>m.params.length-st.1.1.toNat) ?_ N _ ⟨0,rfl,Nat.zero_le _⟩ (by show m.params.length-0<_;omega);rintro rec st ⟨k,rfl,i⟩ d;dsimp only;by_cases e:k<m.params.length
  .rw[zAm (by show(k:Int)<(m.params.length:Int);omega),yJ (by omega) (by omega),i1 (by omega)];show∃f,cond (seq w _) _ _=some (f,());cases seq w (List.getD m.params (Int.toNat (k:Int)) [])with
   |true=>exact⟨_,rfl⟩
   |false=>exact d _ ⟨k+1,rfl,e⟩ (by show m.params.length-(k+1)<m.params.length-k;omega)
  .rw[zCn (by show(m.params.length:Int)<=(k:Int);omega)];exact⟨_,rfl⟩
 unfold sh51;cases m.variadic with
 |true=>
  cases seq w [95,95,86,65,95,65,82,71,83,95,95]with
  |true=>exact⟨_,rfl⟩
  |false=>exact a
 |false=>exact a
theorem zSM(m:MacT)(w:Str)(a:m.params.length<=1100000):∃k:Int,c51 (m,w,())=some (k,()):=zPE 1200000 (by omega) m w a
theorem va33{N:Nat}(h:1150000<N)(L:List TokT)(i:L.length<=1100000):EE λd=>iter N (λ(a:((Int×PUnit)×PUnit)->Option (Option (PUnit×PUnit)))(b:((Int×PUnit)×PUnit))=>
 cond (ilt b.1.1 (lenI L))
  (cond (inB b.1.1 (List.length L))
   (cond (ieq (TokT.kind (List.getD L (Int.toNat b.1.1) tokD)) 1)
    (cond (seq (TokT.text (List.getD L (Int.toNat b.1.1) tokD)) [95,95,86,65,95,65,82,71,83,95,95])
     (cond (!(ile 0 b.1.1))
      (some (Option.some ((),())))
      (cond (ieq 65 d)
       (some Option.none)
       (none)))
     (a (((iadd .i64 b.1.1 1),()),())))
    (a (((iadd .i64 b.1.1 1),()),())))
   (none))
  (cond (!(ile 0 (Neg.neg 1)))
   (some (Option.some ((),())))
   (cond (ieq 65 d)
    (some Option.none)
    (none))))
 ((0,()),()):=by
 refine zOx (λst=>∃(k:Nat),st=(((k:Int),()),())/\k<=L.length) (λst=>L.length-st.1.1.toNat) ?_ N _ ⟨0,rfl,Nat.zero_le _⟩ (by show L.length-0<_;omega);rintro rec st ⟨k,rfl,j⟩ f;dsimp only;refine xk (λc=>?_) (λ_=>xk (λ_=>zJX _) (λ_=>zDS (by omega)));have c:k<L.length:=by
  have l:(k:Int)<(L.length:Int):=zXA c;omega
 have g:EE λe=>rec e ((((k+1:Nat):Int),()),()):=f _ ⟨k+1,rfl,c⟩ (by show L.length-(k+1)<L.length-k;omega);rw[i1 (by omega)];refine zEO (yJ (by omega) (by omega)) ?_;refine xk (λ_=>?_) (λ_=>g);refine xk (λ_=>?_) (λ_=>g);exact xk (λ_=>zJX _) (λ_=>zDS (by omega))
theorem zPA{X α:Type}{v:α}{F:α->Int->Option (Option X)}(h:EE (F v)):EE λe=>z8 (some v) (some none) λy=>F y e:=h
theorem zOq{X σ:Type}(P:σ->Prop){F:Int->(σ->Option (Option X))->Option (Option X)}{J:Int->σ->Option (Option X)}(a:∀st,P st->EE λe=>J e st)(h:∀j:Int->σ->Option (Option X),(∀st,P st->EE λe=>j e st)->EE λe=>F e (j e)):EE λe=>qU (F e) (J e):=h J a
theorem inS1{α:Type}{l:List α}(h:0<l.length):inS 1 (lenI l) (List.length l)=true:=by unfold inS lenI;simp;omega
theorem b33{N:Nat}(p:1150000<N)(m:MacT)(q:m.body.2.length<=1100000)(s:m.params.length<=1100000):EE λe=>sh33 N c51 e (sh29 N) () (m,()):=by
 unfold sh33;have c:0<m.body.2.length->inS (isub .i64 (lenI m.body.2) 1) (lenI m.body.2) m.body.2.length=true:=λh=>by
  rw[zJp _ _ (by unfold lenI;omega) (by unfold lenI;omega)];unfold inS lenI;simp;omega
 refine zGr (zD1 _ (((m.body.1,m.body.2),()),()) [35,35]) ?_;refine zPA ?_;refine xk (λ_=>?_) (λ_=>zDS (by omega));refine zOq (λst=>st.2.1=(m.name,m.func,m.params,m.variadic,(m.body.1,m.body.2),())) ?_ ?_
 .rintro⟨⟨⟩,t,rd⟩ d;replace d:t=(m.name,m.func,m.params,m.variadic,(m.body.1,m.body.2),()):=d;subst d;dsimp only;refine zOx (λst=>∃l:List TokT,st=((),(m.name,m.func,m.params,m.variadic,(m.body.1,m.body.2),()),(((m.body.1,l),()),()))/\l.length<=m.body.2.length) (λst=>st.2.2.1.1.2.length) ?_ N _ ⟨m.body.2,rfl,Nat.le_refl _⟩ (by show m.body.2.length<_;omega);rintro rec st ⟨l,rfl,u⟩ f;dsimp only;have g:EE (λe=>cond m.variadic (some (Option.some ((),()))) _):=xk (λ_=>zJX ((),())) (λ_=>va33 p m.body.2 q);refine xk (λ_=>?_) (λ_=>g);refine xk (λb=>?_) (λ_=>g);have b:0<l.length:=by
   have n:(0:Int)<(l.length:Int):=zXA b;omega
  refine zOq (λst=>st=((),(m.name,m.func,m.params,m.variadic,(m.body.1,m.body.2),()),(((m.body.1,l),()),()))) ?_ ?_
  .rintro st rfl;dsimp only;refine zEO (inS1 b) ?_;refine f _ ⟨_,rfl,?_⟩ ?_
   .cases l with
    |nil=>cases b
    |cons a r=>rw[cutT];simp at u;omega
   .show(cutL l 1 (lenI l)).length<l.length;cases l with
    |nil=>cases b
    |cons a r=>rw[cutT];simp
  .intro j i;refine zGr (zD1 _ (((m.body.1,l),()),()) [35]) ?_;refine zPA ?_;refine xk (λ_=>?_) (λ_=>i _ rfl);refine xk (λo=>?_) (λ_=>zDS (by omega));have o:1<l.length:=by
    have n:(1:Int)<(l.length:Int):=zXA o;omega
   refine zEO (yJ (by omega) (by show(1:Int)<(l.length:Int);omega)) ?_;refine xk (λ_=>?_) (λ_=>zDS (by omega));refine zEO (yJ (by omega) (by show(1:Int)<(l.length:Int);omega)) ?_;obtain⟨k,v⟩:=zSM m (TokT.text (List.getD l 1 tokD)) s;refine zGr v ?_;exact xk (λ_=>i _ rfl) (λ_=>zDS (by omega))
 .intro j i;refine xk (λb=>?_) (λ_=>i _ rfl);have b:0<m.body.2.length:=by
   have n:(0:Int)<(m.body.2.length:Int):=zXA b;omega
  refine zEO (c b) ?_;refine zGr (zD1 _ (((m.body.1,cutL m.body.2 (isub .i64 (lenI m.body.2) 1) (lenI m.body.2)),()),()) [35,35]) ?_;refine zPA ?_;exact xk (λ_=>i _ rfl) (λ_=>zDS (by omega))
open Classical in
noncomputable def chk(m:MacT):Option Int:=if h:∃e,e≠0/\sh33 1200000 c51 e (sh29 1200000) () (m,())=some none then some (Classical.choose h)else none
theorem zM3(m:MacT)(b:m.body.2.length<=1100000)(c:m.params.length<=1100000):match chk m with
 |none=>∀e,sh33 1200000 c51 e (sh29 1200000) () (m,())=some (some ((),()))
 |some e=>e≠0/\sh33 1200000 c51 e (sh29 1200000) () (m,())=some none:=by
 unfold chk;split
 .rename_i e a;split at a
  .cases a
  .rename_i d;intro e;rcases b33 (N:=1200000) (by omega) m b c with⟨y,f⟩|h
   .exact f e
   .exact absurd h d
 .rename_i e a;split at a
  .rename_i h;injection a with a
   subst a;exact Classical.choose_spec h
  .cases a
end
section
open Go.Al Go.Den Go.RowKit
def fstS:Code->Code|.seq a _=>a|c=>c
def sndS:Code->Code|.seq _ b=>b|c=>c
noncomputable def zCi:Code:=sndS (sndS (sndS (ze Tryz.f15)))
noncomputable def c15_5:Code:=fstS (sndS (sndS zCi))
noncomputable def zFo:Code:=sndS (sndS (sndS zCi))
noncomputable def zIv:Code:=sndS (sndS zFo)
def zM:MacT:=⟨[],false,[],false,(true,[])⟩
def dfS:Str:=[100,101,102,105,110,101,100]
def hdS(l:List TokT):Except Int (Bool×List Str×Bool×List TokT):=
 match l with
 |[]=>.ok (false,[],false,[])
 |u::r=>if sgn (u::r) [40]=true/\u.blank=false then(match parS r false with
  |none=>.error 61
  |some y=>.ok (true,y.2.1,y.2.2,y.1))else if u.blank=true then .ok (false,[],false,u::r)else .error 62
noncomputable def endS(a:Str)(b:Bool)(P:List Str)(c:Bool)(r:List TokT):MacT×Int:=match chk ⟨a,b,P,c,(false,noB r)⟩with
 |none=>(⟨a,b,P,c,(false,noB r)⟩,0)
 |some e=>(zM,e)
noncomputable def defS(l:List TokT):MacT×Int:=match wrd l with
 |none=>(zM,60)
 |some a=>if a=dfS\/a=vaS then(zM,60)else match hdS l.tail with
  |.error e=>(zM,e)
  |.ok y=>endS a y.1 y.2.1 y.2.2.1 y.2.2.2
attribute [local congr] qy jb jw zAB xx jE xP xN qk jV qo j0 qr jD xF xW qn jt jx qL jY qp qQ qO qv ql qR jG qm qK zAA j9 jv jZ ja je qq qN qM
abbrev X15(n:Nat)(df:List Deferred):Cx:=⟨n,⟨71,[(2,.pointer (some ⟨n,0,none⟩)),(3,.pointer (some ⟨n+1,0,none⟩))]⟩,none,df⟩
abbrev e15(n:Nat):Env:=[(2,ptV n),(3,ptV (n+1)),(4,ptV (n+2))]
theorem z0:(((0:Nat):Int)==0)=true:=rfl
theorem z1(k:Nat):(((k+1:Nat):Int)==0)=false:=by
 have:((k+1:Nat):Int)≠0:=by omega
 simpa using this
theorem z2(k:Nat):((0:Int)<((k+1:Nat):Int))=True:=eq_true (by omega)
theorem z3:((0:Int)<=0)=True:=eq_true (by omega)
theorem z4:Int.toNat 0=0:=rfl
def ErrB(s:S)(n:Nat):Prop:=Al.look s.box (n+1)=some ([.at (.int .i64 0)],1)
def Q15(n:Nat)(o:MacT×Int):Exit->Env->S->Prop
 |.ret,_,s=>o.2=0/\MacB s n (stV o.1.name) (.at (.bool o.1.func)) o.1.params o.1.variadic (tokL o.1.body)/\ErrB s n
 |.panic c,_,s=>(o.1=zM/\c=sE o.2)/\(∃cs,Al.look s.box n=some (cs,5))/\ErrB s n
 |_,_,_=>False
theorem zIx{e:Env}{n:Nat}(b:e.get 2=ptV n)(c:e.get 3=ptV (n+1))(d:e.get 4=ptV (n+2)):e.sub (e15 n):=Env.sub_of e (e15 n) (λp a=>by
 simp only[zWB,zWu,zXc]at a;rcases a with rfl|rfl|rfl
 .exact b
 .exact c
 .exact d)
set_option maxRecDepth 100000 in
theorem part5{n:Nat}{df:List Deferred}{s:S}{l:List TokT}{q:Str}{Q:Exit->Env->S->Prop}(R:Rdr s (n+2) (false,l))(T:MacB s n (stV q) (.at (.bool false)) [] false (.lst .nil []))(U:ErrB s n)(W:l.length<=1100000)
 (x:∀e j I P J r,hdS l=.ok (I,P,J,r)->e.sub (e15 n)->Rdr j (n+2) (false,r)->MacB j n (stV q) (.at (.bool I)) P J (.lst .nil [])->ErrB j n->Q .normal e j)
 (K:∀e j er,hdS l=.error er->(∃cs,Al.look j.box n=some (cs,5))->ErrB j n->Q (.panic (sE er)) e j):awp Tryz.prog (X15 n df) c15_5 Q (e15 n) s:=by
 simp only[c15_5,zCi,sndS,fstS,ze,Tryz.f15,zXB]
 (repeat (first|(refine zn ?_)|(refine zd ?_;simp -failIfUnchanged only[zC,zE])|(refine zo ?_;simp -failIfUnchanged only[zb,zY,zk,za])|(refine zh ?_;simp -failIfUnchanged only[zX,zW,zC,zE,reduceIte])|(refine zZ ?_)|((first|(refine zp polN ks15 _ rfl rfl ?_)|(refine zi polN mixed ks15 _ rfl rfl (by kernel_rfl) (by kernel_rfl) ?_));simp only[↓xf,zC,yM,zG,zI,zP,zg,zj,zV6,zV9,zWE,zWA,Nat.reduceEqDiff,ks15])))
 refine yI [ptV (n+2),stV [40]] rfl rfl rfl zMW (by simp only[zV6,zV9,zWK,zWZ,zP,zT,yg,zF,zG,zI,zWE,zWA,Nat.reduceEqDiff,zz,zWJ]) (by simp only[zV6,zV9,zP,zT,yg,zF,zG,zI,zWE,zWA,Nat.reduceEqDiff];exact .keep (.keep .nil)) (sm29 R [40]) (λr s a=>?_) (λc s a=>(by first|(obtain⟨_,a,_⟩:=a;cases a;done)|(obtain⟨_,_,_,a,_⟩:=a;cases a;done)|(obtain⟨_,_,a,_⟩:=a;cases a;done)));obtain⟨L,m,p⟩:=a;injection m with m
 subst m;have g:=T.kept L (by simp);have i:ErrB s n:=L.box _ _ (by simp) U;cases l with
 |nil=>
  have t:Al.look s.box (n+2)=some ([.lst .no []],1):=p;have v:sgn ([]:List TokT) [40]=false:=rfl;simp only[↓xq,↓yE,↓xf,↓jL,zF,zG,zI,zP,zT,xz,xX,zWf,zWq,zWE,zWA,Nat.reduceEqDiff,zWO,yj,zDf,v];refine qP rfl (λh=>by cases h) (λ_=>?_)
  (repeat (first|(refine zn ?_)|(refine zd ?_;simp -failIfUnchanged only[zC,zE])|(refine zo ?_;simp -failIfUnchanged only[zb,zY,zk,za])|(refine zh ?_;simp -failIfUnchanged only[zX,zW,zC,zE,reduceIte])|(refine zZ ?_)|((first|(refine zp polN ks15 _ rfl rfl ?_)|(refine zi polN mixed ks15 _ rfl rfl (by kernel_rfl) (by kernel_rfl) ?_));simp only[↓xq,↓xf,↓jL,↓zBc,↓ye,↓kK,↓yq,↓zAI,↓zGP,zF,zG,zI,zP,zT,yH,xz,zg,zj,zBk,zHa,zHO,xX,yi,yb,yP,zu,yB,zAV,zB0,zXU,zV6,zV9,zXR,yO,yN,zWC,zWI,zWg,zWW,zXb,zWf,zWq,zWj,zWJ,zX3,zWE,zWA,zXJ,Nat.reduceEqDiff,zWO,zWP,zW0,zV7,zW4,yj,zQM,zCI,zDK,zAz,zG5,zFz,zED,zEf,ks15,t,zAx,z0,z3,z4])))
  refine yI [.at (.bool true),.at (.int .i64 62)] rfl rfl rfl kC (by simp only[zV6,zV9,zWK,zWZ,zP,zT,yH,zF,zG,zI,zWE,zWA,Nat.reduceEqDiff,zz,zWJ]) (by simp only[zV6,zV9,zP,zT,yH,zF,zG,zI,zWE,zWA,Nat.reduceEqDiff];exact .keep (.keep .nil)) (sm28 _ _ 62) (λr s a=>?_) (λc s a=>?_)
  .obtain⟨rfl,a⟩:=a;simp only[↓yE,zF,zG,zI,zWE,zWA,Nat.reduceEqDiff];exact x _ _ false [] false [] rfl (zIx rfl rfl rfl) p g i
  .cases a.2
 |cons u b=>
  have t:Al.look s.box (n+2)=some ([.lst .no (.agg [.at (.int .i64 u.kind),.at (.string ⟨u.text.toArray⟩),.at (.int .i64 u.file),.at (.int .i64 u.ffrom),.at (.int .i64 u.fto),.at (.bool u.blank)]  ::b.map (CC.encV TI.tok))],1):=p;cases v:sgn (u::b) [40]with
  |false=>
   simp only[↓xq,↓yE,↓xf,↓jL,zF,zG,zI,zP,zT,xz,xX,zWf,zWq,zWE,zWA,Nat.reduceEqDiff,zWO,yj,zDf];refine qP rfl (λh=>by cases h) (λ_=>?_)
   (repeat (first|(refine zn ?_)|(refine zd ?_;simp -failIfUnchanged only[zC,zE])|(refine zo ?_;simp -failIfUnchanged only[zb,zY,zk,za])|(refine zh ?_;simp -failIfUnchanged only[zX,zW,zC,zE,reduceIte])|(refine zZ ?_)|((first|(refine zp polN ks15 _ rfl rfl ?_)|(refine zi polN mixed ks15 _ rfl rfl (by kernel_rfl) (by kernel_rfl) ?_));simp only[↓xq,↓xf,↓jL,↓zBc,↓ye,↓kK,↓yq,↓zAI,↓zGP,zF,zG,zI,zP,zT,yH,xz,zg,zj,zBk,zHa,zHO,xX,yi,zCb,yb,yP,kg,zBA,zu,yB,zAV,zB0,zXU,zV6,zV9,zXR,fits,yO,yN,zJ,V.isOne,V.isAgg,V.size,jg,zWK,zWZ,zWC,zWI,zWg,zWl,zWW,zXb,zWf,zWq,zWj,zWJ,zX3,zWE,zWA,zXJ,Nat.reduceAdd,Nat.reduceEqDiff,zWO,zWP,zW0,zV7,zW4,yj,qf,zGZ,zPJ,zEU,zCI,zDK,zAz,zG5,zFz,zED,zGb,zEf,ks15,t,zAx,z1,z2,z3,z4])))
   refine yI [.at (.bool u.blank),.at (.int .i64 62)] rfl rfl rfl kC (by simp only[zV6,zV9,zWK,zWZ,zP,zT,yH,zF,zG,zI,zWE,zWA,Nat.reduceEqDiff,zz,zWJ]) (by simp only[zV6,zV9,zP,zT,yH,zF,zG,zI,zWE,zWA,Nat.reduceEqDiff];exact .keep (.keep .nil)) (sm28 _ _ 62) (λr s a=>?_) (λc s a=>?_)
   .obtain⟨rfl,a⟩:=a;cases f:u.blank with
    |false=>rw[f]at a;cases a
    |true=>
     simp only[↓yE,zF,zG,zI,zWE,zWA,Nat.reduceEqDiff];refine x _ _ false [] false (u::b) ?_ (zIx rfl rfl rfl) p g i;show(if sgn (u::b) [40]=true/\u.blank=false then _ else if u.blank=true then _ else _)=_;rw[if_neg (λh=>by rw[f]at h;cases h.2),if_pos f]
   .obtain⟨rfl,a⟩:=a;cases f:u.blank with
    |true=>rw[f]at a;cases a
    |false=>
     rw[f]at a;injection a with a
     subst a;obtain⟨pv,D,M⟩:=g;refine K _ _ 62 ?_ ⟨_,D⟩ i;show(if sgn (u::b) [40]=true/\u.blank=false then _ else if u.blank=true then _ else _)=_;rw[if_neg (λh=>by rw[v]at h;cases h.1),if_neg (by rw[f];simp)]
  |true=>
   simp only[↓xq,↓yE,↓xf,↓jL,↓AL_un0,↓ye,↓kK,↓yq,↓zAI,zF,zG,zI,zP,zT,yH,xz,zEW,xX,yi,zCb,yb,yP,kg,zBA,zu,yB,zAV,zB0,zXU,zXR,fits,yO,yN,zJ,V.isOne,V.isAgg,V.size,jg,zWK,zWZ,zWC,zWI,zWg,zWl,zWW,zXb,zWf,zWq,zWj,zWJ,zWE,zWA,zXJ,Nat.reduceAdd,Nat.reduceEqDiff,zWO,zWP,zW0,zV7,zW4,yj,qf,zGZ,zPJ,zEU,zCI,zDK,zAz,zG5,zFz,zED,zGb,zEf,t,z2,z3,z4];refine qP rfl (λf=>?_) (λf=>?_)
   . (repeat (first|(refine zn ?_)|(refine zd ?_;simp -failIfUnchanged only[zC,zE])|(refine zo ?_;simp -failIfUnchanged only[zb,zY,zk,za])|(refine zh ?_;simp -failIfUnchanged only[zX,zW,zC,zE,reduceIte])|(refine zZ ?_)|((first|(refine zp polN ks15 _ rfl rfl ?_)|(refine zi polN mixed ks15 _ rfl rfl (by kernel_rfl) (by kernel_rfl) ?_));simp only[↓xf,zC,yM,zG,zI,zP,zg,zj,zV6,zV9,zWE,zWA,Nat.reduceEqDiff,ks15])))
     refine yI [ptV (n+2),stV [40]] rfl rfl rfl zEa (by simp only[zV6,zV9,zWK,zWZ,zP,zT,yg,zF,zG,zI,zWE,zWA,Nat.reduceEqDiff,zz,zWJ]) (by simp only[zV6,zV9,zP,zT,yg,zF,zG,zI,zWE,zWA,Nat.reduceEqDiff];exact .keep (.keep .nil)) (sm30 p [40]) (λr s a=>?_) (λc s a=>(by first|(obtain⟨_,a,_⟩:=a;cases a;done)|(obtain⟨_,_,_,a,_⟩:=a;cases a;done)|(obtain⟨_,_,a,_⟩:=a;cases a;done)));obtain⟨N,m,z⟩:=a;injection m with m
     subst m;rw[v]at z;have z:Rdr s (n+2) (false,b):=z;have E:ErrB s n:=N.box _ _ (by simp) i;obtain⟨pv,D,M⟩:=g.kept N (by simp);simp only[↓yE,zF,zG,zI,zWE,zWA,Nat.reduceEqDiff]
     (repeat (first|(refine zn ?_)|(refine zd ?_;simp -failIfUnchanged only[zC,zE])|(refine zo ?_;simp -failIfUnchanged only[zb,zY,zk,za])|(refine zh ?_;simp -failIfUnchanged only[zX,zW,zC,zE,reduceIte])|(refine zZ ?_)|((first|(refine zp polN ks15 _ rfl rfl ?_)|(refine zi polN mixed ks15 _ rfl rfl (by kernel_rfl) (by kernel_rfl) ?_));simp only[↓yE,↓xf,↓ye,↓qt,zC,zF,qF,zG,zI,zP,zT,xz,zg,zj,qB,xV,zu,yB,spl,zV6,zV9,zWY,zWR,zXR,zJ,V.isOne,V.flat,zWK,zWZ,zWC,zWI,zWg,zWl,zWW,zWo,zWj,zWJ,zWE,zWA,zXJ,Nat.reduceAdd,Nat.reduceEqDiff,Nat.reduceLeDiff,zWP,zW4,zGZ,zEU,zUr,ks15,D])))
     generalize A:S.mk _ _ _ _=S5;have X:Rdr S5 (n+2) (false,b):=by
      rw[<-A];show Al.look (lay _ n _) (n+2)=_;rw[zR,if_neg (by omega)];exact z
     have w:ErrB S5 n:=by
      rw[<-A];show Al.look (lay _ n _) (n+1)=_;rw[zR,if_neg (by omega)];exact E
     have F:MacB S5 n (stV q) (.at (.bool true)) [] false (.lst .nil []):=by
      rw[<-A];exact⟨pv,by rw[zR,if_pos rfl],M.tgs λ_ h=>h⟩
     clear A;have G:b.length<=1100000:=by simp only[zWC]at W;omega
     have d:u.blank=false:=by simpa using f
     have B:hdS (u::b)=match parS b false with|none=>.error 61|some y=>.ok (true,y.2.1,y.2.2,y.1):=if_pos ⟨v,d⟩
     have O:=sm31 X F (by omega) G;cases C:parS b false with
     |none=>
      rw[C]at B;have o:FnC Tryz.prog 31 [ptV (n+2),ptV n] S5 (Q31 (n+2) n (stV q) (.at (.bool true)) (.lst .nil []) false none S5):=by rw[<-C];exact O
      refine yI [ptV (n+2),ptV n] rfl rfl rfl zQs (by simp only[zV6,zV9,zWK,zWZ,zP,zF,zG,zI,zWE,zWA,Nat.reduceEqDiff,zz,zWJ]) (by simp only[zV6,zV9,zP,zF,zG,zI,zWE,zWA,Nat.reduceEqDiff];exact .keep (.keep .nil)) (o) (λr s a=>?_) (λc s a=>?_)
      .cases a.2.1
      .obtain⟨k,a,cs,H⟩:=a;injection a with a
       subst a;exact K _ _ 61 B ⟨cs,H⟩ (k _ _ (by simp) w)
     |some y=>
      rw[C]at B;have o:FnC Tryz.prog 31 [ptV (n+2),ptV n] S5 (Q31 (n+2) n (stV q) (.at (.bool true)) (.lst .nil []) false (some y) S5):=by rw[<-C];exact O
      refine yI [ptV (n+2),ptV n] rfl rfl rfl zQs (by simp only[zV6,zV9,zWK,zWZ,zP,zF,zG,zI,zWE,zWA,Nat.reduceEqDiff,zz,zWJ]) (by simp only[zV6,zV9,zP,zF,zG,zI,zWE,zWA,Nat.reduceEqDiff];exact .keep (.keep .nil)) (o) (λr s a=>?_) (λc s a=>?_)
      .obtain⟨k,a,Y,Z⟩:=a;injection a with a
       subst a;simp only[↓yE,zF,zG,zI,zWE,zWA,Nat.reduceEqDiff];exact x _ _ true y.2.1 y.2.2 y.1 B (zIx rfl rfl rfl) Y Z (k _ _ (by simp) w)
      .cases a.2.1
   . (repeat (first|(refine zn ?_)|(refine zd ?_;simp -failIfUnchanged only[zC,zE])|(refine zo ?_;simp -failIfUnchanged only[zb,zY,zk,za])|(refine zh ?_;simp -failIfUnchanged only[zX,zW,zC,zE,reduceIte])|(refine zZ ?_)|((first|(refine zp polN ks15 _ rfl rfl ?_)|(refine zi polN mixed ks15 _ rfl rfl (by kernel_rfl) (by kernel_rfl) ?_));simp only[↓xq,↓xf,↓jL,↓zBc,↓ye,↓kK,↓yq,↓zAI,↓zGP,zF,zG,zI,zP,zT,yH,xz,zg,zj,zBk,zHa,zHO,xX,yi,zCb,yb,yP,kg,zBA,zu,yB,zAV,zB0,zXU,zV6,zV9,zXR,fits,yO,yN,zJ,V.isOne,V.isAgg,V.size,jg,zWK,zWZ,zWC,zWI,zWg,zWl,zWW,zXb,zWf,zWq,zWj,zWJ,zX3,zWE,zWA,zXJ,Nat.reduceAdd,Nat.reduceEqDiff,zWO,zWP,zW0,zV7,zW4,yj,qf,zGZ,zPJ,zEU,zCI,zDK,zAz,zG5,zFz,zED,zGb,zEf,ks15,t,zAx,z1,z2,z3,z4])))
     refine yI [.at (.bool u.blank),.at (.int .i64 62)] rfl rfl rfl kC (by simp only[zV6,zV9,zWK,zWZ,zP,zT,yH,zF,zG,zI,zWE,zWA,Nat.reduceEqDiff,zz,zWJ]) (by simp only[zV6,zV9,zP,zT,yH,zF,zG,zI,zWE,zWA,Nat.reduceEqDiff];exact .keep (.keep .nil)) (sm28 _ _ 62) (λr s a=>?_) (λc s a=>?_)
     .obtain⟨rfl,a⟩:=a;have d:u.blank=true:=by simpa using f
      simp only[↓yE,zF,zG,zI,zWE,zWA,Nat.reduceEqDiff];refine x _ _ false [] false (u::b) ?_ (zIx rfl rfl rfl) p g i;show(if sgn (u::b) [40]=true/\u.blank=false then _ else if u.blank=true then _ else _)=_;rw[if_neg (λh=>by rw[d]at h;cases h.2),if_pos d]
     .obtain⟨rfl,a⟩:=a;have d:u.blank=true:=by simpa using f
      rw[d]at a;cases a
end
section
open Go.Al Go.Den Go.RowKit
attribute [local congr] qy jb jw zAB xx jE xP xN qk jV qo j0 qr jD xF xW qn jt jx qL jY qp qQ qO qv ql qR jG qm qK zAA j9 jv jZ ja je qq qN qM
theorem k33(e:Int):CPOk CC Tryz.prog (sE e) 33 (cP ([]:LK) ([]:LK) ([.st TI.mac]:LK) ([]:LK) (sh33 1200000 c51 e (sh29 1200000))):=con33 1200000 c51 ok51 e (k28 e) (sh29 1200000) (k29 1200000 (sE e))
theorem sm33(s:S)(m:MacT)(i:m.body.2.length<=1100000)(j:m.params.length<=1100000):FnC Tryz.prog 33 [CC.encV TI.mac m] s λo d=>KeptS s d []/\match chk m with
 |none=>o=.ret (.tup [])
 |some e=>o=.pan (sE e):=by
 have c:=zM3 m i j;have g:VKs CC s ([.st TI.mac]:LK) ((m,()):MacT×Unit) [CC.encV TI.mac m] []:=⟨_,[],[],[],rfl,rfl,⟨rfl,rfl⟩,rfl,rfl⟩;have b:VKs CC s ([]:LK) (():Unit) [] []:=⟨rfl,rfl⟩;cases h:chk m with
 |none=>
  rw[h]at c;refine qg (zDP (k33 0) (x:=(():Unit)) (a:=((m,()):MacT×Unit)) (oc:=some ((),())) (zIM (c 0)) b g (by simp) [] (by simp) (by simp)) ?_;rintro o d ⟨f,n,p,q,rfl,_,k⟩;obtain⟨rfl,_⟩:=k;exact⟨f,rfl⟩
 |some e=>
  rw[h]at c;refine qg (zDP (k33 e) (x:=(():Unit)) (a:=((m,()):MacT×Unit)) (oc:=none) (zIM c.2) b g (by simp) [] (by simp) (by simp)) ?_;rintro o d ⟨f,l⟩;exact⟨f,l⟩
theorem zO5(x:Bool×List TokT):zx (tokL x)=tokL x:=by
 obtain⟨b,l⟩:=x;cases b<;>rfl
theorem zFt{s:S}{m:MacT}{pv:V}(h:Par s pv m.params):(V.agg [stV m.name,.at (.bool m.func),pv,.at (.bool m.variadic),tokL m.body]).untag=CC.encV TI.mac m:=by
 have a:zx pv=.lst (yL (m.params.map (CC.encV TI.str))) (m.params.map (CC.encV TI.str)):=by
  rcases h with⟨rfl,e⟩|⟨t,rfl,_⟩
  .rw[e];rfl
  .rfl
 have b:=zO5 m.body;show V.agg [zx (stV m.name),zx (.at (.bool m.func)),zx pv,zx (.at (.bool m.variadic)),zx (tokL m.body)]=_;rw[a,b];rfl
set_option maxRecDepth 100000 in
theorem part13{n:Nat}{df:List Deferred}{s:S}{m:MacT}{e:Env}{Q:Exit->Env->S->Prop}(C:e=[(2,ptV n),(3,ptV (n+1))])(D:MacB s n (stV m.name) (.at (.bool m.func)) m.params m.variadic (tokL m.body))(v:ErrB s n)(z:m.body.2.length<=1100000)(u:m.params.length<=1100000)
 (A:∀e d,chk m=none->MacB d n (stV m.name) (.at (.bool m.func)) m.params m.variadic (tokL m.body)->ErrB d n->Q .ret e d)
 (B:∀e d er,chk m=some er->(∃cs,Al.look d.box n=some (cs,5))->ErrB d n->Q (.panic (sE er)) e d):awp Tryz.prog (X15 n df) zIv Q e s:=by
 subst C;obtain⟨pv,q,k⟩:=D;rcases k with⟨rfl,E⟩|⟨t,rfl,F⟩
 .have k:Par s (.lst .nil []) m.params:=.inl ⟨rfl,E⟩;have w:=zFt k;have i:=sm33 s m z u;have l:(n=n+1)=False:=eq_false (by omega);simp only[zIv,zFo,zCi,sndS,fstS,ze,Tryz.f15,zXB]
  (repeat (first|(refine zn ?_)|(refine zd ?_;simp -failIfUnchanged only[zC,zE])|(refine zo ?_;simp -failIfUnchanged only[zb,zY,zk,za])|(refine zh ?_;simp -failIfUnchanged only[zX,zW,zC,zE,reduceIte])|(refine zZ ?_)|((first|(refine zp polN ks15 _ rfl rfl ?_)|(refine zi polN mixed ks15 _ rfl rfl (by kernel_rfl) (by kernel_rfl) ?_));simp only[↓yq,zC,yM,zG,zI,zP,zg,zj,yb,yP,zYx,zV6,zV9,zXR,yO,yN,zWC,zWI,zWg,zWW,zXb,zWf,zWj,zWJ,zWE,zWA,zXJ,Nat.reduceAdd,Nat.reduceEqDiff,reduceCtorEq,zWP,zV7,zDB,zEM,zBx,ks15,q])))
  have b:Sub [V.agg [stV m.name,.at (.bool m.func),.lst .nil [],.at (.bool m.variadic),tokL m.body]] [CC.encV TI.mac m]:=by rw[<-w];exact .drop .nil
  cases j:chk m with
  |none=>
   have f:FnC Tryz.prog 33 [CC.encV TI.mac m] s λo d=>KeptS s d []/\o=.ret (.tup []):=by rw[j]at i;exact i
   refine yI [CC.encV TI.mac m] rfl rfl rfl zIJ (by simp only[zV6,zV9,zWK,zWZ,zP,zF,zG,zI,zWE,zWA,Nat.reduceEqDiff,zBN,V.isOne,zWJ]) (by simp only[zV6,zV9,zP,zF,zG,zI,zWE,zWA,Nat.reduceEqDiff];exact b) (f) (λr s a=>?_) (λc s a=>?_)
   .obtain⟨g,a⟩:=a;have x:=g.box _ _ (by simp) q;have p:Al.look s.box (n+1)=_:=g.box _ _ (by simp) v;have y:=k.kept g;simp only[↓yE,zF,zG,zI,zWE,zWA,Nat.reduceEqDiff]
    (repeat (first|(refine zn ?_)|(refine zd ?_;simp -failIfUnchanged only[zC,zE])|(refine zo ?_;simp -failIfUnchanged only[zb,zY,zk,za])|(refine zh ?_;simp -failIfUnchanged only[zX,zW,zC,zE,reduceIte])|(refine zZ ?_)|((first|(refine zp polN ks15 _ rfl rfl ?_)|(refine zi polN mixed ks15 _ rfl rfl (by kernel_rfl) (by kernel_rfl) ?_));simp only[↓yE,↓yq,↓qt,zC,zF,qF,zG,zI,zP,zT,yH,zg,zj,yb,yP,qB,xV,spl,zYx,zWR,zWc,zXR,yO,yN,zJ,V.isOne,V.flat,zWK,zWZ,zWC,zWI,zWg,zWl,zWW,zWo,zXb,zWf,zWj,zWJ,zWE,zWA,zXJ,Nat.reduceAdd,Nat.reduceEqDiff,reduceCtorEq,zWP,zV7,zR,zDB,zEM,zBx,zLf,zJf,ks15,x,p,l])))
    refine A _ _ j ⟨.lst .nil [],?_,y.tgs λ_ h=>h⟩ ?_
    .show Al.look (lay (lay _ n _) (n+1) _) n=_;rw[zR,if_neg (by omega),zR,if_pos rfl]
    .show Al.look (lay (lay _ n _) (n+1) _) (n+1)=_;rw[zR,if_pos rfl]
   .cases a.2
  |some er=>
   have f:FnC Tryz.prog 33 [CC.encV TI.mac m] s λo d=>KeptS s d []/\o=.pan (sE er):=by rw[j]at i;exact i
   refine yI [CC.encV TI.mac m] rfl rfl rfl zIJ (by simp only[zV6,zV9,zWK,zWZ,zP,zF,zG,zI,zWE,zWA,Nat.reduceEqDiff,zBN,V.isOne,zWJ]) (by simp only[zV6,zV9,zP,zF,zG,zI,zWE,zWA,Nat.reduceEqDiff];exact b) (f) (λr s a=>?_) (λc s a=>?_)
   .cases a.2
   .obtain⟨g,a⟩:=a;injection a with a
    subst a;exact B _ _ er j ⟨_,g.box _ _ (by simp) q⟩ (g.box _ _ (by simp) v)
 .have k:Par s (.lst (.own t true 1) (m.params.map stV)) m.params:=.inr ⟨t,rfl,F⟩;have w:=zFt k;have i:=sm33 s m z u;have l:(n=n+1)=False:=eq_false (by omega);simp only[zIv,zFo,zCi,sndS,fstS,ze,Tryz.f15,zXB]
  (repeat (first|(refine zn ?_)|(refine zd ?_;simp -failIfUnchanged only[zC,zE])|(refine zo ?_;simp -failIfUnchanged only[zb,zY,zk,za])|(refine zh ?_;simp -failIfUnchanged only[zX,zW,zC,zE,reduceIte])|(refine zZ ?_)|((first|(refine zp polN ks15 _ rfl rfl ?_)|(refine zi polN mixed ks15 _ rfl rfl (by kernel_rfl) (by kernel_rfl) ?_));simp only[↓yq,zC,yM,zG,zI,zP,zg,zj,yb,yP,zYx,zV6,zV9,zXR,yO,yN,zWC,zWI,zWg,zWW,zXb,zWf,zWj,zWJ,zWE,zWA,zXJ,Nat.reduceAdd,Nat.reduceEqDiff,reduceCtorEq,zWP,zV7,zDB,zEM,zBx,ks15,q])))
  have b:Sub [V.agg [stV m.name,.at (.bool m.func),.lst (.own t true 1) (m.params.map stV),.at (.bool m.variadic),tokL m.body]] [CC.encV TI.mac m]:=by rw[<-w];exact .drop .nil
  cases j:chk m with
  |none=>
   have f:FnC Tryz.prog 33 [CC.encV TI.mac m] s λo d=>KeptS s d []/\o=.ret (.tup []):=by rw[j]at i;exact i
   refine yI [CC.encV TI.mac m] rfl rfl rfl zIJ (by simp only[zV6,zV9,zWK,zWZ,zP,zF,zG,zI,zWE,zWA,Nat.reduceEqDiff,zBN,V.isOne,zWJ]) (by simp only[zV6,zV9,zP,zF,zG,zI,zWE,zWA,Nat.reduceEqDiff];exact b) (f) (λr s a=>?_) (λc s a=>?_)
   .obtain⟨g,a⟩:=a;have x:=g.box _ _ (by simp) q;have p:Al.look s.box (n+1)=_:=g.box _ _ (by simp) v;have y:=k.kept g;simp only[↓yE,zF,zG,zI,zWE,zWA,Nat.reduceEqDiff]
    (repeat (first|(refine zn ?_)|(refine zd ?_;simp -failIfUnchanged only[zC,zE])|(refine zo ?_;simp -failIfUnchanged only[zb,zY,zk,za])|(refine zh ?_;simp -failIfUnchanged only[zX,zW,zC,zE,reduceIte])|(refine zZ ?_)|((first|(refine zp polN ks15 _ rfl rfl ?_)|(refine zi polN mixed ks15 _ rfl rfl (by kernel_rfl) (by kernel_rfl) ?_));simp only[↓yE,↓yq,↓qt,zC,zF,qF,zG,zI,zP,zT,yH,zg,zj,yb,yP,qB,xV,spl,zYx,zWR,zWc,zXR,yO,yN,zJ,V.isOne,V.flat,zWK,zWZ,zWC,zWI,zWg,zWl,zWW,zWo,zXb,zWf,zWj,zWJ,zWE,zWA,zXJ,Nat.reduceAdd,Nat.reduceEqDiff,reduceCtorEq,zWP,zV7,zR,zDB,zEM,zBx,zLf,zJf,ks15,x,p,l])))
    refine A _ _ j ⟨.lst (.own t true 1) (m.params.map stV),?_,y.tgs λ_ h=>h⟩ ?_
    .show Al.look (lay (lay _ n _) (n+1) _) n=_;rw[zR,if_neg (by omega),zR,if_pos rfl]
    .show Al.look (lay (lay _ n _) (n+1) _) (n+1)=_;rw[zR,if_pos rfl]
   .cases a.2
  |some er=>
   have f:FnC Tryz.prog 33 [CC.encV TI.mac m] s λo d=>KeptS s d []/\o=.pan (sE er):=by rw[j]at i;exact i
   refine yI [CC.encV TI.mac m] rfl rfl rfl zIJ (by simp only[zV6,zV9,zWK,zWZ,zP,zF,zG,zI,zWE,zWA,Nat.reduceEqDiff,zBN,V.isOne,zWJ]) (by simp only[zV6,zV9,zP,zF,zG,zI,zWE,zWA,Nat.reduceEqDiff];exact b) (f) (λr s a=>?_) (λc s a=>?_)
   .cases a.2
   .obtain⟨g,a⟩:=a;injection a with a
    subst a;exact B _ _ er j ⟨_,g.box _ _ (by simp) q⟩ (g.box _ _ (by simp) v)
theorem zQk:∀l:List TokT,(l.map (CC.encV TI.tok)).map V.untag=l.map (CC.encV TI.tok)
 |[]=>rfl
 |x::r=>by
  show V.untag (CC.encV TI.tok x)::(List.map (CC.encV TI.tok) r).map V.untag=CC.encV TI.tok x::List.map (CC.encV TI.tok) r;rw[zQk r,CCok.untag TI.tok x]
theorem sub13{e:Env}{n:Nat}(b:e.get 2=ptV n)(c:e.get 3=ptV (n+1)):e.sub [(2,ptV n),(3,ptV (n+1))]:=Env.sub_of e [(2,ptV n),(3,ptV (n+1))] (λp a=>by
 simp only[zWB,zWu,zXc]at a;rcases a with rfl|rfl
 .exact b
 .exact c)
theorem sm32(s:S)(r:List TokT)(q:r.length<=1100000):FnC Tryz.prog 32 [.lst .no (r.map (CC.encV TI.tok))] s λo g=>KeptS s g []/\∃b cap,o=.ret (.at (.slice (some ⟨b,0,none⟩) r.length cap))/\r.length<=cap/\Al.look g.box b=some (zf (r.map (CC.encV TI.tok)),cap*6)/\∀d c,Al.look s.box d=some c->d≠b:=by
 have l:VKs CC s ([.bl TI.tok]:LK) (((false,r),()):(Bool×List TokT)×Unit) [.lst .no (r.map (CC.encV TI.tok))] []:=⟨_,[],[],[],rfl,rfl,⟨rfl,rfl⟩,rfl,rfl⟩;have i:VKs CC s ([]:LK) (():Unit) [] []:=⟨rfl,rfl⟩;have j:sh32 0 () ((false,r),())=some (some ((),(some r,()))):=by
  unfold sh32;refine zl rfl ?_;refine zH (zA5 (by show(0+r.length)*56<=_;omega) (by show 0+r.length<=_;simp only[maxLen];omega)) ?_;refine zH (qJ (by simp)) ?_;show some (some ((),(some (List.take 0 []++r),())))=_;rw[zWo,zWR]
 refine qg (zVc (con32 (sy:=[]) 0) (x:=(():Unit)) (a:=(((false,r),()):(Bool×List TokT)×Unit)) (y:=((),(some r,()))) (by show Option.bind (sh32 0 () ((false,r),())) _=_;rw[j];rfl) i l (by simp)) ?_;rintro o g ⟨u,w,z,rfl,⟨_,rfl⟩,m,_,k⟩;obtain⟨v,vs,A,B,rfl,rfl,⟨b,cap,rfl,f,n,rfl⟩,rfl,rfl⟩:=m;refine⟨⟨λd c _ h=>(k.box d c (by simp) h).1,λt p=>k.tg t (by simp) p⟩,b,cap,rfl,f,n,λd c h e=>(k.box d c (by simp) h).2 (by rw[e];simp)⟩
set_option maxRecDepth 100000 in
theorem part10{n:Nat}{df:List Deferred}{s:S}{f:Str}{g i:Bool}{P:List Str}{r:List TokT}{Q:Exit->Env->S->Prop}(T:Rdr s (n+2) (false,r))(U:MacB s n (stV f) (.at (.bool g)) P i (.lst .nil []))(L:ErrB s n)(M:r.length<=1100000)(B:P.length<=1100000)
 (W:∀e j,chk ⟨f,g,P,i,(false,noB r)⟩=none->MacB j n (stV f) (.at (.bool g)) P i (tokL (false,noB r))->ErrB j n->Q .ret e j)
 (X:∀e j er,chk ⟨f,g,P,i,(false,noB r)⟩=some er->(∃cs,Al.look j.box n=some (cs,5))->ErrB j n->Q (.panic (sE er)) e j):awp Tryz.prog (X15 n df) zFo Q (e15 n) s:=by
 have Y:Al.look s.box (n+2)=some ([.lst .no (r.map (CC.encV TI.tok))],1):=T;obtain⟨pv,N,Z⟩:=U;simp only[zFo,zCi,sndS,fstS,ze,Tryz.f15,zXB]
 (repeat (first|(refine zn ?_)|(refine zd ?_;simp -failIfUnchanged only[zC,zE])|(refine zo ?_;simp -failIfUnchanged only[zb,zY,zk,za])|(refine zh ?_;simp -failIfUnchanged only[zX,zW,zC,zE,reduceIte])|(refine zZ ?_)|((first|(refine zp polN ks15 _ rfl rfl ?_)|(refine zi polN mixed ks15 _ rfl rfl (by kernel_rfl) (by kernel_rfl) ?_));simp only[↓xf,↓ye,↓yq,↓zAI,zC,yM,zF,zG,zI,zP,zg,zj,yi,yb,yP,zu,yB,zXU,zV6,zV9,zXR,yO,yN,zWC,zWI,zWg,zWW,zXb,zWf,zWj,zWJ,zWE,zWA,zXJ,Nat.reduceEqDiff,zWO,zWP,zW0,zV7,zW4,zCI,zDK,zAz,zEf,ks15,Y])))
 refine yI [.lst .no (r.map (CC.encV TI.tok))] rfl rfl rfl code32 (by simp only[zV6,zV9,zWK,zWZ,zP,zF,zG,zI,zWE,zWA,Nat.reduceEqDiff,zGD,zWJ]) (by simp only[zV6,zV9,zP,zF,zG,zI,zWE,zWA,Nat.reduceEqDiff];exact .keep .nil) (sm32 s r M) (λr s a=>?_) (λc s a=>?_)
 .obtain⟨C,b,cap,a,o,O,p⟩:=a;injection a with a
  subst a;have D:=C.box _ _ (by simp) N;have R:=Z.kept C;have d:=p _ _ N;have q:=p _ _ L;have t:ErrB s n:=C.box _ _ (by simp) L;simp only[↓yE,↓ye,↓qt,zF,qF,zG,zI,zP,qB,xV,zu,yB,spl,zWY,zWR,zWc,zXR,zJ,V.isOne,V.flat,zWK,zWZ,zWC,zWI,zWg,zWl,zWW,zWo,zWj,zWJ,zWE,zWA,zXJ,Nat.reduceAdd,Nat.reduceEqDiff,zWP,zV7,zW4,zCI,zAz,zJJ,D];have E:(n=b)=False:=eq_false d;have F:(b=n)=False:=eq_false (λe=>d e.symm)
  (repeat (first|(refine zn ?_)|(refine zd ?_;simp -failIfUnchanged only[zC,zE])|(refine zo ?_;simp -failIfUnchanged only[zb,zY,zk,za])|(refine zh ?_;simp -failIfUnchanged only[zX,zW,zC,zE,reduceIte])|(refine zZ ?_)|((first|(refine zp polN ks15 _ rfl rfl ?_)|(refine zi polN mixed ks15 _ rfl rfl (by kernel_rfl) (by kernel_rfl) ?_));simp only[↓yE,↓zBc,↓ye,↓yq,↓zGP,zC,zF,zG,zI,zP,zT,yH,zg,zj,zBk,zSU,zPD,yb,yP,zu,yB,zXU,zXR,yO,yN,zWC,zWI,zWg,zWl,zWW,zXb,zWf,zWq,zWj,zWJ,zX3,zWE,zWA,zXJ,Nat.reduceAdd,Nat.reduceEqDiff,zWO,zWP,zV7,zW4,zR,zCI,zDK,zAz,zG5,zJJ,ks15,D,zAx])))
  have v:∀(k:S)(es:List V),es=(noB r).map (CC.encV TI.tok)->Al.look k.box n=some ([stV f,.at (.bool g),pv,.at (.bool i),.at (.slice (some ⟨b,0,none⟩) r.length cap)],5)->Al.look k.box b=some (zf es,cap*6)->ErrB k n->Par k pv P->awp Tryz.prog (X15 n df) zIv Q [(2,ptV n),(3,ptV (n+1))] k:=by
   intro k es G h9 H I J;subst G;have w:((noB r).map (CC.encV TI.tok)).length=r.length:=(zWG _).trans (zEh r);have z:(zf ((noB r).map (CC.encV TI.tok))).length=r.length*6:=(xZ CCok TI.tok (noB r)).trans (zWp (·*6) (zEh r));refine zPX n b 4 r.length cap 6 _ h9 rfl H d w o ?_ (by rw[z];exact zV7 _) (ky CCok TI.tok _) ?_ ?_ ?_
   .rw[<-z,zW6]
   .intro x hx;obtain⟨y,_,rfl⟩:=zWa.1 hx;exact CCok.ones TI.tok y
   .exact zQk (noB r)
   .refine part13 (m:=⟨f,g,P,i,(false,noB r)⟩) rfl ⟨pv,?_,J.tgs λ_ h=>h⟩ ?_ (by show(noB r).length<=_;rw[zEh];exact M) B W X
    .show Al.look (lay _ n _) n=_;rw[zR,if_pos rfl];rfl
    .show Al.look (lay (wipe k.box b) n _) (n+1)=_;rw[zR,if_neg (by omega),xA,if_neg (λe=>q e.symm)];exact I
  cases r with
  |nil=>
   refine qP rfl (λh=>by cases h) (λ_=>zd ?_);exact zCj (sub13 rfl rfl) (S.sub_refl _) (v _ [] rfl (by rw[zR,if_pos rfl]) (by rw[zR,if_neg d];exact O) (by show Al.look (lay _ n _) (n+1)=_;rw[zR,if_neg (by omega)];exact t) (R.tgs λ_ h=>h))
  |cons u A=>
   refine qP rfl (λ_=>?_) (λh=>?_)
   .have K:Al.look s.box b=some (.at (.int .i64 u.kind)::.at (.string ⟨u.text.toArray⟩)::.at (.int .i64 u.file)::.at (.int .i64 u.ffrom)::.at (.int .i64 u.fto)::.at (.bool u.blank)::zf (A.map (CC.encV TI.tok)),cap*6):=O;refine zSl (Q:=λex e l=>ex=.normal/\e.get 2=ptV n/\e.get 3=ptV (n+1)/\Al.look l.box n=some ([stV f,.at (.bool g),pv,.at (.bool i),.at (.slice (some ⟨b,0,none⟩) (u::A).length cap)],5)/\Al.look l.box b=some (zf ((noB (u::A)).map (CC.encV TI.tok)),cap*6)/\ErrB l n/\Par l pv P) ?_ ?_
    . (repeat (first|(refine zn ?_)|(refine zd ?_;simp -failIfUnchanged only[zC,zE])|(refine zo ?_;simp -failIfUnchanged only[zb,zY,zk,za])|(refine zh ?_;simp -failIfUnchanged only[zX,zW,zC,zE,reduceIte])|(refine zZ ?_)|((first|(refine zp polN ks15 _ rfl rfl ?_)|(refine zi polN mixed ks15 _ rfl rfl (by kernel_rfl) (by kernel_rfl) ?_));simp only[↓yE,↓ye,↓kK,↓yq,↓qt,zF,qF,zG,zI,zP,zT,yH,xz,zg,zj,yb,yP,qB,xV,zu,yB,zHj,zLw,spl,zXU,zWY,zWR,zXR,yO,yN,zJ,V.isOne,V.flat,zWK,zWZ,zWC,zWI,zWg,zWl,zWW,zWo,zXb,zWf,zWq,zWj,zWJ,zWE,zWA,zXJ,Nat.reduceAdd,Nat.reduceEqDiff,Nat.reduceLeDiff,zWO,zWP,zW0,zV7,zW4,zR,zX2,zGZ,zEU,zCI,zDK,zAz,zG5,zFz,zED,zGb,zJJ,ks15,D,K,E,F,z2,z3,z4])))
      refine⟨rfl,?_,R.tgs λ_ h=>h⟩;show Al.look (lay (lay _ n _) b _) (n+1)=_;rw[zR,if_neg (λe=>q e.symm),zR,if_neg (by omega)];exact t
    .rintro ex e l ⟨rfl,g1,g2,g3,g4,g5,g6⟩;exact zCj (sub13 g1 g2) (S.sub_refl _) (v l _ rfl g3 g4 g5 g6)
   .have h2:decide ((0:Int)<((A.length+1:Nat):Int))=false:=h;have h3:=zYY h2;omega
 .obtain⟨_,_,_,a,_⟩:=a;cases a
theorem zMh{l:List TokT}{P:List Str}{v:Bool}{y:List TokT×List Str×Bool}(h:parE l P v=some y):y.1.length<=l.length/\y.2.1.length<=P.length:=by
 unfold parE at h;split at h
 .injection h with h
  subst h;exact⟨by simp,zV7 _⟩
 .cases h
theorem zMA{v:Bool}:∀{n:Nat}{l:List TokT}{P:List Str}{y:List TokT×List Str×Bool},parA v n l P=some y->y.1.length<=l.length/\y.2.1.length<=P.length+l.length
 |0,_,_,_,h=>by cases h
 |n+1,l,P,y,h=>by
  simp only[parA]at h;split at h
  .have:=zMh h;have c:l.tail.length<=l.length:=by simp
   exact⟨by omega,by omega⟩
  .split at h
   .cases h
   .rename_i w d;have e:l.tail.length+1=l.length:=by
     cases l with
     |nil=>cases d
     |cons a b=>rfl
    split at h
    .split at h
     .have:=zMA h;have c:l.tail.tail.length<=l.tail.length:=by simp
      simp only[zWD,zWC,zWI]at this;exact⟨by omega,by omega⟩
     .have:=zMh h;simp only[zWD,zWC,zWI]at this;exact⟨by omega,by omega⟩
    .cases h
theorem zOB{l:List TokT}{c d:Bool}{P:List Str}{r:List TokT}(h:hdS l=.ok (c,P,d,r)):r.length<=l.length/\P.length<=l.length:=by
 cases l with
 |nil=>
  injection h with h
  obtain⟨rfl,rfl,rfl,rfl⟩:=h;exact⟨zV7 _,zV7 _⟩
 |cons u b=>
  simp only[hdS]at h;split at h
  .split at h
   .cases h
   .rename_i y a;injection h with h
    obtain⟨rfl,rfl,rfl,rfl⟩:=h;unfold parS at a;split at a
    .injection a with a
     subst a;refine⟨?_,zWd _⟩;show b.tail.length<=(u::b).length;simp;omega
    .have:=zMA a;simp only[zWC,zWI]at *;exact⟨by omega,by omega⟩
  .split at h
   .injection h with h
    obtain⟨rfl,rfl,rfl,rfl⟩:=h;exact⟨zV7 _,zWd _⟩
   .cases h
set_option maxRecDepth 100000 in
theorem walk15{n:Nat}{df:List Deferred}{s:S}{l:List TokT}(w:Rdr s (n+2) (l.isEmpty,l))(J:MacB s n (stV []) (.at (.bool false)) [] false (.lst .nil []))(K:ErrB s n)(Z:l.length<=1100000):awp Tryz.prog (X15 n df) zCi (Q15 n (defS l)) (e15 n) s:=by
 simp only[zCi,sndS,ze,Tryz.f15,zXB]
 (repeat (first|(refine zn ?_)|(refine zd ?_;simp -failIfUnchanged only[zC,zE])|(refine zo ?_;simp -failIfUnchanged only[zb,zY,zk,za])|(refine zh ?_;simp -failIfUnchanged only[zX,zW,zC,zE,reduceIte])|(refine zZ ?_)|((first|(refine zp polN ks15 _ rfl rfl ?_)|(refine zi polN mixed ks15 _ rfl rfl (by kernel_rfl) (by kernel_rfl) ?_));simp only[↓xf,zC,yM,zG,zI,zP,zg,zj,zV6,zV9,zWE,zWA,Nat.reduceEqDiff,ks15])))
 cases m:wrd l with
 |none=>
  have e:defS l=(zM,60):=by unfold defS;rw[m]
  refine yI [ptV (n+2),.at (.int .i64 60)] rfl rfl rfl zIo (by simp only[zV6,zV9,zWK,zWZ,zP,zT,yH,zF,zG,zI,zWE,zWA,Nat.reduceEqDiff,zz,zWJ]) (by simp only[zV6,zV9,zP,zT,yH,zF,zG,zI,zWE,zWA,Nat.reduceEqDiff];exact .keep (.keep .nil)) (sm27n w 60 m) (λr s d=>?_) (λc s d=>?_)
  .cases d.2
  .obtain⟨o,d⟩:=d;injection d with d
   subst d;obtain⟨pv,x,L⟩:=J;show Q15 n (defS l) (.panic (sE 60)) _ _;rw[e];exact⟨⟨rfl,rfl⟩,⟨_,o.box _ _ (by simp) x⟩,o.box _ _ (by simp) K⟩
 |some f=>
  have z:l.isEmpty=false:=by
   cases l with
   |nil=>cases m
   |cons a b=>rfl
  have A:l.tail.length<=1100000:=by simp;omega
  rw[z]at w;refine yI [ptV (n+2),.at (.int .i64 60)] rfl rfl rfl zIo (by simp only[zV6,zV9,zWK,zWZ,zP,zT,yH,zF,zG,zI,zWE,zWA,Nat.reduceEqDiff,zz,zWJ]) (by simp only[zV6,zV9,zP,zT,yH,zF,zG,zI,zWE,zWA,Nat.reduceEqDiff];exact .keep (.keep .nil)) (sm27s w 60 m) (λr s d=>?_) (λc s d=>?_)
  .obtain⟨o,B,C⟩:=d;injection B with B
   subst B;obtain⟨pv,x,L⟩:=J.kept o (by simp);have j:ErrB s n:=o.box _ _ (by simp) K;simp only[↓yE,↓ye,↓qt,zF,qF,zG,zI,zP,qB,xV,zu,yB,spl,zWY,zWR,zXR,zJ,V.isOne,V.flat,zWK,zWZ,zWC,zWI,zWg,zWl,zWo,zWj,zWJ,zWE,zWA,zXJ,Nat.reduceAdd,Nat.reduceEqDiff,Nat.reduceLeDiff,zWP,zW0,zW4,zCY,zBP,zEX,x];have p:∀(t:S),(f=dfS\/f=vaS)->(∃cs,Al.look t.box n=some (cs,5))->ErrB t n->Q15 n (defS l) (.panic (sE 60)) [] t:=λt h C O=>by
    have e:defS l=(zM,60):=by unfold defS;rw[m];exact if_pos h
    rw[e];exact⟨⟨rfl,rfl⟩,C,O⟩
   by_cases g:f=dfS
   .have u:(f==[100,101,102,105,110,101,100])=true:=by rw[g];exact zYD dfS
    (repeat (first|(refine zn ?_)|(refine zd ?_;simp -failIfUnchanged only[zC,zE])|(refine zo ?_;simp -failIfUnchanged only[zb,zY,zk,za])|(refine zh ?_;simp -failIfUnchanged only[zX,zW,zC,zE,reduceIte])|(refine zZ ?_)|((first|(refine zp polN ks15 _ rfl rfl ?_)|(refine zi polN mixed ks15 _ rfl rfl (by kernel_rfl) (by kernel_rfl) ?_));simp only[↓xq,↓xf,↓jL,↓zBc,↓ye,↓yq,zC,yM,zF,zG,zI,zP,zT,xz,yg,zg,zj,zDL,xX,yb,yP,zu,yB,zXU,zV6,zV9,zXR,yO,yN,zWC,zWI,zWg,zWW,zWo,zWf,zWq,zWj,zWJ,zWE,zWA,zXJ,Nat.reduceAdd,Nat.reduceEqDiff,Nat.reduceLeDiff,zWO,zWP,zW0,zW4,zR,yj,zDf,zCY,zGO,zBP,zEX,ks15,zBK,zCO,xM,u,zYR])))
    refine yI [.at (.bool false),.at (.int .i64 60)] rfl rfl rfl kC (by simp only[zV6,zV9,zWK,zWZ,zP,zT,yH,zF,zG,zI,zWE,zWA,Nat.reduceEqDiff,zz,zWJ]) (by simp only[zV6,zV9,zP,zT,yH,zF,zG,zI,zWE,zWA,Nat.reduceEqDiff];exact .keep (.keep .nil)) (sm28 _ _ 60) (λr s d=>?_) (λc s d=>?_)
    .cases d.2
    .obtain⟨rfl,d⟩:=d;injection d with d
     subst d;exact p _ (.inl g) ⟨_,by rw[zR,if_pos rfl]⟩ (by show Al.look (lay _ n _) (n+1)=_;rw[zR,if_neg (by omega)];exact j)
   .have u:(f==[100,101,102,105,110,101,100])=false:=zZD g;by_cases i:f=vaS
    .have k:(f==[95,95,86,65,95,65,82,71,83,95,95])=true:=by rw[i];exact zYD vaS
     (repeat (first|(refine zn ?_)|(refine zd ?_;simp -failIfUnchanged only[zC,zE])|(refine zo ?_;simp -failIfUnchanged only[zb,zY,zk,za])|(refine zh ?_;simp -failIfUnchanged only[zX,zW,zC,zE,reduceIte])|(refine zZ ?_)|((first|(refine zp polN ks15 _ rfl rfl ?_)|(refine zi polN mixed ks15 _ rfl rfl (by kernel_rfl) (by kernel_rfl) ?_));simp only[↓xq,↓xf,↓jL,↓zBc,↓ye,↓yq,zC,yM,zF,zG,zI,zP,zT,xz,yg,zg,zj,zDL,xX,yb,yP,zu,yB,zXU,zV6,zV9,zXR,yO,yN,zWC,zWI,zWg,zWW,zWo,zWf,zWq,zWj,zWJ,zWE,zWA,zXJ,Nat.reduceAdd,Nat.reduceEqDiff,Nat.reduceLeDiff,zWO,zWP,zW0,zW4,zR,yj,qf,zCY,zGO,zBP,zEX,ks15,zBK,zCO,xM,u,k,zYR,zZK])))
     refine yI [.at (.bool false),.at (.int .i64 60)] rfl rfl rfl kC (by simp only[zV6,zV9,zWK,zWZ,zP,zT,yH,zF,zG,zI,zWE,zWA,Nat.reduceEqDiff,zz,zWJ]) (by simp only[zV6,zV9,zP,zT,yH,zF,zG,zI,zWE,zWA,Nat.reduceEqDiff];exact .keep (.keep .nil)) (sm28 _ _ 60) (λr s d=>?_) (λc s d=>?_)
     .cases d.2
     .obtain⟨rfl,d⟩:=d;injection d with d
      subst d;exact p _ (.inr i) ⟨_,by rw[zR,if_pos rfl]⟩ (by show Al.look (lay _ n _) (n+1)=_;rw[zR,if_neg (by omega)];exact j)
    .have k:(f==[95,95,86,65,95,65,82,71,83,95,95])=false:=zZD i;have e:defS l=match hdS l.tail with|.error e=>(zM,e)|.ok y=>endS f y.1 y.2.1 y.2.2.1 y.2.2.2:=by
      unfold defS;rw[m];exact if_neg (λh=>h.elim g i)
     (repeat (first|(refine zn ?_)|(refine zd ?_;simp -failIfUnchanged only[zC,zE])|(refine zo ?_;simp -failIfUnchanged only[zb,zY,zk,za])|(refine zh ?_;simp -failIfUnchanged only[zX,zW,zC,zE,reduceIte])|(refine zZ ?_)|((first|(refine zp polN ks15 _ rfl rfl ?_)|(refine zi polN mixed ks15 _ rfl rfl (by kernel_rfl) (by kernel_rfl) ?_));simp only[↓xq,↓xf,↓jL,↓zBc,↓ye,↓yq,zC,yM,zF,zG,zI,zP,zT,xz,yg,zg,zj,zDL,xX,yb,yP,zu,yB,zXU,zV6,zV9,zXR,yO,yN,zWC,zWI,zWg,zWW,zWo,zWf,zWq,zWj,zWJ,zWE,zWA,zXJ,Nat.reduceAdd,Nat.reduceEqDiff,Nat.reduceLeDiff,zWO,zWP,zW0,zW4,zR,yj,qf,zCY,zGO,zBP,zEX,ks15,zBK,zCO,xM,u,k,zZK])))
     refine yI [.at (.bool true),.at (.int .i64 60)] rfl rfl rfl kC (by simp only[zV6,zV9,zWK,zWZ,zP,zT,yH,zF,zG,zI,zWE,zWA,Nat.reduceEqDiff,zz,zWJ]) (by simp only[zV6,zV9,zP,zT,yH,zF,zG,zI,zWE,zWA,Nat.reduceEqDiff];exact .keep (.keep .nil)) (sm28 _ _ 60) (λr s d=>?_) (λc s d=>?_)
     .obtain⟨rfl,d⟩:=d;simp only[↓yE,zF,zG,zI,zWE,zWA,Nat.reduceEqDiff];generalize v:S.mk _ _ _ _=S5;have Q:Rdr S5 (n+2) (false,l.tail):=by
       rw[<-v];show Al.look (lay _ n _) (n+2)=_;rw[zR,if_neg (by omega)];exact C
      have D:ErrB S5 n:=by
       rw[<-v];show Al.look (lay _ n _) (n+1)=_;rw[zR,if_neg (by omega)];exact j
      have E:MacB S5 n (stV f) (.at (.bool false)) [] false (.lst .nil []):=by
       rw[<-v];exact⟨pv,by rw[zR,if_pos rfl],L.tgs λ_ h=>h⟩
      clear v;refine zn ?_;refine zCj (zIx rfl rfl rfl) (S.sub_refl _) (part5 Q E D A ?_ ?_)
      .intro e' M F P G r g0 R T U W;obtain⟨len1,N⟩:=zOB g0;rw[g0]at e;refine zCj R (S.sub_refl _) (part10 T U W (by omega) (by omega) ?_ ?_)
       .intro X Y H w1 q;have I:defS l=(⟨f,F,P,G,(false,noB r)⟩,0):=by rw[e];show endS f F P G r=_;unfold endS;rw[H]
        show Q15 n (defS l) .ret _ _;rw[I];exact⟨rfl,w1,q⟩
       .intro X Y er H w1 q;have I:defS l=(zM,er):=by rw[e];show endS f F P G r=_;unfold endS;rw[H]
        show Q15 n (defS l) (.panic (sE er)) _ _;rw[I];exact⟨⟨rfl,rfl⟩,w1,q⟩
      .intro e' M er g0 w1 q;rw[g0]at e;show Q15 n (defS l) (.panic (sE er)) e' M;rw[e];exact⟨⟨rfl,rfl⟩,w1,q⟩
     .cases d.2
  .cases d.2.1
end
section
open Go.RowKit Go.Al
theorem idle26(p q:Addr)(w:World) :
 CallsD Tryz.prog 26 #[.pointer (some p),.pointer (some q)] .returning w λe b w'=>e=.returned (.tuple #[])/\b=.returning/\w'=w:=by
 refine callsD_of_wpS Tryz.func26 rfl λc cs d=>?_;apply wpS_seq;apply wpS_region;simp[wpOpsS,go_sem,recoverD,d,Tryz.ntmps26,Exit.thenS];refine wpS_of_wp ?_;have a:∀w:World,(binOp BinOp.eql 20 .nilIface .nilIface).run Tryz.prog w=.ok (.bool true) w:=λ_=>by kernel_rfl
 go_wp2;cases c
 simp_all [bodyPostS,results,Tryz.results26]
def ops26:List Oper:=[⟨some 11,.build 32 #[],32, "macro.go:92",#[],none⟩,
 ⟨some 12,.fieldAddr 71 (.tmp 3) 0,0, "macro.go:92",#[⟨3,.gcOnly .lateStores⟩],none⟩,
 ⟨some 13,.load 33 (.tmp 12),33, "macro.go:92",#[⟨1,.data⟩,⟨3,.gcOnly .lateStores⟩],none⟩,
 ⟨none,.store 32 (.tmp 0) (.tmp 11),0, "macro.go:92",#[⟨0,.data⟩,⟨0,.phase⟩,⟨1,.textOnly .lateStores⟩,⟨2,.textOnly .lateStores⟩],none⟩,
 ⟨none,.store 33 (.tmp 1) (.tmp 13),0, "macro.go:92",#[⟨2,.data⟩,⟨3,.chain⟩,⟨0,.phase⟩,⟨1,.phase⟩,⟨2,.phase⟩,⟨3,.phase⟩],none⟩]
abbrev zm:Value:=.agg #[.string ByteArray.empty,.bool false,.slice none 0 0,.bool false,.slice none 0 0]
theorem zLd{Q:Exit->Act->World->Prop}{K:Act->World->Prop}{a:Act}{w:World}(h:K (a.put (some 11) zm) w):wpOp Tryz.prog ops26.toArray Q 0 K a w:=by
 simp[wpOp,ops26,go_sem];exact .inl h
theorem zMb{n:Nat}{Q:Exit->Act->World->Prop}{K:Act->World->Prop}{a:Act}{w:World}(b:a.tmps.getD 3 undef=.pointer (some ⟨n,0,none⟩))(h:K (a.put (some 12) (.pointer (some ⟨n,0,none⟩))) w):wpOp Tryz.prog ops26.toArray Q 1 K a w:=by
 simp[wpOp,ops26,go_sem,b];exact .inl h
theorem zLc{n:Nat}{er:Int}{Q:Exit->Act->World->Prop}{K:Act->World->Prop}{a:Act}{w:World}(b:a.tmps.getD 12 undef=.pointer (some ⟨n,0,none⟩))(c:w.cell? ⟨n,0,none⟩=some (.int .i64 er))(h:K (a.put (some 13) (.int .i64 er)) w):wpOp Tryz.prog ops26.toArray Q 2 K a w:=by
 simp[wpOp,ops26,go_sem,b,c];exact .inl h
theorem op4_26{q:Nat}{er:Int}{y:Value}{Q:Exit->Act->World->Prop}{K:Act->World->Prop}{a:Act}{w:World}(c:a.tmps.getD 1 undef=.pointer (some ⟨q,0,none⟩))(b:a.tmps.getD 13 undef=.int .i64 er)(d:w.cell? ⟨q,0,none⟩=some y)(e:w.frozen? ⟨q,0,none⟩=false)(h:K a (w.setCell ⟨q,0,none⟩ (.int .i64 er))):wpOp Tryz.prog ops26.toArray Q 4 K a w:=by
 simp[wpOp,ops26,go_sem,c,b,d,e];exact .inl h
def w26(p:Nat)(w:World):World:=((((w.setCell ⟨p,0,none⟩ (.string ByteArray.empty)).setCell ⟨p,1,none⟩ (.bool false)).setCell ⟨p,2,none⟩ (.slice none 0 0)).setCell ⟨p,3,none⟩ (.bool false)).setCell ⟨p,4,none⟩ (.slice none 0 0)
theorem sc26(W:World)(k i:Nat)(v:Value)(c:Array Value)(t:TypeId)(m:Nat×Nat)(h:W.heap[k]?=some (.cells c t m)):(W.setCell ⟨k,i,none⟩ v).heap[k]?=some (.cells (c.setIfInBounds i v) t m):=by
 show(W.heap.modify k _)[k]?=_;obtain⟨a,b⟩:=zV8.1 h;rw[zWw (by rw[zYy];exact a),zYU,b];rfl
theorem so26(W:World)(k i:Nat)(v:Value)(j:Nat)(a:j≠k):(W.setCell ⟨k,i,none⟩ v).heap[j]?=W.heap[j]?:=Below.heap_setCell _ _ _ j a
theorem sz26(W:World)(k i:Nat)(v:Value):(W.setCell ⟨k,i,none⟩ v).heap.size=W.heap.size:=by show(W.heap.modify k _).size=_;simp
theorem w26_at{p:Nat}{w:World}{b c d e f:Value}{a:TypeId}(g:w.heap[p]?=some (.cells #[b,c,d,e,f] a (0,0))):(w26 p w).heap[p]?=some (.cells #[.string ByteArray.empty,.bool false,.slice none 0 0,.bool false,.slice none 0 0] a (0,0)):=
 sc26 _ p 4 _ _ _ _ (sc26 _ p 3 _ _ _ _ (sc26 _ p 2 _ _ _ _ (sc26 _ p 1 _ _ _ _ (sc26 w p 0 _ _ _ _ g))))
theorem zIn{p:Nat}{w:World}{j:Nat}(a:j≠p):(w26 p w).heap[j]?=w.heap[j]?:=by
 unfold w26;rw[so26 _ _ _ _ _ a,so26 _ _ _ _ _ a,so26 _ _ _ _ _ a,so26 _ _ _ _ _ a,so26 _ _ _ _ _ a]
theorem w26_sz{p:Nat}{w:World}:(w26 p w).heap.size=w.heap.size:=by
 unfold w26;rw[sz26,sz26,sz26,sz26,sz26]
theorem zLy{p:Nat}{m n o q r:Value}{d:TypeId}{Q:Exit->Act->World->Prop}{K:Act->World->Prop}{a:Act}{w:World}(s:a.tmps.getD 0 undef=.pointer (some ⟨p,0,none⟩))(e:a.tmps.getD 11 undef=zm)(f:w.heap[p]?=some (.cells #[m,n,o,q,r] d (0,0)))(h:K a (w26 p w)):wpOp Tryz.prog ops26.toArray Q 3 K a w:=by
 have a1:=sc26 w p 0 (.string ByteArray.empty) _ _ _ f;have g:=sc26 _ p 1 (.bool false) _ _ _ a1;have i:=sc26 _ p 2 (.slice none 0 0) _ _ _ g;have l:=sc26 _ p 3 (.bool false) _ _ _ i;have b:∀(W:World)(c:Array Value)(k:Nat)(v:Value),W.heap[p]?=some (.cells c d (0,0))->c[k]?=some v->W.cell? ⟨p,k,none⟩=some v:=λW c k v j t=>by simp[World.cell?,j,t]
 have fe:∀(W:World)(c:Array Value)(k:Nat),W.heap[p]?=some (.cells c d (0,0))->W.frozen? ⟨p,k,none⟩=false:=λW c k j=>by simp[World.frozen?,j]
 have u:=b _ _ 0 _ f rfl;have b1:=b _ _ 1 _ a1 rfl;have x:=b _ _ 2 _ g rfl;have y:=b _ _ 3 _ i rfl;have z:=b _ _ 4 _ l rfl;have A:=fe _ _ 0 f;have f1:=fe _ _ 1 a1;have B:=fe _ _ 2 g;have C:=fe _ _ 3 i;have D:=fe _ _ 4 l;simp[wpOp,ops26,go_sem,s,e,u,b1,x,y,z,A,f1,B,C,D];exact .inl h
theorem zDY(a:Act)(k j:Nat)(v:Value)(h:j≠k):(a.put (some k) v).tmps.getD j undef=a.tmps.getD j undef:=by
 show(a.tmps.setIfInBounds k v).getD j undef=_;simp[zWS,zXl,zW8 h]
theorem zBM(a:Act)(k:Nat)(v:Value)(h:k<a.tmps.size):(a.put (some k) v).tmps.getD k undef=v:=by
 show(a.tmps.setIfInBounds k v).getD k undef=_;simp[zWS,h]
theorem put_sz(a:Act)(k:Nat)(v:Value):(a.put (some k) v).tmps.size=a.tmps.size:=by
 show(a.tmps.setIfInBounds k v).size=_;simp
structure T26(p q n:Nat)(d:List Deferred)(a:Act):Prop where
 sz:a.tmps.size=14
 t0:a.tmps.getD 0 undef=.pointer (some ⟨p,0,none⟩)
 t1:a.tmps.getD 1 undef=.pointer (some ⟨q,0,none⟩)
 t3:a.tmps.getD 3 undef=.pointer (some ⟨n,0,none⟩)
 df:a.defers=d
theorem T26.put{p q n:Nat}{d:List Deferred}{a:Act}(h:T26 p q n d a)(k:Nat)(v:Value)(b:10<k):T26 p q n d (a.put (some k) v):=
 ⟨(put_sz a k v).trans h.sz,(zDY a k 0 v (by omega)).trans h.t0,(zDY a k 1 v (by omega)).trans h.t1,(zDY a k 3 v (by omega)).trans h.t3,h.df⟩
abbrev nP(n:Nat):Value:=.pointer (some ⟨n,0,none⟩)
set_option maxRecDepth 100000 in
theorem draw26{p q n:Nat}{d:List Deferred}{C:TypeId}{er:Int}{K L M N O s:Value}{P D:TypeId}{Q:Exit->Act->World->Prop}{a:Act}{w:World}{id:Nat}(t:p≠q)(u:p≠n)(b:T26 p q n d a)
 (r:w.heap[p]?=some (.cells #[K,L,M,N,O] P (0,0))) (E:w.heap[q]?=some (.cells #[s] D (0,0))) (v:w.heap[n]?=some (.cells #[.int .i64 er] C (0,0)))
 (S:∀a' W,W.heap=w.heap->W.os=w.os->W.tape=w.tape->W.output=w.output->T26 p q n d a'->Q .normal a' ((w26 p W).setCell ⟨q,0,none⟩ (.int .i64 er))):(Code.region id ops26.toArray true).wp Tryz.prog Q a w:=by
 refine wp_region_any mixed ?_;obtain⟨W,j⟩:∃W,{ w with drawn:=w.drawn+1 }=W:=⟨_,rfl⟩;have F:W.heap=w.heap:=by rw[<-j]
 have T:W.os=w.os:=by rw[<-j]
 have U:W.tape=w.tape:=by rw[<-j]
 have V:W.output=w.output:=by rw[<-j]
 rw[j];rw[<-F]at r E v;have k:(w26 p W).heap[q]?=some (.cells #[s] D (0,0)):=(zIn (zW8 t)).trans E;have x:(w26 p W).heap[n]?=some (.cells #[.int .i64 er] C (0,0)):=(zIn (zW8 u)).trans v;have m:W.cell? ⟨n,0,none⟩=some (.int .i64 er):=by simp[World.cell?,v]
 have y:(w26 p W).cell? ⟨n,0,none⟩=some (.int .i64 er):=by simp[World.cell?,x]
 have X:(w26 p W).cell? ⟨q,0,none⟩=some s:=by simp[World.cell?,k]
 have Y:(w26 p W).frozen? ⟨q,0,none⟩=false:=by simp[World.frozen?,k]
 have R:∀{f:Nat}{l:Array Bool}{rs:List Nat}{a:Act}{w:World},Region.ready .any ops26.toArray l=rs->rs≠[]->(∀i∈rs,wpOp Tryz.prog ops26.toArray Q i (wpAny Tryz.prog .any ops26.toArray Q f (l.setIfInBounds i true)) a w)->wpAny Tryz.prog .any ops26.toArray Q (f+1) l a w:=λG Z h3=>⟨λh=>absurd (G▸h) Z,G▸h3⟩;have E0:∀a,T26 p q n d a->wpAny Tryz.prog .any ops26.toArray Q 0 #[true,true,true,true,true] a ((w26 p W).setCell ⟨q,0,none⟩ (.int .i64 er)):=λa b=>⟨by kernel_rfl,S a W F T U V b⟩;have H:∀a,T26 p q n d a->a.tmps.getD 13 undef=.int .i64 er->wpAny Tryz.prog .any ops26.toArray Q 1 #[true,true,true,true,false] a (w26 p W):=λa b g=>by
  refine R (rs:=[4]) (by kernel_rfl) (by simp) λi hi=>?_;simp only[zWB,zWu,zXc]at hi;subst hi;exact op4_26 b.t1 g X Y (E0 a b)
 have I:∀a,T26 p q n d a->a.tmps.getD 11 undef=zm->a.tmps.getD 13 undef=.int .i64 er->wpAny Tryz.prog .any ops26.toArray Q 2 #[true,true,true,false,false] a W:=λa b c g=>by
  refine R (rs:=[3]) (by kernel_rfl) (by simp) λi hi=>?_;simp only[zWB,zWu,zXc]at hi;subst hi;exact zLy b.t0 c r (H a b g)
 have J:∀a,T26 p q n d a->a.tmps.getD 12 undef=nP n->wpAny Tryz.prog .any ops26.toArray Q 2 #[true,true,false,true,false] a (w26 p W):=λa b e=>by
  refine R (rs:=[2]) (by kernel_rfl) (by simp) λi hi=>?_;simp only[zWB,zWu,zXc]at hi;subst hi;exact zLc e y (H _ (b.put 13 _ (by omega)) (zBM a 13 _ (by rw[b.sz];omega)))
 have o:∀a,T26 p q n d a->a.tmps.getD 11 undef=zm->a.tmps.getD 12 undef=nP n->wpAny Tryz.prog .any ops26.toArray Q 3 #[true,true,false,false,false] a W:=λa b c e=>by
  refine R (rs:=[2,3]) (by kernel_rfl) (by simp) λi hi=>?_;simp only[zWB,zWu,zXc]at hi;rcases hi with rfl|rfl
  .exact zLc e m (I _ (b.put 13 _ (by omega)) ((zDY a 13 11 _ (by omega)).trans c) (zBM a 13 _ (by rw[b.sz];omega)))
  .exact zLy b.t0 c r (J a b e)
 have E1:∀a,T26 p q n d a->wpAny Tryz.prog .any ops26.toArray Q 3 #[true,false,false,true,false] a (w26 p W):=λa b=>by
  refine R (rs:=[1]) (by kernel_rfl) (by simp) λi hi=>?_;simp only[zWB,zWu,zXc]at hi;subst hi;exact zMb b.t3 (J _ (b.put 12 _ (by omega)) (zBM a 12 _ (by rw[b.sz];omega)))
 have z:∀a,T26 p q n d a->a.tmps.getD 13 undef=.int .i64 er->wpAny Tryz.prog .any ops26.toArray Q 3 #[false,true,true,false,false] a W:=λa b g=>by
  refine R (rs:=[0]) (by kernel_rfl) (by simp) λi hi=>?_;simp only[zWB,zWu,zXc]at hi;subst hi;exact zLd (I _ (b.put 11 _ (by omega)) (zBM a 11 _ (by rw[b.sz];omega)) ((zDY a 11 13 _ (by omega)).trans g))
 have A:∀a,T26 p q n d a->a.tmps.getD 11 undef=zm->wpAny Tryz.prog .any ops26.toArray Q 4 #[true,false,false,false,false] a W:=λa b c=>by
  refine R (rs:=[1,3]) (by kernel_rfl) (by simp) λi hi=>?_;simp only[zWB,zWu,zXc]at hi;rcases hi with rfl|rfl
  .exact zMb b.t3 (o _ (b.put 12 _ (by omega)) ((zDY a 12 11 _ (by omega)).trans c) (zBM a 12 _ (by rw[b.sz];omega)))
  .exact zLy b.t0 c r (E1 a b)
 have B:∀a,T26 p q n d a->a.tmps.getD 12 undef=nP n->wpAny Tryz.prog .any ops26.toArray Q 4 #[false,true,false,false,false] a W:=λa b e=>by
  refine R (rs:=[0,2]) (by kernel_rfl) (by simp) λi hi=>?_;simp only[zWB,zWu,zXc]at hi;rcases hi with rfl|rfl
  .exact zLd (o _ (b.put 11 _ (by omega)) (zBM a 11 _ (by rw[b.sz];omega)) ((zDY a 11 12 _ (by omega)).trans e))
  .exact zLc e m (z _ (b.put 13 _ (by omega)) (zBM a 13 _ (by rw[b.sz];omega)))
 refine R (f:=4) (rs:=[0,1]) (by kernel_rfl) (by simp) λi hi=>?_;simp only[zWB,zWu,zXc]at hi;rcases hi with rfl|rfl
 .exact zLd (A _ (b.put 11 _ (by omega)) (zBM a 11 _ (by rw[b.sz];omega)))
 .exact zMb b.t3 (B _ (b.put 12 _ (by omega)) (zBM a 12 _ (by rw[b.sz];omega)))
end
section
open Go.RowKit Go.Al
theorem jI(W:World)(k i:Nat)(v:Value):(W.setCell ⟨k,i,none⟩ v).os=W.os/\(W.setCell ⟨k,i,none⟩ v).tape=W.tape/\(W.setCell ⟨k,i,none⟩ v).output=W.output:=⟨rfl,rfl,rfl⟩
theorem o26(W:World)(p q:Nat)(v:Value):((w26 p W).setCell ⟨q,0,none⟩ v).os=W.os/\((w26 p W).setCell ⟨q,0,none⟩ v).tape=W.tape/\((w26 p W).setCell ⟨q,0,none⟩ v).output=W.output:=by
 unfold w26;refine⟨?_,?_,?_⟩
 .rw[(jI _ _ _ _).1,(jI _ _ _ _).1,(jI _ _ _ _).1,(jI _ _ _ _).1,(jI _ _ _ _).1,(jI _ _ _ _).1]
 .rw[(jI _ _ _ _).2.1,(jI _ _ _ _).2.1,(jI _ _ _ _).2.1,(jI _ _ _ _).2.1,(jI _ _ _ _).2.1,(jI _ _ _ _).2.1]
 .rw[(jI _ _ _ _).2.2,(jI _ _ _ _).2.2,(jI _ _ _ _).2.2,(jI _ _ _ _).2.2,(jI _ _ _ _).2.2,(jI _ _ _ _).2.2]
set_option maxHeartbeats 1000000 in
theorem zRQ{p q:Nat}{er:Int}{d e f g h i:Value}{j k:TypeId}{w a:World}(l:w.heap[p]?=some (.cells #[d,e,f,g,h] j (0,0)))(m:w.heap[q]?=some (.cells #[i] k (0,0)))(o:a=(w.alloc (.cells #[.int .i64 0] 71)).setCell ⟨w.heap.size,0,none⟩ (.int .i64 er)) :
 a.heap[p]?=some (.cells #[d,e,f,g,h] j (0,0))/\a.heap[q]?=some (.cells #[i] k (0,0))/\a.heap[w.heap.size]?=some (.cells #[.int .i64 er] 71 (0,0))/\p≠w.heap.size:=by
 subst o;have b:=(zV8.1 l).1;have n:=(zV8.1 m).1;have c:(w.alloc (.cells #[.int .i64 0] 71)).heap[w.heap.size]?=some (.cells #[.int .i64 0] 71 (0,0)):=by
  show(w.heap.push _)[w.heap.size]?=_;simp
 refine⟨?_,?_,sc26 _ w.heap.size 0 _ _ _ _ c,zXp b⟩
 .rw[so26 _ _ _ _ _ (zXp b)];exact(Below.heap_alloc _ _ _ b).trans l
 .rw[so26 _ _ _ _ _ (zXp n)];exact(Below.heap_alloc _ _ _ n).trans m
set_option maxHeartbeats 1000000 in
theorem far26{p q:Nat}{er:Int}{n o r s t u:Value}{h i:TypeId}{w a:World}(v:w.heap[p]?=some (.cells #[n,o,r,s,t] h (0,0)))(x:w.heap[q]?=some (.cells #[u] i (0,0)))(b:p≠q)(d:a=(w.alloc (.cells #[.int .i64 0] 71)).setCell ⟨w.heap.size,0,none⟩ (.int .i64 er))(a':Act)(W:World)(e:W.heap=a.heap)(y:W.os=a.os)(z:W.tape=a.tape)(A:W.output=a.output)(_:T26 p q w.heap.size [] a') :
 w.heap.size<=((w26 p W).setCell ⟨q,0,none⟩ (.int .i64 er)).heap.size/\((w26 p W).setCell ⟨q,0,none⟩ (.int .i64 er)).heap[p]?=some (.cells #[.string ByteArray.empty,.bool false,.slice none 0 0,.bool false,.slice none 0 0] h (0,0))/\((w26 p W).setCell ⟨q,0,none⟩ (.int .i64 er)).heap[q]?=some (.cells #[.int .i64 er] i (0,0))/\(∀j,j<w.heap.size->j≠p->j≠q->((w26 p W).setCell ⟨q,0,none⟩ (.int .i64 er)).heap[j]?=w.heap[j]?)/\((w26 p W).setCell ⟨q,0,none⟩ (.int .i64 er)).os=w.os/\((w26 p W).setCell ⟨q,0,none⟩ (.int .i64 er)).tape=w.tape/\((w26 p W).setCell ⟨q,0,none⟩ (.int .i64 er)).output=w.output:=by
 obtain⟨k,l,_,_⟩:=zRQ (er:=er) v x d;have f:a.heap.size=w.heap.size+1:=by rw[d,sz26];simp
 have c:∀j,j<w.heap.size->a.heap[j]?=w.heap[j]?:=λj m=>by rw[d,so26 _ _ _ _ _ (zXp m)];exact Below.heap_alloc _ _ _ m
 have g:a.os=w.os/\a.tape=w.tape/\a.output=w.output:=by rw[d];exact⟨rfl,rfl,rfl⟩
 rw[<-e]at k l;refine⟨by rw[sz26,w26_sz,e,f];omega,?_,?_,λj B C D=>?_,(o26 W p q _).1.trans (y.trans g.1),(o26 W p q _).2.1.trans (z.trans g.2.1),(o26 W p q _).2.2.trans (A.trans g.2.2)⟩
 .rw[so26 _ _ _ _ _ b];exact w26_at k
 .exact sc26 _ q 0 _ _ _ _ ((zIn (zW8 b)).trans l)
 .rw[so26 _ _ _ _ _ D,zIn C,e];exact c j B
set_option maxRecDepth 100000 in
set_option maxHeartbeats 20000000 in
theorem syn26(p q:Nat)(er:Int)(t u x y z A:Value)(l m:TypeId)(a:List PanicEntry)(w:World)(o:w.heap[p]?=some (.cells #[t,u,x,y,z] l (0,0)))(r:w.heap[q]?=some (.cells #[A] m (0,0)))(h:p≠q) :
 CallsD Tryz.prog 26 #[.pointer (some ⟨p,0,none⟩),.pointer (some ⟨q,0,none⟩)] (.panicking ({ v:=.iface 71 (.agg #[.int .i64 er]),recovered:=false }::a)) w λe D w'=>e=.returned (.tuple #[])/\D=.panicking ({ v:=.iface 71 (.agg #[.int .i64 er]),recovered:=true }::a) /\
  w.heap.size<=w'.heap.size/\w'.heap[p]?=some (.cells #[.string ByteArray.empty,.bool false,.slice none 0 0,.bool false,.slice none 0 0] l (0,0))/\w'.heap[q]?=some (.cells #[.int .i64 er] m (0,0))/\(∀j,j<w.heap.size->j≠p->j≠q->w'.heap[j]?=w.heap[j]?)/\w'.os=w.os/\w'.tape=w.tape/\w'.output=w.output:=by
 refine callsD_of_wpS Tryz.func26 rfl λJ cs B=>?_;apply wpS_seq;apply wpS_region;simp[wpOpsS,go_sem,recoverD,B,Tryz.ntmps26,Exit.thenS];refine wpS_of_wp ?_;have E:∀w:World,(Instr.typeAssert (.iface 71 (.agg #[.int .i64 er])) 20 71 true).run Tryz.prog w=.ok (.tuple #[.agg #[.int .i64 er],.bool true]) w:=λ_=>by kernel_rfl
 have b:(w.alloc (.cells #[.int .i64 0] 71)).heap[w.heap.size]?=some (.cells #[.int .i64 0] 71 (0,0)):=by
  show(w.heap.push _)[w.heap.size]?=_;simp
 obtain⟨i,g⟩:∃i,w.alloc (.cells #[.int .i64 0] 71)=i:=⟨_,rfl⟩;rw[g]at b;have K:i.cell? ⟨w.heap.size,0,none⟩=some (.int .i64 0):=by simp[World.cell?,b]
 have fN:i.frozen? ⟨w.heap.size,0,none⟩=false:=by simp[World.frozen?,b]
 obtain⟨c,k⟩:∃c,i.setCell ⟨w.heap.size,0,none⟩ (.int .i64 er)=c:=⟨_,rfl⟩;have s:∀a' W,W.heap=c.heap->W.os=c.os->W.tape=c.tape->W.output=c.output->T26 p q w.heap.size [] a' ->
  w.heap.size<=((w26 p W).setCell ⟨q,0,none⟩ (.int .i64 er)).heap.size/\((w26 p W).setCell ⟨q,0,none⟩ (.int .i64 er)).heap[p]?=some (.cells #[.string ByteArray.empty,.bool false,.slice none 0 0,.bool false,.slice none 0 0] l (0,0))/\((w26 p W).setCell ⟨q,0,none⟩ (.int .i64 er)).heap[q]?=some (.cells #[.int .i64 er] m (0,0))/\(∀j,j<w.heap.size->j≠p->j≠q->((w26 p W).setCell ⟨q,0,none⟩ (.int .i64 er)).heap[j]?=w.heap[j]?)/\((w26 p W).setCell ⟨q,0,none⟩ (.int .i64 er)).os=w.os/\((w26 p W).setCell ⟨q,0,none⟩ (.int .i64 er)).tape=w.tape/\((w26 p W).setCell ⟨q,0,none⟩ (.int .i64 er)).output=w.output:=far26 o r h (by rw[<-k,<-g])
 have f:c.heap[p]?=some (.cells #[t,u,x,y,z] l (0,0))/\c.heap[q]?=some (.cells #[A] m (0,0))/\c.heap[w.heap.size]?=some (.cells #[.int .i64 er] 71 (0,0))/\p≠w.heap.size:=zRQ o r (by rw[<-k,<-g]);clear b o r;go_wp2;exact draw26 (p:=p) (q:=q) (n:=w.heap.size) (d:=[]) h f.2.2.2 ⟨by simp,by simp,by simp,by simp,rfl⟩ f.1 f.2.1 f.2.2.1 λa' W F G H I C=>
  ⟨C.df,.panicking ({ v:=.iface 71 (.agg #[.int .i64 er]),recovered:=true }::a),by simp[B],_,results_none rfl _ _ _,rfl,rfl,s a' W F G H I C⟩
end
section
open Go.Al Go.Den Go.RowKit
abbrev pv(n:Nat):Value:=.pointer (some ⟨n,0,none⟩)
abbrev zK4(n:Nat):List Deferred:=[{ target:=.fn (.func 26) #[pv n,pv (n+1)],args:=#[] }]
theorem inv26(n:Nat)(W:World):(invoke (.fn (.func 26) #[pv n,pv (n+1)]) #[]).run Tryz.prog W=.ok (.enter 26 #[pv n,pv (n+1)]) W:=by kernel_rfl
def zHz(o:MacT×Int):V:=.tup [CC.encV TI.mac o.1,.at (.int .i64 o.2)]
theorem good15{n:Nat}{g:Gh}{a:Act}{W:World}{e:Env}{s:S}(b:Rel (X15 n (zK4 n)) g e s a W){o:MacT×Int}(p:Q15 n o .ret e s){R:Ending->World->Prop}
 (q:∀v,RV g.bare W (zHz o) v->R (.returned v) W):Leaves Tryz.prog Tryz.f15 a.tmps R a.defers .returning W:=by
 obtain⟨r,⟨w,u,m⟩,x⟩:=p;have y:a.tmps.getD 2 undef=pv n:=b.size.2 (2,pv n) (by simp);have z:a.tmps.getD 3 undef=pv (n+1):=b.size.2 (3,pv (n+1)) (by simp);have c:∀v:Value,one v=true->RV g W (.at v) v:=λv A=>RV.of_RV1 ⟨[v],by simp[RC,A],rfl⟩;have B:Rel (X15 n (zK4 n)) g [(2,ptV n),(3,ptV (n+1))] s a W:=⟨b.inv,λk=>by
  simp only[Env.get];split
  .rename_i i;subst i;rw[y];exact c _ rfl
  split
  .rename_i i;subst i;rw[z];exact c _ rfl
  trivial,b.size,b.df,b.gl⟩
 rw[b.df];refine leaves_cons (f:=26) (args:=#[pv n,pv (n+1)]) (by simp) (inv26 n W) (CallsD.mono (idle26 ⟨n,0,none⟩ ⟨n+1,0,none⟩ W) ?_);rintro H I w' ⟨rfl,rfl,rfl⟩;have d:w.isOne=true:=by rcases m with⟨rfl,_⟩|⟨t,rfl,_⟩<;>rfl
 have C:=zFt m;have h:yk Tryz.prog [.cell 2 32,.cell 3 33] [(2,ptV n),(3,ptV (n+1))] s λxs=>xs=[CC.encV TI.mac o.1,.at (.int .i64 o.2)]:=by
  have j:Al.look s.box (n+1)=_:=x;have D:Env.get [(2,ptV n),(3,ptV (n+1))] 2=ptV n:=rfl;have E:Env.get [(2,ptV n),(3,ptV (n+1))] 3=ptV (n+1):=rfl;simp only[yk,xH,D,E,u,j,yO,yN,zDB,zLf,zBx,zJf,zEM,aggT33];refine⟨⟨trivial,by simp,by simp⟩,?_,⟨trivial,by simp,by simp⟩,by simp[V.flat,zJ,V.isOne],?_⟩
  .simp only[zWE];show zJ [stV o.1.name,.at (.bool o.1.func),w,.at (.bool o.1.variadic),tokL o.1.body];unfold zJ;simp only[zWK,d];rfl
  .simp only[zWE,zWO,zWA];show[V.untag (.agg [stV o.1.name,.at (.bool o.1.func),w,.at (.bool o.1.variadic),tokL o.1.body]),V.untag (.at (.int .i64 0))]=_;rw[C,r];rfl
 obtain⟨xs,us,rfl,F,G⟩:=kH h B;have l:Tryz.f15.results.toList=[.cell 2 32,.cell 3 33]:=by rw[Tryz.results15]
 exact⟨_,jd (by rw[l];exact G),q _ (zFf F)⟩
theorem bad15{n:Nat}{er:Int}{a:Act}{W:World}{k l m o p q:Value}{r s:TypeId}(d:a.tmps.getD 2 undef=pv n)(e:a.tmps.getD 3 undef=pv (n+1))(g:a.defers=zK4 n)
 (t:W.heap[n]?=some (.cells #[k,l,m,o,p] r (0,0))) (h:W.heap[n+1]?=some (.cells #[q] s (0,0))) {R:Ending->World->Prop}
 (u:∀b,W.heap.size<=b.heap.size->(∀j,j<W.heap.size->j≠n->j≠n+1->b.heap[j]?=W.heap[j]?)->b.os=W.os->b.tape=W.tape->b.output=W.output->R (.returned (.tuple #[.agg #[.string ByteArray.empty,.bool false,.slice none 0 0,.bool false,.slice none 0 0],.int .i64 er])) b) :
 Leaves Tryz.prog Tryz.f15 a.tmps R a.defers (.panicking (sE er)) W:=by
 rw[g];refine leaves_cons (f:=26) (args:=#[pv n,pv (n+1)]) (by simp) (inv26 n W) (CallsD.mono (syn26 n (n+1) er _ _ _ _ _ _ _ _ [] W t h (by omega)) ?_);rintro F G w' ⟨rfl,rfl,v,c,w,x,y,z,A⟩;have i:Tryz.f15.results.toList=[.cell 2 32,.cell 3 33]:=by rw[Tryz.results15]
 refine⟨_,jd (us:=[.agg #[.string ByteArray.empty,.bool false,.slice none 0 0,.bool false,.slice none 0 0],.int .i64 er]) ?_,u w' v x y z A⟩;rw[i];have B:w'.cell? ⟨n,0,none⟩=some (.string ByteArray.empty):=by simp[World.cell?,c]
 have C:w'.cell? ⟨n,1,none⟩=some (.bool false):=by simp[World.cell?,c]
 have D:w'.cell? ⟨n,2,none⟩=some (.slice none 0 0):=by simp[World.cell?,c]
 have c3:w'.cell? ⟨n,3,none⟩=some (.bool false):=by simp[World.cell?,c]
 have c4:w'.cell? ⟨n,4,none⟩=some (.slice none 0 0):=by simp[World.cell?,c]
 have E:w'.cell? ⟨n+1,0,none⟩=some (.int .i64 er):=by simp[World.cell?,w]
 simp[qY,d,e,go_sem,B,C,D,c3,c4,E]
theorem three(w:World)(b c d:Obj){a:World}(h:(((w.alloc b).alloc c).alloc d)=a) :
 a.heap.size=w.heap.size+3/\a.heap[w.heap.size]?=some b/\a.heap[w.heap.size+1]?=some c/\a.heap[w.heap.size+2]?=some d:=by
 have e:a.heap=((w.heap.push b).push c).push d:=by rw[<-h];rfl
 rw[e];generalize w.heap=H;have L:∀(A:Array Obj)(x:Obj)(i:Nat),i<A.size->(A.push x)[i]?=A[i]?:=λA x i h=>by simp[Array.getElem?_push,zXp h]
 have N:∀(A:Array Obj)(x:Obj)(i:Nat),i=A.size->(A.push x)[i]?=some x:=λA x i h=>by subst h;simp
 refine⟨by simp,?_,?_,?_⟩<;>(repeat rw[L _ _ _ (by simp only[Array.size_push];omega)])<;>exact N _ _ _ (by simp[Array.size_push])
set_option maxRecDepth 100000 in
set_option maxHeartbeats 2000000 in
theorem zUZ{l:List TokT}(D:l.length<=1100000)(a:Option Addr)(cap:Nat)(g:Nat->Nat)(w:World)(d:∀b,w.heap.size<=b->g b=0)(E:GlobOk w.heap.size g w)
 (hu:RC ⟨g,λ_=>none,Fr.no⟩ w (.lst (yL (l.map (CC.encV TI.tok))) (l.map (CC.encV TI.tok))) [.slice a l.length cap]) :
 Calls Tryz.prog 15 #[.slice a l.length cap] w λe w'=>∃v u,e=.returned v/\(∀b,w'.heap.size<=b->u b=0)/\Step w.heap.size ⟨g,λ_=>none,Fr.no⟩ w ⟨u,λ_=>none,Fr.no⟩ w'/\RV ⟨u,λ_=>none,Fr.no⟩ w' (zHz (defS l)) v:=by
 have ae:∀fn first cap w,(Instr.makeFunc fn first cap).run Tryz.prog w=.ok (.func fn first cap) w:=λ_ _ _ _=>rfl
 go_enter_defers Tryz.func15,Tryz.ntmps15
 show Code.wp Tryz.prog (.seq (.region 0 _ _) (.seq (.region 1 _ _) (.seq (.region 2 _ _) zCi))) _ _ _;go_wp2;rename_i Q';have B:Below w.heap.size w (((w.alloc (.cells #[.string ⟨#[]⟩,.bool false,.slice none 0 0,.bool false,.slice none 0 0] 32)).alloc (.cells #[.int .i64 0] 33)).alloc (.cells #[.slice a l.length cap] 74)):=
  (((Below.refl _ w).alloc (zV7 _) _).alloc (by simp) _).alloc (by simp;omega) _
 obtain⟨x,F⟩:∃x,(((w.alloc (.cells #[.string ⟨#[]⟩,.bool false,.slice none 0 0,.bool false,.slice none 0 0] 32)).alloc (.cells #[.int .i64 0] 33)).alloc (.cells #[.slice a l.length cap] 74))=x:=⟨_,rfl⟩;obtain⟨R,q0,q1,q2⟩:=three w _ _ _ F;rw[F]at B ⊢;obtain⟨n,S⟩:∃n,w.heap.size=n:=⟨_,rfl⟩;rw[S]at d E R q0 q1 q2 B ⊢;have hL:Later ⟨g,λ_=>none,Fr.no⟩ w ⟨g,λ_=>none,Fr.no⟩ x:=⟨λ_=>zV7 _,(λ_ _ e=>(by cases e)),λb o m=>World.cell?_of_block (B.block b (by
  rcases zW5 b n with y|y
  .exact y
  .replace m:o<g b:=m;rw[d b y]at m;omega))⟩
 have T:=zFN hL _ _ hu;have et:tokL (l.isEmpty,l)=.lst (yL (l.map (CC.encV TI.tok))) (l.map (CC.encV TI.tok)):=by cases l<;>rfl
 have i0:Al.Inv n ⟨g,λ_=>none,Fr.no⟩ ⟨[],[],0,[]⟩ x:=
  ⟨by omega,(λb cs k G=>(by cases G)),(λt f=>(by cases f)),(λt f=>(by cases f)),(λt f=>(by cases f)),zW7,λb i=>d b (by omega),λ_ _=>rfl,⟨(λb i=>by cases i),(λb o I G=>(by cases G)),(λb o I U o' af j G=>(by cases G)),(λt f=>by cases f)⟩⟩
 have i1:=i0.addBox (b:=n) (cs:=[stV [],.at (.bool false),.lst .nil [],.at (.bool false),.lst .nil []]) (us:=[.string ⟨#[]⟩,.bool false,.slice none 0 0,.bool false,.slice none 0 0]) (zV7 _) (d n (zV7 _)) q0 (by simp) (by simp[V.isOne])
  (by simp only[RCs,RC];exact⟨[_],_,rfl,⟨rfl,rfl⟩,[_],_,rfl,⟨rfl,rfl⟩,[_],_,rfl,.inl ⟨trivial,rfl,trivial⟩,[_],_,rfl,⟨rfl,rfl⟩,[_],[],rfl,.inl ⟨trivial,rfl,trivial⟩,rfl⟩) rfl (λt f=>(by cases f)) rfl (λU o I h=>(by cases h))
 have i2:=i1.addBox (b:=n+1) (cs:=[.at (.int .i64 0)]) (us:=[.int .i64 0]) (zWh _) (d (n+1) (zWh _)) q1 (by simp) (by simp[V.isOne])
  (by simp only[RCs,RC];exact⟨[_],[],rfl,⟨rfl,rfl⟩,rfl⟩) rfl (λt f=>(by cases f)) rfl (λU o I h=>(by cases h))
 have i3:=i2.addBox (b:=n+2) (cs:=[tokL (l.isEmpty,l)]) (us:=[.slice a l.length cap]) (by omega) (d (n+2) (by omega)) q2 (by simp) (by simp[V.isOne])
  (by rw[et];exact⟨[_],[],rfl,T,rfl⟩) rfl (λt f=>(by cases f)) rfl (λU o I h=>(by cases h))
 have H:=walk15 (n:=n) (df:=zK4 n) (s:=⟨lay (lay (lay [] n ([stV [],.at (.bool false),.lst .nil [],.at (.bool false),.lst .nil []],5)) (n+1) ([.at (.int .i64 0)],1)) (n+2) ([tokL (l.isEmpty,l)],1),[],0,[]⟩) (l:=l)
  (by show Al.look (lay _ (n+2) _) (n+2)=_;rw[zR,if_pos rfl])
  ⟨.lst .nil [],by show Al.look (lay (lay (lay _ n _) (n+1) _) (n+2) _) n=_;rw[zR,if_neg (by omega),zR,if_neg (by omega),zR,if_pos rfl],.inl ⟨rfl,rfl⟩⟩
  (by show Al.look (lay (lay (lay _ n _) (n+1) _) (n+2) _) (n+1)=_;rw[zR,if_neg (by omega),zR,if_pos rfl]) D
 have z:∀v:Value,one v=true->RV ⟨g,λ_=>none,Fr.no⟩ x (.at v) v:=λv W=>RV.of_RV1 ⟨[v],by simp[RC,W],rfl⟩;refine wpIn_wide.1 (wpIn_mono (H ⟨g,λ_=>none,Fr.no⟩ _ x ⟨i3,λk=>?_,⟨rfl,λp hp=>?_⟩,rfl,E.below B λ_=>zV7 _⟩) ?_)
 .simp only[Env.get];split
  .rename_i e;subst e;exact z _ rfl
  split
  .rename_i e;subst e;exact z _ rfl
  split
  .rename_i e;subst e;exact z _ rfl
  trivial
 .simp only[zWB,zWu,zXc]at hp;rcases hp with rfl|rfl<;>rfl
 .rintro ex a' w' ⟨g',e',s',J,q,C⟩;have all:∀X A,Step n ⟨g,λ_=>none,Fr.no⟩ x X A->Step w.heap.size ⟨g,λ_=>none,Fr.no⟩ w ⟨X.wm,λ_=>none,Fr.no⟩ A:=λX A K=>by
   rw[S];exact⟨⟨K.later.wm,(λ_ _ e=>(by cases e)),λb o m=>(K.later.cell b o m).trans (hL.cell b o m)⟩,B.trans K.below,(λb i=>by cases i),K.wmB,rfl⟩
  cases ex with
  |ret=>exact good15 q C λv W=>⟨v,g'.wm,rfl,q.inv.fresh,all g' w' J,RV.fr _ _ W⟩
  |panic c=>
   obtain⟨⟨hz,rfl⟩,⟨cs,Y⟩,hE⟩:=C;obtain⟨p1,p2,p3,p4,arr,el,us,p5,p6,p7,p8⟩:=q.inv.box n cs 5 Y;obtain⟨r1,r2,r3,r4,r,ag,ah,r5,r6,r7,r8⟩:=q.inv.box (n+1) _ 1 hE;obtain⟨L,M,N,O,P,rfl⟩:∃L M N O P,arr=#[L,M,N,O,P]:=by
    obtain⟨Z⟩:=arr
    match Z,p6 with
    |[L,M,N,O,P],_=>exact⟨L,M,N,O,P,rfl⟩
   obtain⟨Q,rfl⟩:∃Q,r=#[Q]:=by
    obtain⟨Z⟩:=r
    match Z,r6 with
    |[Q],_=>exact⟨Q,rfl⟩
   refine bad15 (er:=(defS l).2) (q.size.2 (2,pv n) (by simp)) (q.size.2 (3,pv (n+1)) (by simp)) q.df p5 r5 λA s1 s2 s3 s4 s5=>?_;have aa:g'.wm n=0:=p2;have ab:g'.wm (n+1)=0:=r2;have ac:Later g' w' g' A:=⟨λ_=>zV7 _,λ_ _ e=>e,λb o m=>World.cell?_of_block (s2 b (by
    rcases zW5 b w'.heap.size with y|y
    .exact y
    .rw[q.inv.fresh b y]at m;omega) (λe=>by subst e;rw[aa]at m;omega) (λe=>by subst e;rw[ab]at m;omega))⟩
   have ad:=(B.trans J.below).size;have i:Below n w' A:=⟨s3,s4,s5,s1,λk hk=>s2 k (by have:=S;omega) (by omega) (by omega)⟩;refine⟨_,g'.wm,rfl,λb i=>q.inv.fresh b (zWv s1 i),all g' A (J.trans ⟨ac,i,λb i=>(by rw[J.fr]at i;cases i),λ_ _=>rfl,rfl⟩),?_⟩;have ez:zHz (defS l)=.tup [CC.encV TI.mac zM,.at (.int .i64 (defS l).2)]:=by unfold zHz;rw[hz]
   rw[ez];refine zFf (xs:=[CC.encV TI.mac zM,.at (.int .i64 (defS l).2)]) (us:=[.agg #[.string ByteArray.empty,.bool false,.slice none 0 0,.bool false,.slice none 0 0],.int .i64 (defS l).2]) (.cons ⟨[.string ByteArray.empty,.bool false,.slice none 0 0,.bool false,.slice none 0 0],?_,rfl⟩ (.cons ⟨[.int .i64 (defS l).2],?_,rfl⟩ .nil))
   .have em:CC.encV TI.mac zM=.agg [stV [],.at (.bool false),.lst .nil [],.at (.bool false),.lst .nil []]:=rfl;rw[em];simp only[RC,RCs];exact⟨[_],_,rfl,⟨rfl,rfl⟩,[_],_,rfl,⟨rfl,rfl⟩,[_],_,rfl,.inl ⟨trivial,rfl,trivial⟩,[_],_,rfl,⟨rfl,rfl⟩,[_],[],rfl,.inl ⟨trivial,rfl,trivial⟩,rfl⟩
   .simp only[RC];exact⟨trivial,rfl⟩
  |normal=>exact C.elim
  |exit id=>exact C.elim
  |goto l=>exact C.elim
  |outgrown=>exact C.elim
theorem pure15{l:List TokT}(c:l.length<=1100000):PureF Tryz.prog 15 [.lst (yL (l.map (CC.encV TI.tok))) (l.map (CC.encV TI.tok))] (zHz (defS l)):=by
 intro m w vs i j f;obtain⟨v,rfl⟩:∃v,vs=[v]:=by cases f with|cons _ f=>cases f;exact⟨_,rfl⟩
 cases f with
 |cons h _=>
  obtain⟨us,g,k⟩:=h;have d:(l.map (CC.encV TI.tok)).length=l.length:=zWG _;obtain⟨a,cap,rfl,rfl⟩:∃a cap,v=.slice a l.length cap/\us=[.slice a l.length cap]:=by
   have p:=g;simp only[RC]at g;rcases g with⟨e,rfl,_⟩|⟨b,o,cap,ds,rfl,_⟩
   .have:l=[]:=zYq.1 e;subst this;exact⟨none,0,by rw[k];simp[pack],rfl⟩
   .exact⟨some ⟨b,o,none⟩,cap,k.trans (zWp (λn=>Value.slice (some ⟨b,o,none⟩) n cap) d),zWp (λn=>[Value.slice (some ⟨b,o,none⟩) n cap]) d⟩
  exact zUZ c a cap m w i j g
end
end Go.Proofs.YtfjiiknfopmcjaaGreatDoor
namespace Go.Cx
section
open Go.RowKit
inductive T where
 |atm (v:Value)
 |int (k:IntKind) (n:Int)
 |bool (b:Bool)
 |str (s:List Nat)
 |agg (fs:List T)
 |tup (fs:List T)
 |ptr (l o:Nat)
 |sl (l z a p n:Nat)
 |slc (l o n c:Nat)
 |mp (l:Nat)
 |fn (f:Fn) (first caps:List T)
 |yl (l:Nat)
 |ifc (t:TypeId) (x:T)
instance:Inhabited T:=⟨.tup []⟩
structure NM where
 bl:Nat->Nat
 cp:Nat->Nat
def bts(s:List Nat):ByteArray:=⟨(s.map UInt8.ofNat).toArray⟩
mutual
def tr(N:NM):T->Value
 |.atm v=>v
 |.int k n=>.int k n
 |.bool b=>.bool b
 |.str s=>.string (bts s)
 |.agg fs=>.agg (trs N fs).toArray
 |.tup fs=>.tuple (trs N fs).toArray
 |.ptr l o=>.pointer (some ⟨N.bl l,o,none⟩)
 |.sl l z a p n=>.slice (some ⟨N.bl l,if N.cp l=a then p*z else a*z,none⟩) n (N.cp l-a)
 |.slc l o n c=>.slice (some ⟨N.bl l,o,none⟩) n c
 |.mp l=>.map (some (N.bl l))
 |.fn f first caps=>.func f (trs N first).toArray (trs N caps).toArray
 |.yl l=>.func (.yield (N.bl l)) #[] #[]
 |.ifc t x=>.iface t (tr N x)
def trs(N:NM):List T->List Value
 |[]=>[]
 |x::xs=>tr N x::trs N xs
end
def T.one:T->Bool
 |.agg _=>false
 |.tup _=>false
 |_=>true
def ones(l:List T):Prop:=l.all T.one=true
theorem yQ(N:NM):∀l:List T,trs N l=l.map (tr N)
 |[]=>rfl
 |x::r=>by simp[trs,yQ N r]
mutual
/-- The names in it are below nl;cells are cells. -/
def bd(nl:Nat):T->Prop
 |.atm v=>Al.one v=true
 |.agg fs=>bds nl fs/\ones fs
 |.tup fs=>bds nl fs
 |.ptr l _=>l<nl
 |.sl l _ _ _ _=>l<nl
 |.slc l _ _ _=>l<nl
 |.mp l=>l<nl
 |.fn _ a b=>bds nl a/\bds nl b
 |.yl l=>l<nl
 |.ifc _ x=>bd nl x
 |_=>True
def bds(nl:Nat):List T->Prop
 |[]=>True
 |x::xs=>bd nl x/\bds nl xs
end
theorem zAu(nl:Nat):∀l:List T,bds nl l↔∀x∈l,bd nl x
 |[]=>by simp[bds]
 |x::r=>by simp[bds,zAu nl r]
structure Ext(nl:Nat)(N N':NM):Prop where
 bl:∀l,l<nl->N'.bl l=N.bl l
 cp:∀l,l<nl->N'.cp l=N.cp l
theorem Ext.refl(nl:Nat)(N:NM):Ext nl N N:=⟨λ_ _=>rfl,λ_ _=>rfl⟩
theorem Ext.trans{nl a:Nat}{N c d:NM}(h:Ext nl N c)(h':Ext a c d)(e:nl<=a):Ext nl N d:=
 ⟨λl b=>(h'.bl l (by omega)).trans (h.bl l b),λl b=>(h'.cp l (by omega)).trans (h.cp l b)⟩
mutual
theorem zEB{nl:Nat}{N N':NM}(h:Ext nl N N'):∀x:T,bd nl x->tr N' x=tr N x
 |.atm _,_=>rfl
 |.int _ _,_=>rfl
 |.bool _,_=>rfl
 |.str _,_=>rfl
 |.agg fs,hb=>by simp only[bd]at hb;simp only[tr];rw[zA3 h fs hb.1]
 |.tup fs,hb=>by simp only[tr];rw[zA3 h fs (by simpa only[bd]using hb)]
 |.ptr l o,hb=>by simp only[bd]at hb;simp only[tr,h.bl l hb]
 |.sl l z a p n,hb=>by simp only[bd]at hb;simp only[tr,h.bl l hb,h.cp l hb]
 |.slc l o n c,hb=>by simp only[bd]at hb;simp only[tr,h.bl l hb]
 |.mp l,hb=>by simp only[bd]at hb;simp only[tr,h.bl l hb]
 |.fn f a b,hb=>by simp only[bd]at hb;simp only[tr];rw[zA3 h a hb.1,zA3 h b hb.2]
 |.yl l,hb=>by simp only[bd]at hb;simp only[tr,h.bl l hb]
 |.ifc t x,hb=>by simp only[tr];rw[zEB h x (by simpa only[bd]using hb)]
theorem zA3{nl:Nat}{N N':NM}(h:Ext nl N N'):∀l:List T,bds nl l->trs N' l=trs N l
 |[],_=>rfl
 |x::xs,hb=>by simp only[bds]at hb;simp only[trs];rw[zEB h x hb.1,zA3 h xs hb.2]
end
theorem zC7{nl:Nat}{N N':NM}(h:Ext nl N N'){l:List T}(a:bds nl l):l.map (tr N')=l.map (tr N):=by
 rw[<-yQ,<-yQ];exact zA3 h l a
mutual
theorem qi{nl nl':Nat}(h:nl<=nl'):∀x:T,bd nl x->bd nl' x
 |.atm _,h=>h
 |.int _ _,_=>trivial
 |.bool _,_=>trivial
 |.str _,_=>trivial
 |.agg fs,hb=>by simp only[bd]at hb ⊢;exact⟨yS h fs hb.1,hb.2⟩
 |.tup fs,hb=>by simp only[bd]at hb ⊢;exact yS h fs hb
 |.ptr l o,hb=>by simp only[bd]at hb ⊢;omega
 |.sl l z a p n,hb=>by simp only[bd]at hb ⊢;omega
 |.slc l o n c,hb=>by simp only[bd]at hb ⊢;omega
 |.mp l,hb=>by simp only[bd]at hb ⊢;omega
 |.fn f a b,hb=>by simp only[bd]at hb ⊢;exact⟨yS h a hb.1,yS h b hb.2⟩
 |.yl l,hb=>by simp only[bd]at hb ⊢;omega
 |.ifc t x,hb=>by simp only[bd]at hb ⊢;exact qi h x hb
theorem yS{nl nl':Nat}(h:nl<=nl'):∀l:List T,bds nl l->bds nl' l
 |[],_=>trivial
 |x::xs,hb=>by simp only[bds]at hb ⊢;exact⟨qi h x hb.1,yS h xs hb.2⟩
end
theorem xC{nl:Nat}{a b:List T}(h:bds nl a)(h':bds nl b):bds nl (a++b):=by
 rw[zAu]at *;intro x c;rcases zWe.1 c with q|q
 .exact h x q
 .exact h' x q
theorem jz{nl:Nat}{a:List T}(h:bds nl a)(n:Nat):bds nl (a.take n):=by
 rw[zAu]at *;exact λx b=>h x (zW2 b)
theorem zAD{nl:Nat}{a:List T}(h:bds nl a)(n:Nat):bds nl (a.drop n):=by
 rw[zAu]at *;exact λx b=>h x (zXW b)
theorem jf{a b:List T}(h:ones a)(h':ones b):ones (a++b):=by unfold ones at *;rw[List.all_append,h,h'];rfl
theorem jT{a:List T}(h:ones a)(n:Nat):ones (a.take n):=by
 unfold ones at *;rw[zWL]at *;exact λx b=>h x (zW2 b)
theorem jr{a:List T}(h:ones a)(n:Nat):ones (a.drop n):=by
 unfold ones at *;rw[zWL]at *;exact λx b=>h x (zXW b)
theorem one_tr{nl:Nat}{N:NM}:∀{x:T},bd nl x->T.one x=true->(tr N x).oneCell'=true
 |.atm v,h,_=>by
  simp only[bd]at h;cases v<;>first|rfl|(simp[Al.one]at h)
 |.agg _,_,h=>by simp[T.one]at h
 |.tup _,_,h=>by simp[T.one]at h
 |.int _ _,_,_=>rfl
 |.bool _,_,_=>rfl
 |.str _,_,_=>rfl
 |.ptr _ _,_,_=>rfl
 |.sl _ _ _ _ _,_,_=>rfl
 |.slc _ _ _ _,_,_=>rfl
 |.mp _,_,_=>rfl
 |.fn _ _ _,_,_=>rfl
 |.yl _,_,_=>rfl
 |.ifc _ _,_,_=>rfl
theorem zGW{nl:Nat}{N:NM}{l:List T}(h:bds nl l)(a:ones l):∀v∈l.map (tr N),v.oneCell'=true:=by
 intro v c;obtain⟨x,b,rfl⟩:=zWa.1 c;unfold ones at a;rw[zWL]at a;rw[zAu]at h;exact one_tr (h x b) (a x b)
theorem zLo{nl:Nat}{a:List T}(h:bds nl a){n:Nat}{x:T}(b:a[n]?=some x):bd nl x:=by
 rw[zAu]at h;exact h x (zXy b)
inductive Tr(α:Type) where
 |lf
 |n (l:Tr α) (v:Option α) (r:Tr α)
section
variable{α:Type}
noncomputable def Tr.get(t:Tr α):Nat->Option α:=
 Tr.rec (motive:=λ_=>Nat->Option α) (λ_=>none)
  (λ_ v _ a b k=>Nat.rec (motive:=λ_=>Option α) v (λj _=>Nat.rec (motive:=λ_=>Option α) (a (Nat.div j 2)) (λ_ _=>b (Nat.div j 2)) (Nat.mod j 2)) k) t
theorem Tr.get_lf(k:Nat):(Tr.lf:Tr α).get k=none:=rfl
theorem Tr.get_z(l r:Tr α)(v:Option α):(Tr.n l v r).get 0=v:=rfl
theorem zJn{β:Type}(j:Nat)(a b:β):(Nat.rec (motive:=λ_=>β) a (λ_ _=>b) (Nat.mod j 2))=if j % 2=0 then a else b:=by
 show(Nat.rec (motive:=λ_=>β) a (λ_ _=>b) (j % 2))=_;cases h:j % 2 with
 |zero=>rfl
 |succ n=>simp
theorem Tr.get_s(l r:Tr α)(v:Option α)(j:Nat):(Tr.n l v r).get (j+1)=if j % 2=0 then l.get (j / 2)else r.get (j / 2):=zJn j _ _
theorem beq_iff{a b:Nat}:Nat.beq a b=true↔a=b:=by simp
theorem zKJ{a b:Nat}(h:a≠b):Nat.beq a b=false:=by
 cases c:Nat.beq a b
 .rfl
 .exact absurd (beq_iff.1 c) h
noncomputable def Tr.mkK(v:α)(f:Nat):Nat->(Tr α->Bool)->Bool:=
 Nat.rec (motive:=λ_=>Nat->(Tr α->Bool)->Bool) (λ_ _=>false)
  (λ_ a k κ=>Nat.rec (motive:=λ_=>Bool) (κ (.n .lf (some v) .lf)) (λj _=>Nat.rec (motive:=λ_=>Bool) (a (Nat.div j 2) λl=>κ (.n l none .lf)) (λ_ _=>a (Nat.div j 2) λr=>κ (.n .lf none r)) (Nat.mod j 2)) k) f
noncomputable def Tr.setK(v:α)(f:Nat)(t:Tr α):Nat->(Tr α->Bool)->Bool:=
 Tr.rec (motive:=λ_=>Nat->(Tr α->Bool)->Bool) (λk κ=>Tr.mkK v f k κ)
  (λl w r a b k κ=>Nat.rec (motive:=λ_=>Bool) (κ (.n l (some v) r)) (λj _=>Nat.rec (motive:=λ_=>Bool) (a (Nat.div j 2) λl=>κ (.n l w r)) (λ_ _=>b (Nat.div j 2) λr=>κ (.n l w r)) (Nat.mod j 2)) k) t
theorem Tr.n_ok{l r b c:Tr α}{w w':Option α}{k:Nat}{v:α}(d:w'=if k=0 then some v else w)(f:∀i,b.get i=if k=2*i+1 then some v else l.get i)(g:∀i,c.get i=if k=2*i+2 then some v else r.get i)(j:Nat):(Tr.n b w' c).get j=if j=k then some v else(Tr.n l w r).get j:=by
 cases j with
 |zero=>
  rw[Tr.get_z,Tr.get_z,d];by_cases e:k=0
  .rw[if_pos e,if_pos e.symm]
  .rw[if_neg e,if_neg (zW8 e)]
 |succ j=>
  rw[Tr.get_s,Tr.get_s];by_cases a:j % 2=0
  .rw[if_pos a,if_pos a,f];by_cases e:k=2*(j / 2)+1
   .rw[if_pos e,if_pos (by omega)]
   .rw[if_neg e,if_neg (by omega)]
  .rw[if_neg a,if_neg a,g];by_cases e:k=2*(j / 2)+2
   .rw[if_pos e,if_pos (by omega)]
   .rw[if_neg e,if_neg (by omega)]
theorem Tr.get_lf_n(j:Nat):(Tr.n .lf none .lf:Tr α).get j=none:=by
 cases j with
 |zero=>rfl
 |succ j=>rw[Tr.get_s];split<;>rfl
theorem Tr.mkK_ok(v:α):∀(f k:Nat)(κ:Tr α->Bool),Tr.mkK v f k κ=true->∃c,κ c=true/\∀j,c.get j=if j=k then some v else none
 |0,_,_,h=>by cases h
 |f+1,0,κ,h=>⟨_,h,λj=>by rw[Tr.n_ok (l:=.lf) (r:=.lf) (w:=none) (k:=0) (v:=v) (by rw[if_pos rfl]) (λi=>by rw[if_neg (by omega)]) (λi=>by rw[if_neg (by omega)]),Tr.get_lf_n]⟩
 |f+1,k+1,κ,h=>by
  have h:(Nat.rec (motive:=λ_=>Bool) (Tr.mkK v f (Nat.div k 2) λl=>κ (.n l none .lf)) (λ_ _=>Tr.mkK v f (Nat.div k 2) λr=>κ (.n .lf none r)) (Nat.mod k 2))=true:=h;rw[zJn]at h;have d:Nat.div k 2=k / 2:=rfl;rw[d]at h;split at h
  .obtain⟨g,a,b⟩:=Tr.mkK_ok v f _ _ h;refine⟨_,a,λj=>?_⟩;rw[Tr.n_ok (l:=.lf) (r:=.lf) (w:=none) (k:=k+1) (v:=v) (by rw[if_neg (by omega)]) (λi=>?_) (λi=>by rw[if_neg (by omega)]),Tr.get_lf_n];rw[b,Tr.get_lf];by_cases e:i=k / 2
   .rw[if_pos e,if_pos (by omega)]
   .rw[if_neg e,if_neg (by omega)]
  .obtain⟨m,a,b⟩:=Tr.mkK_ok v f _ _ h;refine⟨_,a,λj=>?_⟩;rw[Tr.n_ok (l:=.lf) (r:=.lf) (w:=none) (k:=k+1) (v:=v) (by rw[if_neg (by omega)]) (λi=>by rw[if_neg (by omega)]) (λi=>?_),Tr.get_lf_n];rw[b,Tr.get_lf];by_cases e:i=k / 2
   .rw[if_pos e,if_pos (by omega)]
   .rw[if_neg e,if_neg (by omega)]
theorem Tr.setK_ok(v:α)(f:Nat):∀(t:Tr α)(k:Nat)(κ:Tr α->Bool),Tr.setK v f t k κ=true->∃c,κ c=true/\∀j,c.get j=if j=k then some v else t.get j
 |.lf,k,κ,h=>Tr.mkK_ok v f k κ h
 |.n l w r,0,κ,h=>⟨_,h,Tr.n_ok (by rw[if_pos rfl]) (λi=>by rw[if_neg (by omega)]) (λi=>by rw[if_neg (by omega)])⟩
 |.n l w r,k+1,κ,h=>by
  have h:(Nat.rec (motive:=λ_=>Bool) (Tr.setK v f l (Nat.div k 2) λl=>κ (.n l w r)) (λ_ _=>Tr.setK v f r (Nat.div k 2) λr=>κ (.n l w r)) (Nat.mod k 2))=true:=h;rw[zJn]at h;have d:Nat.div k 2=k / 2:=rfl;rw[d]at h;split at h
  .obtain⟨g,a,b⟩:=Tr.setK_ok v f l _ _ h;refine⟨_,a,Tr.n_ok (by rw[if_neg (by omega)]) (λi=>?_) (λi=>by rw[if_neg (by omega)])⟩;rw[b];by_cases e:i=k / 2
   .rw[if_pos e,if_pos (by omega)]
   .rw[if_neg e,if_neg (by omega)]
  .obtain⟨m,a,b⟩:=Tr.setK_ok v f r _ _ h;refine⟨_,a,Tr.n_ok (by rw[if_neg (by omega)]) (λi=>by rw[if_neg (by omega)]) (λi=>?_)⟩;rw[b];by_cases e:i=k / 2
   .rw[if_pos e,if_pos (by omega)]
   .rw[if_neg e,if_neg (by omega)]
end
inductive HO where
 |row (g:Nat) (cs:List T) (fz el:Nat)
 |ro (cs:List T)
 |mp (es:List (T×T×Nat)) (clock:Nat)
 |sit (s:List Nat) (pos:Nat)
 |mit (m:Option Nat) (since:Nat) (seen:List Nat) (stepped:Nat)
 |loop (st:LoopState) (pending:Option Code) (nt:Nat) (e:Tr T) (params:List Nat) (assign body:Code) (dl:Nat)
 |dfr
 |dead
noncomputable def eget(e:Tr T)(k:Nat):T:=(e.get k).elim (.tup []) λx=>x
structure ESim(N:NM)(nl nt:Nat)(e:Tr T)(tmps:Array Value):Prop where
 size:tmps.size=nt
 val:∀k,tmps.getD k undef=tr N (eget e k)
 bd:∀k,bd nl (eget e k)
def ObOk(N:NM)(nl l:Nat)(ob:Option Obj):HO->Prop
 |.row g cs o el=>∃arr hi,ob=some (.cells arr el (0,hi))/\hi<=o/\cs.length<=arr.size/\arr.toList.take cs.length=cs.map (tr N)/\(bds nl cs/\ones cs)/\(if g=0 then arr.size=cs.length else arr.size=N.cp l*g)
 |.ro cs=>∃arr el m,ob=some (.cells arr el m)/\cs.length<=arr.size/\arr.toList.take cs.length=cs.map (tr N)/\(bds nl cs/\ones cs)
 |.mp es h=>∃arr,ob=some (.map arr h)/\arr.toList=es.map (λp=>⟨tr N p.1,tr N p.2.1,p.2.2⟩)/\∀p∈es,bd nl p.1/\bd nl p.2.1
 |.sit s k=>ob=some (.stringIter (bts s) k)
 |.mit m i seen a=>ob=some (.mapIter (m.map N.bl) i seen.toArray a)/\∀l,m=some l->l<nl
 |.loop st b q e c d j n=>∃r f,ob=some (.loop ⟨st,b,r,f,c.toArray,d,j,N.bl n⟩)/\ESim N nl q e f/\n<nl
 |.dfr=>ob=some (.deferred (some []))
 |.dead=>True
def isRo:HO->Bool
 |.ro _=>true
 |_=>false
def xL:HO->Bool
 |.dead=>true
 |_=>false
structure XS where
 h:Tr HO
 nl:Nat
structure Bs where
 B:Nat
 ng:Nat
structure HSim(B:Bs)(N:NM)(S:XS)(w:World):Prop where
 base:B.B<=w.heap.size
 ng:B.ng<=S.nl
 glo:∀g,g<B.ng->N.bl g=g
 lt:∀l o,S.h.get l=some o->l<S.nl
 ok:∀l o,S.h.get l=some o->ObOk N S.nl l w.heap[N.bl l]? o
 low:∀l o,S.h.get l=some o->xL o=false->(if isRo o=true then N.bl l<B.B else B.B<=N.bl l)/\N.bl l<w.heap.size
 inj:∀l l' o o',S.h.get l=some o->S.h.get l'=some o'->xL o=false->xL o'=false->N.bl l=N.bl l'->l=l'
theorem ObOk.of_dead{N:NM}{nl l:Nat}{ob:Option Obj}{o:HO}(h:xL o=true):ObOk N nl l ob o:=by
 cases o<;>first|trivial|(simp[xL]at h)
theorem ESim.ext{N N':NM}{nl b c:Nat}{e:Tr T}{a:Array Value}(h:ESim N nl c e a)(d:Ext nl N N')(f:nl<=b):ESim N' b c e a:=
 ⟨h.size,λk=>by rw[zEB d _ (h.bd k)];exact h.val k,λk=>qi f _ (h.bd k)⟩
theorem ObOk.ext{N N':NM}{nl j l:Nat}{ob:Option Obj}{o:HO}(h:ObOk N nl l ob o)(c:Ext nl N N')(f:nl<=j)(z:l<nl):ObOk N' j l ob o:=by
 cases o with
 |row g cs E el=>
  obtain⟨arr,hi,b,d,a,v,i,A⟩:=h;refine⟨arr,hi,b,d,a,by rw[zC7 c i.1];exact v,⟨yS f _ i.1,i.2⟩,?_⟩;rw[c.cp l z];exact A
 |ro cs=>
  obtain⟨arr,el,m,b,a,v,i⟩:=h;exact⟨arr,el,m,b,a,by rw[zC7 c i.1];exact v,⟨yS f _ i.1,i.2⟩⟩
 |mp es w=>
  obtain⟨arr,b,d,a⟩:=h;refine⟨arr,b,?_,λp k=>⟨qi f _ (a p k).1,qi f _ (a p k).2⟩⟩;rw[d];exact zWx λp k=>by rw[zEB c _ (a p k).1,zEB c _ (a p k).2]
 |sit s B=>exact h
 |mit m x seen n=>
  obtain⟨b,d⟩:=h;refine⟨?_,λl e=>zWN (d l e) f⟩;rw[b];cases m with
  |none=>rfl
  |some m=>simp only[zXC,c.bl m (d m rfl)]
 |loop st q F e t u y C=>
  obtain⟨D,r,b,d,a⟩:=h;exact⟨D,r,by rw[c.bl C a];exact b,d.ext c f,zWN a f⟩
 |dfr=>exact h
 |dead=>trivial
theorem HSim.same{B:Bs}{N:NM}{S:XS}{w w':World}(h:HSim B N S w)(e:∀b,b<w.heap.size->w'.heap[b]?=w.heap[b]?)(d:w.heap.size<=w'.heap.size):HSim B N S w':=by
 refine⟨zWv h.base d,h.ng,h.glo,h.lt,λl o a=>?_,λl o a c=>⟨(h.low l o a c).1,zWN (h.low l o a c).2 d⟩,h.inj⟩;cases c:xL o with
 |true=>exact .of_dead c
 |false=>rw[e _ (h.low l o a c).2];exact h.ok l o a
theorem HSim.upd{B:Bs}{N:NM}{S:XS}{w w':World}(h:HSim B N S w){l:Nat}{o o':HO}(f:S.h.get l=some o)(g:xL o=false)(x:isRo o=false)(n:isRo o'=false)
 (y:∀b,b≠N.bl l->w'.heap[b]?=w.heap[b]?) (s:w'.heap.size=w.heap.size) (z:ObOk N S.nl l w'.heap[N.bl l]? o') {h':Tr HO} (k:∀j,h'.get j=if j=l then some o' else S.h.get j):HSim B N ⟨h',S.nl⟩ w':=by
 have t:=h.low l o f g;refine⟨by rw[s];exact h.base,h.ng,h.glo,λj p a=>?_,λj p a=>?_,λj p a c=>?_,λi j p q a d u v e=>?_⟩
 .replace a:h'.get j=some p:=a;rw[k]at a;split at a
  .rename_i e;subst e;exact h.lt _ o f
  .exact h.lt j p a
 .replace a:h'.get j=some p:=a;rw[k]at a;split at a
  .rename_i e;subst e;injection a with a;subst a;exact z
  .rename_i e;cases c:xL p with
   |true=>exact .of_dead c
   |false=>
    have:N.bl j≠N.bl l:=λe'=>e (h.inj j l p o a f c g e');rw[y _ this];exact h.ok j p a
 .replace a:h'.get j=some p:=a;rw[k]at a;rw[s];split at a
  .rename_i e;subst e;injection a with a;subst a
   rw[x]at t;rw[n];exact t
  .exact h.low j p a c
 .replace a:h'.get i=some p:=a;replace d:h'.get j=some q:=d;rw[k]at a d;split at a
  .rename_i r;split at d
   .rename_i m;rw[r,m]
   .rename_i m;subst r;exact h.inj _ _ o q f d g v e
  .rename_i r;split at d
   .rename_i m;subst m;exact h.inj _ _ p o a f u g e
   .exact h.inj _ _ p q a d u v e
def NM.add(N:NM)(l b c:Nat):NM:=⟨λj=>if j=l then b else N.bl j,λj=>if j=l then c else N.cp j⟩
theorem NM.ext_add(N:NM)(l b c:Nat):Ext l N (N.add l b c):=⟨λj a=>if_neg (by omega),λj a=>if_neg (by omega)⟩
theorem NM.add_bl(N:NM)(l b c:Nat):(N.add l b c).bl l=b:=if_pos rfl
theorem NM.add_cp(N:NM)(l b c:Nat):(N.add l b c).cp l=c:=if_pos rfl
theorem HSim.name{B:Bs}{N:NM}{S:XS}{w:World}(h:HSim B N S w){b c:Nat}{o:HO}(x:B.B<=b)(y:b<w.heap.size)(z:isRo o=false)
 (k:∀l o,S.h.get l=some o->xL o=false->N.bl l≠b) (A:ObOk (N.add S.nl b c) (S.nl+1) S.nl w.heap[b]? o) {h':Tr HO} (n:∀j,h'.get j=if j=S.nl then some o else S.h.get j) :
 HSim B (N.add S.nl b c) ⟨h',S.nl+1⟩ w:=by
 have f:=N.ext_add S.nl b c;refine⟨h.base,Nat.le_succ_of_le h.ng,λg u=>(f.bl g (zWN u h.ng)).trans (h.glo g u),λj p a=>?_,λj p a=>?_,λj p a s=>?_,λi j p q a d m v e=>?_⟩
 .replace a:h'.get j=some p:=a;rw[n]at a;show j<S.nl+1;split at a
  .rename_i e;omega
  .have:=h.lt j p a;omega
 .replace a:h'.get j=some p:=a;rw[n]at a;split at a
  .rename_i e;subst e;injection a with a;subst a;rw[NM.add_bl];exact A
  .have m:=h.lt j p a;rw[f.bl j m];exact(h.ok j p a).ext f (zWh _) m
 .replace a:h'.get j=some p:=a;rw[n]at a;split at a
  .rename_i e;subst e;injection a with a;subst a
   rw[z,NM.add_bl];exact⟨x,y⟩
  .rw[f.bl j (h.lt j p a)];exact h.low j p a s
 .replace a:h'.get i=some p:=a;replace d:h'.get j=some q:=d;rw[n]at a d;split at a
  .rename_i t;split at d
   .rename_i r;rw[t,r]
   .rename_i r;subst t;rw[NM.add_bl,f.bl j (h.lt j q d)]at e;exact absurd e.symm (k j q d v)
  .rename_i t;split at d
   .rename_i r;subst r;rw[NM.add_bl,f.bl i (h.lt i p a)]at e;exact absurd e (k i p a m)
   .rw[f.bl i (h.lt i p a),f.bl j (h.lt j q d)]at e;exact h.inj _ _ p q a d m v e
theorem HSim.free{B:Bs}{N:NM}{S:XS}{w:World}(h:HSim B N S w):∀l o,S.h.get l=some o->xL o=false->N.bl l≠w.heap.size:=λl o a b e=>by
 have:=(h.low l o a b).2;omega
structure Stp(B:Bs)(N:NM)(S:XS)(w:World)(N':NM)(S':XS)(w':World):Prop where
 ext:Ext S.nl N N'
 nl:S.nl<=S'.nl
 sim:HSim B N' S' w'
 bel:Below B.B w w'
 frm:∀b,b<w.heap.size->(∀l o,S.h.get l=some o->xL o=false->N.bl l≠b)->w'.heap[b]?=w.heap[b]?
 prov:∀l o,S'.h.get l=some o->xL o=false->w.heap.size<=N'.bl l\/∃l' o',S.h.get l'=some o'/\xL o'=false/\N.bl l'=N'.bl l
theorem Stp.stay{B:Bs}{N:NM}{S:XS}{w w':World}(h:HSim B N S w')(d:∀b,b<w.heap.size->w'.heap[b]?=w.heap[b]?)(a:Below B.B w w'):Stp B N S w N S w':=
 ⟨.refl _ _,zV7 _,h,a,λb c _=>d b c,λl o e f=>.inr ⟨l,o,e,f,rfl⟩⟩
theorem Stp.refl{B:Bs}{N:NM}{S:XS}{w:World}(h:HSim B N S w):Stp B N S w N S w:=.stay h (λ_ _=>rfl) (.refl _ _)
theorem Stp.set{B:Bs}{N:NM}{S:XS}{w w':World}{l:Nat}{o o':HO}{h':Tr HO}(g:S.h.get l=some o)(i:xL o=false)(m:∀j,h'.get j=if j=l then some o' else S.h.get j)(c:HSim B N ⟨h',S.nl⟩ w')(d:Below B.B w w')(n:∀b,b≠N.bl l->w'.heap[b]?=w.heap[b]?):Stp B N S w N ⟨h',S.nl⟩ w':=
 ⟨.refl _ _,zV7 _,c,d,λb _ p=>n b λe=>p l o g i e.symm,λj k a f=>by
  replace a:h'.get j=some k:=a;rw[m]at a;split at a
  .rename_i e;subst e;exact .inr ⟨j,o,g,i,rfl⟩
  .exact .inr ⟨j,k,a,f,rfl⟩⟩
theorem Stp.new{B:Bs}{N:NM}{S:XS}{w w':World}{c a:Nat}{o:HO}{h':Tr HO}(n:HSim B N S w)(p:∀j,h'.get j=if j=S.nl then some o else S.h.get j)(f:S.nl<=a)(g:HSim B (N.add S.nl w.heap.size c) ⟨h',a⟩ w')(i:Below B.B w w')(q:∀b,b<w.heap.size->w'.heap[b]?=w.heap[b]?):Stp B N S w (N.add S.nl w.heap.size c) ⟨h',a⟩ w':=
 ⟨N.ext_add _ _ _,f,g,i,λb k _=>q b k,λj l d m=>by
  replace d:h'.get j=some l:=d;rw[p]at d;split at d
  .rename_i e;subst e;exact .inl (by rw[NM.add_bl];exact zV7 _)
  .exact .inr ⟨j,l,d,m,((N.ext_add S.nl w.heap.size c).bl j (n.lt j l d)).symm⟩⟩
theorem Stp.trans{B:Bs}{N j k:NM}{S m n:XS}{w w1 p:World}(h:Stp B N S w j m w1)(h':Stp B j m w1 k n p):Stp B N S w k n p:=
 ⟨h.ext.trans h'.ext h.nl,zWv h.nl h'.nl,h'.sim,h.bel.trans h'.bel,λb r s=>(h'.frm b (zWN r h.bel.size) λl o c d e=>by
  rcases h.prov l o c d with q|⟨f,o',g,i,a⟩
  .omega
  .exact s f o' g i (a.trans e)).trans (h.frm b r s),λl o c d=>by
  rcases h'.prov l o c d with q|⟨f,o',g,i,a⟩
  .exact .inl (zWv h.bel.size q)
  .rcases h.prov f o' g i with q|⟨t,u,v,x,y⟩
   .exact .inl (by rw[<-a];exact q)
   .exact .inr ⟨t,u,v,x,y.trans a⟩⟩
end
section
open Go.RowKit
def fN(n:Nat)(κ:Nat->Bool):Bool:=
 match n with
 |0=>κ 0
 |m+1=>κ (Nat.succ m)
theorem zy(n:Nat)(κ:Nat->Bool):fN n κ=κ n:=by cases n<;>rfl
def fI(n:Int)(κ:Int->Bool):Bool:=
 match n with
 |.ofNat m=>fN m λm=>κ (.ofNat m)
 |.negSucc m=>fN m λm=>κ (.negSucc m)
theorem zK0(n:Int)(κ:Int->Bool):fI n κ=κ n:=by cases n<;>simp only[fI,zy]
def fB(b:Bool)(κ:Bool->Bool):Bool:=
 match b with
 |true=>κ true
 |false=>κ false
theorem zBU(b:Bool)(κ:Bool->Bool):fB b κ=κ b:=by cases b<;>rfl
section
variable{α:Type}
noncomputable def fL(l:List α):(List α->Bool)->Bool:=
 List.rec (motive:=λ_=>(List α->Bool)->Bool) (λκ=>κ []) (λx _ a κ=>a λys=>κ (x::ys)) l
theorem fL_eq:∀(l:List α)(κ:List α->Bool),fL l κ=κ l
 |[],_=>rfl
 |x::xs,κ=>(fL_eq xs λys=>κ (x::ys))
noncomputable def drpL(n:Nat):List α->List α:=
 Nat.rec (motive:=λ_=>List α->List α) (λl=>l) (λ_ a l=>List.casesOn (motive:=λ_=>List α) l [] (λ_ t=>a t)) n
theorem jp:∀(n:Nat)(l:List α),drpL n l=l.drop n
 |0,l=>rfl
 |n+1,[]=>rfl
 |n+1,_::t=>jp n t
noncomputable def zBI(n:Nat):List α->(List α->Bool)->Bool:=
 Nat.rec (motive:=λ_=>List α->(List α->Bool)->Bool) (λ_ κ=>κ []) (λ_ a l κ=>List.casesOn (motive:=λ_=>Bool) l false (λx t=>a t λr=>κ (x::r))) n
theorem jC:∀(n:Nat)(l:List α)(κ:List α->Bool),zBI n l κ=true->n<=l.length/\κ (l.take n)=true
 |0,l,κ,h=>⟨zWd _,by simp only[zWo];exact h⟩
 |n+1,[],κ,h=>by cases h
 |n+1,x::t,κ,h=>by
  obtain⟨b,a⟩:=jC n t (λr=>κ (x::r)) h;exact⟨by simp;omega,by simpa using a⟩
noncomputable def appK(a b:List α):(List α->Bool)->Bool:=
 List.rec (motive:=λ_=>(List α->Bool)->Bool) (λκ=>κ b) (λx _ c κ=>c λys=>κ (x::ys)) a
theorem qh:∀(a b:List α)(κ:List α->Bool),appK a b κ=κ (a++b)
 |[],_,_=>rfl
 |x::a,b,κ=>qh a b λys=>κ (x::ys)
noncomputable def putK(x:List α):List α->(List α->Bool)->Bool:=
 List.rec (motive:=λ_=>List α->(List α->Bool)->Bool) (λc κ=>κ c) (λy _ a c κ=>List.casesOn (motive:=λ_=>Bool) c false (λ_ t=>a t λr=>κ (y::r))) x
theorem zG1:∀(x c:List α)(κ:List α->Bool),putK x c κ=true->x.length<=c.length/\κ (x++c.drop x.length)=true
 |[],c,κ,h=>⟨zWd _,by simp only[zWI,zWg,zWR];exact h⟩
 |y::x,[],κ,h=>by cases h
 |y::x,_::t,κ,h=>by
  obtain⟨b,a⟩:=zG1 x t (λr=>κ (y::r)) h;exact⟨by simp;omega,by simpa using a⟩
noncomputable def splK(x:List α)(o:Nat):List α->(List α->Bool)->Bool:=
 Nat.rec (motive:=λ_=>List α->(List α->Bool)->Bool) (λc κ=>putK x c κ) (λ_ a c κ=>List.casesOn (motive:=λ_=>Bool) c false (λy t=>a t λr=>κ (y::r))) o
theorem zAv(x:List α):∀(o:Nat)(c:List α)(κ:List α->Bool),splK x o c κ=true->o+x.length<=c.length/\κ (c.take o++x++c.drop (o+x.length))=true
 |0,c,κ,h=>by
  obtain⟨b,a⟩:=zG1 x c κ h;exact⟨by omega,by simpa using a⟩
 |o+1,[],κ,h=>by cases h
 |o+1,y::t,κ,h=>by
  obtain⟨b,a⟩:=zAv x o t (λr=>κ (y::r)) h;refine⟨by simp;omega,?_⟩;have e:o+1+x.length=(o+x.length)+1:=by omega
  simpa [e]using a
noncomputable def nthK(n:Nat)(l:List α)(κ:α->Bool):Bool:=List.casesOn (motive:=λ_=>Bool) (drpL n l) false (λx _=>κ x)
theorem zBw{n:Nat}{l:List α}{κ:α->Bool}(h:nthK n l κ=true):∃x,l[n]?=some x/\κ x=true:=by
 unfold nthK at h;rw[jp]at h;cases a:l.drop n with
 |nil=>rw[a]at h;cases h
 |cons x t=>
  rw[a]at h;have:l[n]?=some x:=by
   have:=zWp (λl=>l[0]?) a;simpa using this
  exact⟨x,this,h⟩
end
noncomputable def strK(l:List UInt8):(List Nat->Bool)->Bool:=
 List.rec (motive:=λ_=>(List Nat->Bool)->Bool) (λκ=>κ []) (λb _ a κ=>fN b.toNat λn=>a λr=>κ (n::r)) l
theorem zOt:∀(l:List UInt8)(κ:List Nat->Bool),strK l κ=κ (l.map UInt8.toNat)
 |[],_=>rfl
 |b::r,κ=>by
  show(fN b.toNat λn=>strK r λq=>κ (n::q))=_;rw[zy,zOt r];rfl
theorem zRc(l:List UInt8):bts (l.map UInt8.toNat)=⟨l.toArray⟩:=by
 unfold bts;rw[zXD];have:(UInt8.ofNat∘UInt8.toNat)=id:=by funext b;simp
 rw[this,List.map_id]
noncomputable def cv1(v:Value)(κ:T->Bool):Bool:=
 match v with
 |.int k n=>fI n λn=>κ (.int k n)
 |.bool b=>fB b λb=>κ (.bool b)
 |.string s=>match s with|⟨⟨l⟩⟩=>strK l λl=>κ (.str l)
 |.agg _=>false
 |.tuple _=>false
 |v=>κ (.atm v)
theorem zRH{v:Value}{κ:T->Bool}(h:cv1 v κ=true):∃x,κ x=true/\(∀N,tr N x=v)/\bd 0 x/\T.one x=true:=by
 cases v with
 |int k n=>simp only[cv1,zK0]at h;exact⟨_,h,λ_=>rfl,trivial,rfl⟩
 |bool b=>simp only[cv1,zBU]at h;exact⟨_,h,λ_=>rfl,trivial,rfl⟩
 |string s=>
  obtain⟨⟨l⟩⟩:=s;simp only[cv1,zOt]at h;exact⟨_,h,λN=>by simp only[tr,zRc],trivial,rfl⟩
 |agg _=>simp[cv1]at h
 |tuple _=>simp[cv1]at h
 |_=>exact⟨_,h,λ_=>rfl,rfl,rfl⟩
noncomputable def cvL(l:List Value):(List T->Bool)->Bool:=
 List.rec (motive:=λ_=>(List T->Bool)->Bool) (λκ=>κ []) (λv _ a κ=>cv1 v λx=>a λr=>κ (x::r)) l
theorem zFs:∀{l:List Value}{κ:List T->Bool},cvL l κ=true->∃xs,κ xs=true/\(∀N,xs.map (tr N)=l)/\bds 0 xs/\ones xs
 |[],κ,h=>⟨[],h,λ_=>rfl,trivial,rfl⟩
 |v::r,κ,h=>by
  obtain⟨x,a,b,c,d⟩:=zRH (κ:=λx=>cvL r λq=>κ (x::q)) h;obtain⟨xs,e,f,g,i⟩:=zFs a;exact⟨x::xs,e,λN=>by simp[b N,f N],⟨c,g⟩,by unfold ones at *;simp[d,i]⟩
noncomputable def cvK(v:Value)(κ:T->Bool):Bool:=
 match v with
 |.agg cs=>match cs with|⟨l⟩=>cvL l λl=>κ (.agg l)
 |.tuple vs=>match vs with|⟨[]⟩=>κ (.tup [])|_=>false
 |v=>cv1 v κ
theorem zQU{v:Value}{κ:T->Bool}(h:cvK v κ=true):∃x,κ x=true/\(∀N,tr N x=v)/\bd 0 x:=by
 cases v with
 |agg cs=>
  obtain⟨l⟩:=cs;obtain⟨xs,c,d,e,f⟩:=zFs (show cvL l _=true from h);exact⟨_,c,λN=>by simp[tr,yQ,d N],⟨e,f⟩⟩
 |tuple vs=>
  obtain⟨l⟩:=vs;cases l with
  |nil=>exact⟨_,h,λ_=>rfl,trivial⟩
  |cons a b=>simp[cvK]at h
 |_=>simp only[cvK]at h;obtain⟨x,c,d,e,_⟩:=zRH h;exact⟨x,c,d,e⟩
structure TD where
 i:TypeInfo
 u:TypeDesc
 sz:Nat
 bytes:Nat
 ag:Bool
 zs:Option (List T)
 fl:List (Nat×TypeId)
def agD:TypeDesc->Bool
 |.struct _=>true
 |.array _ _=>true
 |_=>false
structure TOk(P:Program)(t:TypeId)(d:TD):Prop where
 info:P.info? t=some d.i
 und:P.underlying t=some d.u
 sz:d.i.size=d.sz
 bytes:d.i.bytes=d.bytes
 ag:agD d.u=d.ag
 zs:∀zs,d.zs=some zs->∃z,d.i.zero=some z/\(∀N,zs.map (tr N)=z.cells.toList)/\bds 0 zs/\ones zs
 fl:∀fs,d.u=.struct fs->fs.toList.map (λf=>(f.offset,f.type))=d.fl
def fldK:List Field->(List (Nat×TypeId)->Bool)->Bool
 |[],κ=>κ []
 |f::r,κ=>fN f.offset λo=>fN f.type λt=>fldK r λq=>κ ((o,t)::q)
theorem zOV:∀(l:List Field)(κ:List (Nat×TypeId)->Bool),fldK l κ=κ (l.map λf=>(f.offset,f.type))
 |[],_=>rfl
 |f::r,κ=>by simp only[fldK,zy,zOV r];rfl
def flD:TypeDesc->List Field
 |.struct fs=>fs.toList
 |_=>[]
def okV:Value->Bool
 |.agg _=>false
 |.tuple _=>false
 |_=>true
noncomputable def zsK(z:Option Value)(κ:Option (List T)->Bool):Bool:=
 match z with
 |none=>κ none
 |some z=>bif z.cells.toList.all okV then cvL z.cells.toList λl=>κ (some l)else κ none
noncomputable def mkTD(P:Program)(t:TypeId)(κ:TD->Bool)(a:Bool):Bool:=
 match P.info? t with
 |none=>a
 |some i=>(match P.underlying t with
  |none=>a
  |some u=>fN i.size λsz=>fN i.bytes λby_=>fB (agD u) λb=>zsK i.zero λc=>fldK (flD u) λd=>κ ⟨i,u,sz,by_,b,c,d⟩)
theorem zVo{P:Program}{t:TypeId}{κ:TD->Bool}{f:Bool}(h:mkTD P t κ f=true):f=true\/∃d,κ d=true/\TOk P t d:=by
 unfold mkTD at h;split at h
 .exact .inl h
 .rename_i i hi;split at h
  .exact .inl h
  .rename_i u j;simp only[zy,zBU]at h;unfold zsK at h;have a:∀b,(∀l,b=some l->∃z,i.zero=some z/\(∀N,l.map (tr N)=z.cells.toList)/\bds 0 l/\ones l)->(fldK (flD u) λk=>κ ⟨i,u,i.size,i.bytes,agD u,b,k⟩)=true->∃d,κ d=true/\TOk P t d:=λb c h=>by
    rw[zOV]at h;exact⟨_,h,⟨hi,j,rfl,rfl,rfl,c,λfs e=>by replace e:u=.struct fs:=e;subst e;rfl⟩⟩
   split at h
   .exact .inr (a none (λl e=>by cases e) h)
   .rename_i z c;cases g:z.cells.toList.all okV with
    |true=>
     rw[g,zWQ]at h;obtain⟨xs,m,n,o,p⟩:=zFs h;exact .inr (a (some xs) (λl e=>by injection e with e;subst e;exact⟨z,c,n,o,p⟩) m)
    |false=>
     rw[g,zWH]at h;exact .inr (a none (λl e=>by cases e) h)
structure FD where
 body:Code
 nt:Nat
 rs:List ResultVar
structure FOk(P:Program)(f:FuncId)(d:FD):Prop where
 fn:∃fn,P.funcs[f]?=some fn/\fn.body=some d.body/\fn.ntmps=d.nt/\fn.results=d.rs.toArray/\fn.name ≠ "runtime.NumGoroutine"
inductive EK where
 |i
 |b
 |s
def EkOk(P:Program)(t:TypeId)(k:EK):Prop:=
 match k with
 |.i=>∃q,P.underlying t=some (.int q)
 |.b=>P.underlying t=some .bool
 |.s=>P.underlying t=some .string
def FsOk(P:Program):Nat->List Field->List EK->Prop
 |_,[],[]=>True
 |n,f::r,k::q=>(f.name ≠ "_")/\f.offset=n/\EkOk P f.type k/\FsOk P (n+1) r q
 |_,_,_=>False
structure EqT(P:Program)(t:TypeId)(fs:List EK):Prop where
 und:P.underlying t=some (.struct (P.fieldsOf t))
 held:P.stoodInHeld t=false
 grd:P.eqGuardType P.depth t=false
 fs:FsOk P 0 (P.fieldsOf t).toList fs
inductive EX where
 |eqt (fs:List EK)
 |idxB
 |same
 |cntB
 |mnz (t:TypeId)
def zGj:EX->Array Value->Sem Value
 |.eqt _=>λ_=>pure undef
 |.idxB=>Extern.BytealgIndexByte.indexByte
 |.same=>Extern.AbiNoEscape.same
 |.cntB=>Extern.BytealgCount.count
 |.mnz t=>Extern.BytealgMakeNoZero.makeNoZero #[] #[t]
def EOk(P:Program)(f:FuncId)(k:EX):Prop:=
 match k with
 |.eqt fs=>EqT P (f-1000000) fs
 |k=>∀args w,(callFunc f args).run P w=((do pure (Next.value (<-zGj k args))):Sem Next).run P w
def fen(a:Option Nat):Fence:={ fn:=λ_=>True,depth:=none,alive:=false,round:=a }
abbrev SumF:Type:=List T->XS->(T->XS->Bool)->Bool
def zGx(P:Program)(ng:Nat)(f:FuncId)(g:SumF):Prop:=∀(B:Bs)(N:NM)(S:XS)(w:World)(args:List T)(K:T->XS->Bool),B.ng=ng->HSim B N S w->bds S.nl args->g args S K=true ->
 CallsIn (fen none) 0 P f (args.map (tr N)).toArray w λb w'=>∃x N' a,K x a=true/\b=.returned (tr N' x)/\bd a.nl x/\Stp B N S w N' a w'
noncomputable def sum0(g:List T->XS->Option T):SumF:=λargs S K=>match g args S with
 |some r=>K r S
 |none=>false
theorem zT8{P:Program}{ng:Nat}{f:FuncId}{g:List T->XS->Option T}(h:∀(B:Bs)(N:NM)(S:XS)(w:World)(args:List T)(r:T),B.ng=ng->HSim B N S w->bds S.nl args->g args S=some r ->
 bd S.nl r/\CallsIn (fen none) 0 P f (args.map (tr N)).toArray w λb w'=>b=.returned (tr N r)/\Stp B N S w N S w'):zGx P ng f (sum0 g):=by
 intro B N S w args K c d e a;unfold sum0 at a;split at a
 .rename_i r i;obtain⟨j,k⟩:=h B N S w args r c d e i;refine CallsIn.mono k ?_;rintro b w' ⟨rfl,l⟩;exact⟨r,N,S,a,rfl,j,l⟩
 .cases a
structure Dat where
 tt:Tr TD
 ft:Tr FD
 ex:Tr EX
 sm:Tr SumF
 ng:Nat
structure DOk(P:Program)(D:Dat):Prop where
 tt:∀t d,D.tt.get t=some d->TOk P t d
 ft:∀f d,D.ft.get f=some d->FOk P f d
 ex:∀f k,D.ex.get f=some k->EOk P f k
 sm:∀f g,D.sm.get f=some g->zGx P D.ng f g
 mixed:P.follows .mixedOrders=true
noncomputable def ttK(P:Program)(n:Nat):Tr TD->(Tr TD->Bool)->Bool:=
 Nat.rec (motive:=λ_=>Tr TD->(Tr TD->Bool)->Bool) (λt κ=>κ t) (λm a t κ=>mkTD P m (λd=>Tr.setK d 40 t m λt=>a t κ) (a t κ)) n
theorem zLQ{P:Program}:∀(n:Nat)(t:Tr TD)(κ:Tr TD->Bool),(∀i d,t.get i=some d->TOk P i d)->ttK P n t κ=true->∃a,κ a=true/\∀i d,a.get i=some d->TOk P i d
 |0,t,κ,b,h=>⟨t,h,b⟩
 |n+1,t,κ,b,h=>by
  rcases zVo (show mkTD P n (λd=>Tr.setK d 40 t n λt=>ttK P n t κ) (ttK P n t κ)=true from h)with h|⟨d,h,c⟩
  .exact zLQ n t κ b h
  .obtain⟨a,f,g⟩:=Tr.setK_ok _ _ _ _ _ h;refine zLQ n a κ (λi j hi=>?_) f;rw[g]at hi;split at hi
   .rename_i e;subst e;injection hi with hi;subst hi;exact c
   .exact b i j hi
noncomputable def mkFD(P:Program)(f:FuncId)(κ:FD->Bool)(c:Bool):Bool:=
 match P.funcs[f]? with
 |none=>c
 |some a=>(match a.body with
  |none=>c
  |some b=>bif a.name== "runtime.NumGoroutine" then c else fN a.ntmps λn=>fL a.results.toList λrs=>κ ⟨b,n,rs⟩)
theorem zUF{P:Program}{f:FuncId}{κ:FD->Bool}{c:Bool}(h:mkFD P f κ c=true):c=true\/∃d,κ d=true/\FOk P f d:=by
 unfold mkFD at h;split at h
 .exact .inl h
 .rename_i e g;split at h
  .exact .inl h
  .rename_i b i;cases a:(e.name== "runtime.NumGoroutine")with
   |true=>rw[a,zWQ]at h;exact .inl h
   |false=>
    rw[a,zWH,zy,fL_eq]at h;exact .inr ⟨_,h,⟨e,g,i,rfl,by simp,by simpa using a⟩⟩
noncomputable def ftK(P:Program)(n:Nat):Tr FD->(Tr FD->Bool)->Bool:=
 Nat.rec (motive:=λ_=>Tr FD->(Tr FD->Bool)->Bool) (λt κ=>κ t) (λm a t κ=>mkFD P m (λd=>Tr.setK d 40 t m λt=>a t κ) (a t κ)) n
theorem zMk{P:Program}:∀(n:Nat)(t:Tr FD)(κ:Tr FD->Bool),(∀i d,t.get i=some d->FOk P i d)->ftK P n t κ=true->∃a,κ a=true/\∀i d,a.get i=some d->FOk P i d
 |0,t,κ,b,h=>⟨t,h,b⟩
 |n+1,t,κ,b,h=>by
  rcases zUF (show mkFD P n (λd=>Tr.setK d 40 t n λt=>ftK P n t κ) (ftK P n t κ)=true from h)with h|⟨d,h,c⟩
  .exact zMk n t κ b h
  .obtain⟨a,f,g⟩:=Tr.setK_ok _ _ _ _ _ h;refine zMk n a κ (λi j hi=>?_) f;rw[g]at hi;split at hi
   .rename_i e;subst e;injection hi with hi;subst hi;exact c
   .exact b i j hi
noncomputable def evK(ng:Nat)(e:Tr T)(x:Operand)(κ:T->Bool):Bool:=
 match x with
 |.tmp t=>(match e.get t with|none=>κ (.tup [])|some x=>κ x)
 |.const v=>cvK v κ
 |.global g=>bif Nat.blt g ng then fN g λg=>κ (.ptr g 0)else false
 |.func f=>κ (.fn (.func f) [] [])
theorem blt_iff{a b:Nat}:Nat.blt a b=true↔a<b:=by simp[zYH]
theorem zO{b c:Bool}(h:(bif b then c else false)=true):b=true/\c=true:=by cases b<;>simp_all
theorem zc{B:Bs}{N:NM}{S:XS}{w:World}{l:Nat}{e:Tr T}{a:Act}(j:HSim B N S w)(k:ESim N S.nl l e a.tmps){x:Operand}{κ:T->Bool}(h:evK B.ng e x κ=true):∃y,κ y=true/\a.eval x=tr N y/\bd S.nl y:=by
 cases x with
 |tmp t=>
  have c:=k.val t;have b:=k.bd t;unfold eget at c b;simp only[evK]at h;split at h
  .rename_i i;rw[i]at c b;exact⟨_,h,c,b⟩
  .rename_i y i;rw[i]at c b;exact⟨_,h,c,b⟩
 |const v=>
  obtain⟨y,c,b,d⟩:=zQU (show cvK v κ=true from h);exact⟨y,c,(b N).symm,qi (zWd _) _ d⟩
 |global g=>
  obtain⟨c,b⟩:=zO (show(bif Nat.blt g B.ng then fN g λg=>κ (.ptr g 0)else false)=true from h);rw[zy]at b;have d:=blt_iff.1 c;exact⟨_,b,by simp only[tr,j.glo g d];rfl,zWN d j.ng⟩
 |func f=>exact⟨_,h,rfl,⟨trivial,trivial⟩⟩
noncomputable def evsK(ng:Nat)(e:Tr T)(l:List Operand):(List T->Bool)->Bool:=
 List.rec (motive:=λ_=>(List T->Bool)->Bool) (λκ=>κ []) (λx _ a κ=>evK ng e x λy=>a λr=>κ (y::r)) l
theorem zBt{B:Bs}{N:NM}{S:XS}{w:World}{d:Nat}{e:Tr T}{a:Act}(b:HSim B N S w)(c:ESim N S.nl d e a.tmps):∀{l:List Operand}{κ:List T->Bool},evsK B.ng e l κ=true->∃ys,κ ys=true/\l.map a.eval=ys.map (tr N)/\bds S.nl ys
 |[],κ,h=>⟨[],h,rfl,trivial⟩
 |x::r,κ,h=>by
  obtain⟨y,f,g,i⟩:=zc b c (show evK B.ng e x (λy=>evsK B.ng e r λq=>κ (y::q))=true from h);obtain⟨ys,j,k,m⟩:=zBt b c f;exact⟨y::ys,j,by simp[g,k],⟨i,m⟩⟩
noncomputable def evpK(ng:Nat)(e:Tr T)(l:List (Nat×Operand)):(List (Nat×T)->Bool)->Bool:=
 List.rec (motive:=λ_=>(List (Nat×T)->Bool)->Bool) (λκ=>κ []) (λp _ a κ=>evK ng e p.2 λy=>a λr=>κ ((p.1,y)::r)) l
theorem zD8{B:Bs}{N:NM}{S:XS}{w:World}{f:Nat}{e:Tr T}{a:Act}(c:HSim B N S w)(d:ESim N S.nl f e a.tmps):∀{l:List (Nat×Operand)}{κ:List (Nat×T)->Bool},evpK B.ng e l κ=true ->
 ∃ys,κ ys=true/\l.map (λp=>(p.1,a.eval p.2))=ys.map (λp=>(p.1,tr N p.2))/\∀p∈ys,bd S.nl p.2
 |[],κ,h=>⟨[],h,rfl,λ_ b=>by cases b⟩
 |x::r,κ,h=>by
  obtain⟨y,g,i,j⟩:=zc c d (show evK B.ng e x.2 (λy=>evpK B.ng e r λq=>κ ((x.1,y)::q))=true from h);obtain⟨ys,k,m,n⟩:=zD8 c d g;refine⟨(x.1,y)::ys,k,by simp[i,m],λp b=>?_⟩;rcases zWB.1 b with rfl|b
  .exact j
  .exact n p b
noncomputable def evoK(ng:Nat)(e:Tr T)(x:Option Operand)(κ:Option T->Bool):Bool:=
 match x with
 |none=>κ none
 |some x=>evK ng e x λy=>κ (some y)
theorem zC5{B:Bs}{N:NM}{S:XS}{w:World}{b:Nat}{e:Tr T}{a:Act}(c:HSim B N S w)(d:ESim N S.nl b e a.tmps){x:Option Operand}{κ:Option T->Bool}(h:evoK B.ng e x κ=true) :
 ∃y,κ y=true/\x.map a.eval=y.map (tr N)/\∀z,y=some z->bd S.nl z:=by
 cases x with
 |none=>exact⟨none,h,rfl,λ_ e=>by cases e⟩
 |some x=>
  obtain⟨y,f,g,i⟩:=zc c d (show evK B.ng e x (λy=>κ (some y))=true from h);exact⟨some y,f,by simp[g],λz e=>by injection e with e;subst e;exact i⟩
end
section
open Go.RowKit
def Fin(P:Program)(B:Bs)(N:NM)(S:XS)(w:World)(K:T->XS->Bool)(s:Sem Value):Prop:=
 ∃x N' a w',K x a=true/\s.run P w=.ok (tr N' x) w'/\Stp B N S w N' a w'/\bd a.nl x
def Fin0(P:Program)(B:Bs)(N:NM)(S:XS)(w:World)(K:XS->Bool)(s:Sem Unit):Prop:=
 ∃N' a w',K a=true/\s.run P w=.ok () w'/\Stp B N S w N' a w'
section
variable{P:Program}{B:Bs}{N:NM}{S:XS}{w:World}{D:Dat}
theorem qb(a:HSim B N S w){K:T->XS->Bool}{x:T}{s:Sem Value}(b:K x S=true)(c:s.run P w=.ok (tr N x) w)(d:bd S.nl x):Fin P B N S w K s:=⟨x,N,S,w,b,c,.refl a,d⟩
def FinS(P:Program)(N:NM)(S:XS)(w:World)(K:T->Bool)(s:Sem Value):Prop:=∃x,K x=true/\s.run P w=.ok (tr N x) w/\bd S.nl x
theorem finS{K:T->Bool}{x:T}{s:Sem Value}(a:K x=true)(b:s.run P w=.ok (tr N x) w)(c:bd S.nl x):FinS P N S w K s:=⟨x,a,b,c⟩
theorem FinS.fin(a:HSim B N S w){K:T->XS->Bool}{s:Sem Value}(h:FinS P N S w (λx=>K x S) s):Fin P B N S w K s:=by
 obtain⟨x,b,c,d⟩:=h;exact qb a b c d
theorem TOk.run_und{t:TypeId}{d:TD}(h:TOk P t d)(w:World):(underlying t).run P w=.ok d.u w:=run_underlying h.und w
theorem TOk.run_sz{t:TypeId}{d:TD}(h:TOk P t d)(w:World):(sizeOf t).run P w=.ok d.sz w:=by simp[sizeOf,typeInfo,h.info,h.sz]
theorem TOk.run_ag{t:TypeId}{d:TD}(h:TOk P t d)(w:World):(isAgg t).run P w=.ok d.ag w:=by
 simp only[isAgg,Sem.run_bind,h.run_und,Result.andThen_ok];have:=h.ag;cases a:d.u<;>rw[a]at this<;>simp only[agD]at this<;>rw[<-this]<;>rfl
theorem TOk.run_zero{t:TypeId}{d:TD}(h:TOk P t d){a:List T}(c:d.zs=some a)(N:NM)(w:World):∃z,(zeroValue t).run P w=.ok z w/\d.i.zero=some z/\z.cells.toList=a.map (tr N)/\bds 0 a/\ones a:=by
 obtain⟨z,b,e,f,g⟩:=h.zs a c;exact⟨z,by simp[zeroValue,typeInfo,h.info,b],b,(e N).symm,f,g⟩
noncomputable def newK(S:XS)(o:HO)(K:Nat->XS->Bool):Bool:=fN S.nl λn=>Tr.setK o 40 S.h n λh=>fN (n+1) λm=>K n ⟨h,m⟩
theorem zGJ(d:HSim B N S w){o:HO}{K:Nat->XS->Bool}(h:newK S o K=true)(m:isRo o=false)(c:Nat){ob:Obj}(n:ObOk (N.add S.nl w.heap.size c) (S.nl+1) S.nl (some ob) o) :
 ∃f,K S.nl f=true/\Stp B N S w (N.add S.nl w.heap.size c) f (w.alloc ob)/\f.nl=S.nl+1:=by
 unfold newK at h;rw[zy]at h;obtain⟨h',i,j⟩:=Tr.setK_ok _ _ _ _ _ h;rw[zy]at i;have a:∀b,b<w.heap.size->(w.alloc ob).heap[b]?=w.heap[b]?:=λb p=>Below.heap_alloc w ob b p;have q:(w.alloc ob).heap.size=w.heap.size+1:=by show(w.heap.push ob).size=_;simp
 have g:=d.same a (by omega);have e:(w.alloc ob).heap[w.heap.size]?=some ob:=heap_alloc_new w ob;refine⟨_,i,.new d j (zWh _) (g.name d.base (by omega) m (λl o r s=>d.free l o r s) (by rw[e];exact n) j) ⟨rfl,rfl,rfl,by omega,λk t=>a k (zWN t d.base)⟩ a,rfl⟩
theorem zBp(i:HSim B N S w){g j:Nat}{cs:List T}{K:Nat->XS->Bool}{el:Nat}(h:newK S (.row g cs j el) K=true)(f:bds S.nl cs)(k:ones cs)(a:List Value)(c:Nat)
 (b:if g=0 then a=[]else cs.length+a.length=c*g) :
 ∃d,K S.nl d=true/\Stp B N S w (N.add S.nl w.heap.size c) d (w.alloc (.cells (cs.map (tr N)++a).toArray el))/\d.nl=S.nl+1:=by
 refine zGJ i h rfl c ⟨_,0,rfl,zWd _,by simp,?_,⟨yS (zWh _) _ f,k⟩,?_⟩
 .rw[zC7 (N.ext_add _ _ _) f];have e:cs.length=(cs.map (tr N)).length:=by simp
  rw[e];simp
 .split at b
  .rename_i e;subst b;rw[if_pos e];simp
  .rename_i e;rw[if_neg e,NM.add_cp,<-b];simp
noncomputable def rdK(S:XS)(l:Nat)(κ:List T->Bool):Bool:=
 match S.h.get l with
 |some o=>(match o with
  |.row _ cs _ _=>κ cs
  |.ro cs=>κ cs
  |_=>false)
 |none=>false
theorem zF5(f:HSim B N S w){l:Nat}{κ:List T->Bool}(h:rdK S l κ=true):∃cs arr el m,κ cs=true/\l<S.nl/\w.heap[N.bl l]?=some (.cells arr el m)/\cs.length<=arr.size/\arr.toList.take cs.length=cs.map (tr N)/\bds S.nl cs/\ones cs:=by
 unfold rdK at h;split at h
 .rename_i o i;have j:=f.ok l o i;have k:=f.lt l o i;split at h
  .rename_i g cs n el;obtain⟨arr,hi,a,_,b,c,⟨d,e⟩,_⟩:=j;exact⟨cs,arr,el,_,h,k,a,b,c,d,e⟩
  .rename_i cs;obtain⟨arr,el,m,a,b,c,⟨d,e⟩⟩:=j;exact⟨cs,arr,el,m,h,k,a,b,c,d,e⟩
  .cases h
 .cases h
theorem z7(b o n:Nat):(⟨b,o,none⟩:Addr).add n=⟨b,o+n,none⟩:=by unfold Addr.add;split<;>simp_all
theorem zAT{b:Nat}{arr:Array Value}{el:TypeId}{m:Nat×Nat}(h:w.heap[b]?=some (.cells arr el m)){cs:List Value}(c:arr.toList.take cs.length=cs)(j:Nat){u:Value}(a:cs[j]?=some u):w.cell? ⟨b,j,none⟩=some u:=by
 rw[cell_of_row w b j arr el m h];rw[<-c,zWb]at a;split at a
 .simpa using a
 .cases a
noncomputable def zGV(x:T)(κ:List T->Bool):Bool:=
 match x with
 |.agg fs=>κ fs
 |.tup _=>false
 |x=>κ [x]
theorem zEw{nl:Nat}{x:T}{κ:List T->Bool}(h:zGV x κ=true)(a:bd nl x)(N:NM):∃cs,κ cs=true/\(tr N x).cells=(cs.map (tr N)).toArray/\bds nl cs/\ones cs:=by
 cases x with
 |agg fs=>exact⟨fs,h,by simp[tr,yQ,Value.cells],a.1,a.2⟩
 |tup fs=>cases h
 |atm v=>
  refine⟨[.atm v],h,?_,⟨a,trivial⟩,rfl⟩;simp only[bd]at a;cases v<;>first|rfl|(simp[Al.one]at a)
 |_=>exact⟨_,h,rfl,⟨a,trivial⟩,rfl⟩
noncomputable def zIs(D:Dat)(S:XS)(t:TypeId)(K:T->XS->Bool):Bool:=
 match D.tt.get t with
 |some d=>(match d.zs with
  |some a=>newK S (.row 0 a 0 t) λl S=>K (.ptr l 0) S
  |none=>false)
 |none=>false
theorem zQL(a:DOk P D)(b:HSim B N S w){t:TypeId}{K:T->XS->Bool}(h:zIs D S t K=true)(old:Value):Fin P B N S w K (Instr.alloc t true old):=by
 unfold zIs at h;split at h
 .rename_i d c;have f:=a.tt _ _ c;split at h
  .rename_i g i;obtain⟨z,j,r,k,l,m⟩:=f.run_zero i N w;obtain⟨n,o,p,q⟩:=zBp b h (yS (zWd _) _ l) m [] 0 (by simp);refine⟨_,_,n,_,o,?_,p,by simp only[bd,q];omega⟩;have e:(g.map (tr N)++[]).toArray=z.cells:=by rw[zWc,<-k]
   rw[e];simp only[tr,NM.add_bl];cases old<;>simp[Instr.alloc,j,newVar,newRow]<;>rfl
  .cases h
 .cases h
noncomputable def xBox(S:XS)(t:TypeId)(x:T)(K:T->XS->Bool):Bool:=zGV x λcs=>newK S (.row 0 cs 0 t) λl S=>K (.ptr l 0) S
theorem zUf(a:HSim B N S w){t:TypeId}{x:T}{K:T->XS->Bool}(h:xBox S t x K=true)(b:bd S.nl x):Fin P B N S w K (Instr.box t (tr N x)):=by
 obtain⟨cs,c,d,e,f⟩:=zEw h b N;obtain⟨g,i,j,k⟩:=zBp a c e f [] 0 (by simp);refine⟨_,_,g,_,i,?_,j,by simp only[bd,k];omega⟩;simp only[tr,NM.add_bl,zWc];simp[Instr.box,newVar,newRow,d]
noncomputable def zHy(D:Dat)(t:TypeId)(cs:List T)(o:Nat)(K:T->Bool):Bool:=
 match D.tt.get t with
 |some d=>bif d.ag then zBI d.sz (drpL o cs) λl=>K (.agg l)else nthK o cs K
 |none=>false
theorem zHV(g:DOk P D){t:TypeId}{cs:List T}{o:Nat}{K:T->Bool}(h:zHy D t cs o K=true){nl:Nat}(e:bds nl cs)(i:ones cs)(N:NM) :
 ∃x d,K x=true/\bd nl x/\TOk P t d/\((d.ag=true/\o+d.sz<=cs.length+(if d.sz=0 then o else 0)/\tr N x=.agg (((cs.drop o).take d.sz).map (tr N)).toArray/\d.sz<=(cs.drop o).length)\/(d.ag=false/\cs[o]?=some x)):=by
 unfold zHy at h;split at h
 .rename_i d j;have f:=g.tt _ _ j;cases b:d.ag with
  |true=>
   rw[b,zWQ]at h;obtain⟨a,c⟩:=jC _ _ _ h;rw[jp]at a c;refine⟨_,d,c,⟨jz (zAD e o) _,jT (jr i o) _⟩,f,.inl ⟨b,?_,by simp[tr,yQ],a⟩⟩;rw[zXL]at a;split<;>omega
  |false=>
   rw[b,zWH]at h;obtain⟨x,a,c⟩:=zBw h;exact⟨x,d,c,zLo e a,f,.inr ⟨b,a⟩⟩
 .cases h
noncomputable def zCr(D:Dat)(S:XS)(t:TypeId)(a:T)(K:T->XS->Bool):Bool:=
 match a with
 |.ptr l o=>rdK S l λcs=>zHy D t cs o λx=>K x S
 |_=>false
theorem zDu(n:DOk P D)(p:HSim B N S w){t:TypeId}{a:T}{K:T->XS->Bool}(h:zCr D S t a K=true):∃y,K y S=true/\(Instr.loadAt t (tr N a)).run P w=.ok (tr N y) w/\bd S.nl y:=by
 unfold zCr at h;split at h
 .rename_i l o;obtain⟨cs,arr,el,m,q,_,i,H,e,r,s⟩:=zF5 p h;obtain⟨x,d,z,A,k,C⟩:=zHV n q r s N;refine⟨_,z,?_,A⟩;simp only[tr,Instr.loadAt,Instr.sureAddr,Sem.run_bind,Sem.run_pure,Result.andThen_ok,loadVar,k.run_ag];have f:(cs.map (tr N)).length=cs.length:=by simp
  rw[<-f]at e;rcases C with⟨g,_,E,I⟩|⟨g,F⟩
  .rw[g];simp only[zWE,Sem.run_bind,k.run_sz,Result.andThen_ok];have b:(((cs.drop o).take d.sz).map (tr N)).length=d.sz:=by rw[zWG,zWT];omega
   have:=run_loadCells_list (P:=P) w ⟨N.bl l,o,none⟩ (((cs.drop o).take d.sz).map (tr N)) (λj v c=>by
    rw[z7];refine zAT i e _ ?_;rw[zWM,zWb]at c;split at c
    .rw[zXG]at c;rw[zWM];exact c
    .cases c)
   rw[b]at this;rw[this,E];rfl
  .rw[g];simp only[zWO,zWA];have G:=zAT (w:=w) i e o (u:=tr N x) (by rw[zWM,F];rfl);simp[load,Sem.run,G]
 .cases h
theorem zTe(c:DOk P D)(b:HSim B N S w){t:TypeId}{a:T}{K:T->XS->Bool}(h:zCr D S t a K=true):Fin P B N S w K (Instr.loadAt t (tr N a)):=by
 obtain⟨y,d,e,f⟩:=zDu c b h;exact qb b d e f
theorem zC6(n:HSim B N S w){l:Nat}{g:Nat}{cs:List T}{p el:Nat}(m:S.h.get l=some (.row g cs p el)){xs:List T}{o:Nat}(c:bds S.nl xs)(r:ones xs)(E:p<=o)(F:o+xs.length<=cs.length){h':Tr HO}
 (s:∀j,h'.get j=if j=l then some (.row g (cs.take o++xs++cs.drop (o+xs.length)) p el)else S.h.get j) :
 ∃w',(storeCells ⟨N.bl l,o,none⟩ (xs.map (tr N))).run P w=.ok () w'/\Stp B N S w N ⟨h',S.nl⟩ w':=by
 obtain⟨arr,hi,t,z,G,u,⟨v,x⟩,q⟩:=n.ok l _ m;have d:=run_storeCells_atF P (N.bl l) o el (0,hi) (xs.map (tr N)) 0 arr w t (by simp;omega) (by simp;omega) (zGW c r);simp only[zW0]at d;refine⟨_,d,.set m rfl s ?_ ?_ (λb c=>setRow_other w _ b _ c)⟩
 .have a:=setRow_heap w (N.bl l) arr (arr.toList.take o++xs.map (tr N)++arr.toList.drop (o+(xs.map (tr N)).length)).toArray el (0,hi) t;have f:(arr.toList.take o++xs.map (tr N)++arr.toList.drop (o+(xs.map (tr N)).length)).toArray.size=arr.size:=by simp;omega
  refine n.upd m rfl rfl rfl (λb c=>setRow_other w _ b _ c) (by simp) ?_ s;rw[a];refine⟨_,hi,rfl,z,?_,?_,⟨xC (xC (jz v _) c) (zAD v _),jf (jf (jT x _) r) (jr x _)⟩,?_⟩
  .rw[f];simp;omega
  .have i:(cs.take o++xs++cs.drop (o+xs.length)).length=cs.length:=by simp;omega
   rw[i];have A:(cs.take o).map (tr N)=(arr.toList.take o):=by rw[zXr,<-u,zX0];congr 1;omega
   have C:(cs.drop (o+xs.length)).map (tr N)=(arr.toList.take cs.length).drop (o+xs.length):=by rw[zX6,<-u]
   simp only[zWy];rw[A,C];have y:(arr.toList.take o++xs.map (tr N)).length=o+xs.length:=by simp;omega
   show(arr.toList.take o++xs.map (tr N)++arr.toList.drop (o+(xs.map (tr N)).length)).take cs.length=_;rw[List.take_append,y,zXM (by rw[y];omega),zWG,List.drop_take]
  .rw[f];split at q
   .rename_i e;rw[if_pos e,q];simp;omega
   .rename_i e;rw[if_neg e];exact q
 .exact⟨rfl,rfl,rfl,by simp,λk H=>setRow_other w _ k _ (by
   have:=(n.low l _ m rfl).1;simp only[isRo,zWO,zWA]at this;omega)⟩
noncomputable def zIY(D:Dat)(S:XS)(t:TypeId)(a x:T)(K:XS->Bool):Bool:=
 match a with
 |.ptr l o=>(match S.h.get l with
  |some ob=>(match ob with
   |.row g cs b el=>(match D.tt.get t with
    |some d=>zGV x λxs=>bif Nat.beq xs.length d.sz&&Nat.ble b o then splK xs o cs λcs'=>Tr.setK (.row g cs' b el) 40 S.h l λh=>K ⟨h,S.nl⟩else false
    |none=>false)
   |_=>false)
  |none=>false)
 |_=>false
theorem zQj(i:DOk P D)(j:HSim B N S w){t:TypeId}{a x:T}{K:XS->Bool}(h:zIY D S t a x K=true)(k:bd S.nl x):Fin0 P B N S w K (Instr.storeAt t (tr N a) (tr N x)):=by
 unfold zIY at h;split at h
 .rename_i l o;split at h
  .rename_i ob m;split at h
   .rename_i g cs E el;split at h
    .rename_i d n;have p:=i.tt _ _ n;obtain⟨xs,q,f,r,s⟩:=zEw h k N;obtain⟨b,u⟩:=zO q;simp only[zV5]at b;obtain⟨v,y⟩:=zAv _ _ _ _ u;obtain⟨h',z,c⟩:=Tr.setK_ok _ _ _ _ _ y;obtain⟨w',A,C⟩:=zC6 (P:=P) j m r s (zWF b.2) v c;refine⟨N,_,w',z,?_,C⟩;have e:¬(tr N x).cells.size≠d.sz:=by rw[f];simp only[zXS,zWG,ne_eq,Decidable.not_not];exact beq_iff.1 b.1
     simp only[tr,Instr.storeAt,Instr.sureAddr,Sem.run_bind,Sem.run_pure,Result.andThen_ok,storeVar,p.run_sz,if_neg e];rw[f];simpa using A
    .cases h
   .cases h
  .cases h
 .cases h
noncomputable def zBX(D:Dat)(t:TypeId)(x:T)(f:Nat)(K:T->Bool):Bool:=
 match x with
 |.ptr l o=>(match D.tt.get t with
  |some d=>(match d.u with
   |.struct _=>nthK f d.fl λp=>(match D.tt.get p.2 with
    |some e=>bif Nat.blt 0 e.sz then fN (o+p.1) λq=>K (.ptr l q)else false
    |none=>false)
   |_=>false)
  |none=>false)
 |_=>false
theorem zM0{t:TypeId}{d:TD}(e:TOk P t d){fs:Array Field}(g:d.u=.struct fs){f:Nat}{p:Nat×TypeId}(a:d.fl[f]?=some p):∃b,fs[f]?=some b/\b.offset=p.1/\b.type=p.2:=by
 rw[<-e.fl fs g,zWM]at a;cases c:fs.toList[f]? with
 |none=>rw[c]at a;cases a
 |some b=>
  rw[c]at a;injection a with a
  subst a;exact⟨b,by simpa using c,rfl,rfl⟩
theorem zFS(c:DOk P D)(z:HSim B N S w){t:TypeId}{x:T}{f:Nat}{K:T->Bool}(h:zBX D t x f K=true)(k:bd S.nl x):FinS P N S w K (Instr.fieldAt t (tr N x) f):=by
 unfold zBX at h;split at h
 .rename_i l o;split at h
  .rename_i d m;have g:=c.tt _ _ m;split at h
   .rename_i fs i;obtain⟨p,n,b⟩:=zBw h;obtain⟨A,q,r,s⟩:=zM0 g i n;split at b
    .rename_i e u;have a:=c.tt _ _ u;obtain⟨v,j⟩:=zO b;rw[zy]at j;refine finS  j ?_ k;have y:¬e.sz=0:=by have:=blt_iff.1 v;omega
     rw[<-s]at a;simp[tr,Instr.fieldAt,g.run_und,i,q,Instr.sureAddr,fieldPlace,a.run_sz,y,z7,r]
    .cases b
   .cases h
  .cases h
 .cases h
noncomputable def zGN(D:Dat)(t:TypeId)(x:T)(f:Nat)(K:T->Bool):Bool:=
 match x with
 |.agg cs=>(match D.tt.get t with
  |some d=>(match d.u with
   |.struct _=>nthK f d.fl λp=>zHy D p.2 cs p.1 K
   |_=>false)
  |none=>false)
 |_=>false
theorem zKA{t:TypeId}{d:TD}(b:TOk P t d){cs:List T}{o:Nat}{x:T}(q:(d.ag=true/\o+d.sz<=cs.length+(if d.sz=0 then o else 0)/\tr N x=.agg (((cs.drop o).take d.sz).map (tr N)).toArray/\d.sz<=(cs.drop o).length)\/(d.ag=false/\cs[o]?=some x)) :
 (part t (cs.map (tr N)).toArray o).run P w=.ok (tr N x) w:=by
 unfold part;simp only[Sem.run_bind,b.run_ag,Result.andThen_ok];rcases q with⟨a,_,c,f⟩|⟨a,e⟩
 .rw[a,c];simp only[zWE,Sem.run_bind,b.run_sz,Result.andThen_ok,zYl,zX9];simp[zX6,zXr]
 .rw[a];simp[e]
theorem zKK(a:DOk P D)(u:HSim B N S w){t:TypeId}{x:T}{f:Nat}{K:T->Bool}(h:zGN D t x f K=true)(b:bd S.nl x):FinS P N S w K (Instr.field t (tr N x) f):=by
 unfold zGN at h;split at h
 .rename_i cs;split at h
  .rename_i d i;have c:=a.tt _ _ i;split at h
   .rename_i fs g;obtain⟨p,j,k⟩:=zBw h;obtain⟨v,l,m,n⟩:=zM0 c g j;obtain⟨y,e,o,q,r,s⟩:=zHV a k b.1 b.2 N;refine finS  o ?_ q;have:=zKA (P:=P) (w:=w) r s;simp only[tr,yQ,Instr.field,Sem.run_bind,c.run_und,Result.andThen_ok,g,l,asAgg,Sem.run_pure,m,n];exact this
   .cases h
  .cases h
 .cases h
noncomputable def ixK(i:T)(n:Nat)(κ:Nat->Bool):Bool:=
 match i with
 |.int _ m=>(match m with
  |.ofNat j=>bif Nat.blt j n then κ j else false
  |.negSucc _=>false)
 |_=>false
theorem zDU{i:T}{n:Nat}{κ:Nat->Bool}(h:ixK i n κ=true):∃k j,i=.int k (Int.ofNat j)/\j<n/\κ j=true:=by
 unfold ixK at h;split at h
 .split at h
  .obtain⟨a,b⟩:=zO h;exact⟨_,_,rfl,blt_iff.1 a,b⟩
  .cases h
 .cases h
noncomputable def zBH(D:Dat)(S:XS)(t:TypeId)(x i:T)(K:T->Bool):Bool:=
 match D.tt.get t with
 |some d=>(match d.u with
  |.slice el=>(match D.tt.get el with
   |some e=>(match x with
    |.slc l o n _=>ixK i n λj=>fN (o+j*e.sz) λq=>K (.ptr l q)
    |.sl l z a _ n=>ixK i n λj=>(match S.h.get l with
     |some ob=>(match ob with
      |.row g cs _ _=>bif Nat.blt 0 g&&Nat.beq g z&&Nat.beq z e.sz&&Nat.blt ((a+j)*z) cs.length then fN ((a+j)*z) λq=>K (.ptr l q)else false
      |_=>false)
     |none=>false)
    |_=>false)
   |none=>false)
  |.array n el=>(match D.tt.get el with
   |some e=>(match x with
    |.ptr l o=>ixK i n λj=>fN (o+j*e.sz) λq=>K (.ptr l q)
    |_=>false)
   |none=>false)
  |_=>false)
 |none=>false
theorem zFX(r:DOk P D)(J:HSim B N S w){t:TypeId}{x i:T}{K:T->Bool}(h:zBH D S t x i K=true)(s:bd S.nl x):FinS P N S w K (Instr.indexAt t (tr N x) (tr N i)):=by
 unfold zBH at h;split at h
 .rename_i d L;have u:=r.tt _ _ L;split at h
  .rename_i el q;split at h
   .rename_i e v;have f:=r.tt _ _ v;split at h
    .rename_i l o n c;obtain⟨k,j,rfl,m,b⟩:=zDU h;rw[zy]at b;refine finS  b ?_ s;have:(0:Int)<=Int.ofNat j/\Int.ofNat j<(n:Int):=⟨by simp,by simpa using m⟩;simp[tr,Instr.indexAt,asIntOf,u.run_und,q,m,f.run_sz,z7]
    .rename_i l z a p n;obtain⟨k,j,rfl,m,b⟩:=zDU h;split at b
     .rename_i ob M;split at b
      .rename_i g cs U O;obtain⟨F,G⟩:=zO b;rw[zy]at G;simp only[zV5]at F;obtain⟨⟨⟨H,y⟩,A⟩,I⟩:=F;replace H:=blt_iff.1 H;replace y:=beq_iff.1 y;replace A:=beq_iff.1 A;replace I:=blt_iff.1 I;subst y;obtain⟨arr,hi,V,W,X,Y,Z,Q⟩:=J.ok l _ M;rw[if_neg (by omega)]at Q;have C:(a+j)*g<N.cp l*g:=by omega
       have R:a+j<N.cp l:=zXs C;refine finS  G ?_ s;have E:¬N.cp l=a:=by omega
       simp[tr,Instr.indexAt,asIntOf,u.run_und,q,m,f.run_sz,z7,E,<-A,zWs]
      .cases b
     .cases b
    .cases h
   .cases h
  .rename_i n el q;split at h
   .rename_i e v;have f:=r.tt _ _ v;split at h
    .rename_i l o;obtain⟨k,j,rfl,m,b⟩:=zDU h;rw[zy]at b;refine finS  b ?_ s;simp[tr,Instr.indexAt,asIntOf,u.run_und,q,m,f.run_sz,z7,Instr.sureAddr]
    .cases h
   .cases h
  .cases h
 .cases h
end
end
end Go.Cx
