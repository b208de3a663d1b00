/- Part 4 of what the last text needs. No condition. -/
import Derived.Test.YtnamdpbcpnnhaaaGreatDoorZJ3
import Derived.Test.YtnamdpbcpnnhaaaGreatDoorTie
import Derived.LaidLaws
import Derived.LaidMore
import Derived.LaidHandle
import Derived.MakeChecks
import Derived.Shelf.Vars
import Derived.Handed
import Derived.SevenTiedAt
import Derived.Deep.DeepHandedRow
import Derived.Test.YtnamdpbcpnnhaaaGreatDoorRows
import Derived.RangeFuncNested
import Derived.RangeFuncBound
import Derived.RangeFuncLeaves
import Derived.RangeFuncWrites
import Derived.Shelf.Abstract
import Derived.OwnWalkIn
import Derived.TacticsInMore
import Derived.LoopNIn
import Derived.LoopIn
set_option linter.unusedVariables false
set_option linter.unusedSimpArgs false
set_option linter.unusedSectionVars false
set_option linter.defProp false
set_option maxHeartbeats 4000000
theorem dO{P:Prop}(h:P:=by kernel_rfl):P:=h
theorem e8{P:Prop}(h:P:=by rw[e]):P:=h
theorem dR{P:Prop}(h:P:=by first|(injection h with h;subst h;exact⟨rfl,rfl⟩)|cases h):P:=h
theorem eh{P:Prop}(h:P:=by injection h with h;injection h with h _;subst h;kernel_rfl):P:=h
theorem eX{P:Prop}(h:P:=by simpa using h):P:=h
theorem d5{P:Prop}(h:P:=by simp[e]):P:=h
theorem fg{P:Prop}(h:P:=by rw[zWQ];exact a):P:=h
theorem eY{P:Prop}(h:P:=by simp[L]):P:=h
theorem fh{P:Prop}(h:P:=by simp[h]):P:=h
theorem fl{P:Prop}(h:P:=by simp[Act.eval]):P:=h
theorem fa{P:Prop}(h:P:=by cases ht):P:=h
theorem e9{P:Prop}(h:P:=by simpa using zV0 t6):P:=h
theorem d7{P:Prop}(h:P:=by simp only[zUC,zUL,zUd,zUs,cQ,zUM,zUK,Nat.reduceEqDiff,reduceCtorEq,zUP]):P:=h
theorem d6{P:Prop}(h:P:=by simp only[zUC,zUL,zUd,zUs,cQ,cF,zUM,zUK,Nat.reduceEqDiff,reduceCtorEq,zUP]):P:=h
theorem dW{P:Prop}(h:P:=by simp only[zUC,zUL,ct,cF,zUM,zUK,Nat.reduceEqDiff,reduceCtorEq];exact .keep (.keep (.keep (.keep .nil)))):P:=h
theorem dZ{P:Prop}(h:P:=by simp only[zUC,zUL,ct,zUM,zUK,Nat.reduceEqDiff,reduceCtorEq];exact .keep (.keep .nil)):P:=h
theorem fo{P:Prop}(h:P:=by cases a.1):P:=h
theorem eJ{P:Prop}(h:P:=by simp[Env.get]):P:=h
namespace Go.Proofs.YtnamdpbcpnnhaaaGreatDoor
section
open Go.Al Go.Den Go.ChangeShapes Go.WideShapes Go.ChangeAt Go.RowKit
def zFG{P:di}{W:de}{n:String}{g:Nat}{cs:dv dh}(a:P.globalNamed n=some g)(h:W.var? P n=some cs):∃el m,W.heap[g]?=some (.cells cs el m):=by
 unfold World.var? at h;rw[a]at h;simp only[zVY]at h;split at h
 .rename_i c el m b;injection h with h
  subst h;exact⟨el,m,b⟩
 .cases h
def zB4{H:Type}{enc:dg×dh->H}{P:di}{w:de}{base:Nat}{r:Nat->dd}{d:dd}{fuel n:Nat}{t e:dg}{cs:db dh}{l:db (db UInt8)}{p:db MemPlace}
 (s:P.underlying t=some (.array n e)) (u:P.underlying e=some .string) (v:P.cellsOf e=1) (f:P.cellsOf t=n) (h:DataW.trod enc P w base r d fuel t cs=some (.agg (l.map λz=>.lit (.string z)),p)):cs=l.map λz=>strV z:=by
 obtain⟨xs,m,rfl,c,a,y,g⟩:=DataW.trod_array s h;injection c with c _
 injection c with c
 have j:l.length=n:=by
  have:=zU1 List.length c;simp only[zUZ]at this;omega
 refine List.ext_getElem (by rw[a,f,zUZ,j]) λi k A=>?_;rw[zWj];have hi:i<n:=by rw[a,f]at k;exact k
 have q:=g i hi;rw[v,Nat.mul_one,zVF k,zUS,zUl,zUj dM]at q;obtain⟨z,o,x,_⟩:=DataW.trod_string u q;injection o with o _
 have b:(xs.map (·.1))[i]'(by rw[zUZ];omega)=(l.map λz=>DataW.lit (.string z))[i]'(by rw[zUZ];omega):=by
  simp only[c]
 rw[zWj,zWj]at b;rw[x]at b;injection b with b
 injection b with b
 rw[o,<-b];unfold strV;cases z;simp
def zFX{W:de}{g:Nat}{cs:dv dh}{el:dg}{m:Nat×Nat}(h:W.heap[g]?=some (.cells cs el m)):cs.toList.length<=wmOf W g:=by
 unfold wmOf;rw[h];simp
def zTp{g:Gh}{w:de}(s:dk):RV1 g w (.at (.string ⟨s.data.toList.toArray⟩)) (.string s):=by
 have e:(⟨s.data.toList.toArray⟩:dk)=s:=by cases s;simp
 rw[e];exact⟨[.string s],by simp[RC,one],rfl⟩
def zSj{g:Gh}{w:de}(k:dm)(n:Int):RV1 g w (.at (.int k n)) (.int k n):=⟨[.int k n],by simp[RC,one],rfl⟩
def zIn{H:Type}{enc:dg×dh->H}{C:Checked}{k:Os}{f:dt}{l:Func}{s:OpenSpec}{b:db PathCond}{c:dd}{d:db (String×DataW dc)}(modest:dd)(w0:de)(args:dv dh)(h:w0.os=k)
 (j:(w0.forCall (λ_ _=>0) ⟨#[],args,[]⟩).Shaped C.prog)
 (e:Input.okWideB C.prog (w0.forCall (λ_ _=>0) ⟨#[],args,[]⟩) f ⟨#[],args,[]⟩=true)
 (g:s.preRow enc C.prog l b c d (w0.forCall (λ_ _=>0) ⟨#[],args,[]⟩).memory args) :
 ∃(w:de)(a:Tape)(i:Input),w.os=k/\(w.forCall a i).Shaped C.prog/\i.vars=[]/\Input.okWide C.prog (w.forCall a i) .any w.heap.size f i /\
  s.preRow enc C.prog l b c d (w.forCall a i).memory i.args/\({ modest:=modest }:Assume).holds C.prog (lone (Frame.enter C.prog f i.args .normal) [] (w.forCall a i)):=
 ⟨w0,λ_ _=>0,⟨#[],args,[]⟩,h,j,(Input.okWide_of_okWideB (base:=0) e).1,(Input.okWide_of_okWideB e).2,g,by
  simp only[Assume.holds];exact⟨dQ,dQ,λ_=>Modest.zero,dQ,dQ⟩⟩
def laid4:db (String×DataW dc):=[("emend/pptok.signs",Rows.laid_emend_pptok_signs),("emend/parse.keywords",Rows.laid_emend_parse_keywords),("emend/parse.marks",Rows.laid_emend_parse_marks),("emend/parse.words",Rows.laid_emend_parse_words)]
def glob4{W:de}(c:W.ShapedOpen Tryz.prog)(h:laidMetH Tryz.prog laid4 W):GlobOk W.heap.size (wmOf W) W:=by
 rw[MakeChecks.laidMetH_plain _ _ _ dO]at h;obtain⟨ps,a,_⟩:=h;obtain⟨g3,t3,d,f3,p3,q3,e,A,B,hd3,a,_⟩:=a;obtain⟨g4,t4,f,f4,p4,q4,i,C,D,hd4,a,_⟩:=a;obtain⟨g5,t5,j,f5,p5,q5,n,E,F,hd5,a,_⟩:=a;obtain⟨g6,t6,q,f6,p6,q6,r,G,H,hd6,a,_⟩:=a;obtain rfl:=zVi ((show Tryz.prog.globalNamed "emend/pptok.signs"=some 3 by kernel_rfl).symm.trans e);obtain rfl:=zVi ((show Tryz.prog.globalNamed "emend/parse.keywords"=some 0 by kernel_rfl).symm.trans i);obtain rfl:=zVi ((show Tryz.prog.globalNamed "emend/parse.marks"=some 1 by kernel_rfl).symm.trans n);obtain rfl:=zVi ((show Tryz.prog.globalNamed "emend/parse.words"=some 2 by kernel_rfl).symm.trans r);obtain rfl:=zVi ((show(Tryz.prog.globals[3]?).map (·.type)=some 146 by kernel_rfl).symm.trans A);obtain rfl:=zVi ((show(Tryz.prog.globals[0]?).map (·.type)=some 58 by kernel_rfl).symm.trans C);obtain rfl:=zVi ((show(Tryz.prog.globals[1]?).map (·.type)=some 118 by kernel_rfl).symm.trans E);obtain rfl:=zVi ((show(Tryz.prog.globals[2]?).map (·.type)=some 119 by kernel_rfl).symm.trans G);obtain⟨I,Y,J⟩:=zFG e B;obtain⟨K,Z,L⟩:=zFG i D;obtain⟨M,m5,N⟩:=zFG n F;obtain⟨O,m6,Q⟩:=zFG r H;have S:d.toList=signsL.map strV:=zB4 (l:=signsL) Tryz.underlying146 Tryz.underlying9 dO dO hd3;have T:f.toList=kwL.map strV:=zB4 (l:=kwL) Tryz.underlying58 Tryz.underlying9 dO dO hd4;have U:j.toList=marksL.map strV:=zB4 (l:=marksL) Tryz.underlying118 Tryz.underlying9 dO dO hd5;have V:q.toList=wordsL.map strV:=zB4 (l:=wordsL) Tryz.underlying119 Tryz.underlying9 dO dO hd6;have s:∀{b:Nat}{o:Obj},W.heap[b]?=some o->b<W.heap.size:=λh=>(zUH.1 h).1;have R:∃arr el m,W.heap[4]?=some (.cells arr el m)/\∃z,arr.toList=[Value.int .i64 z]:=by
  obtain⟨cs,X,hs,hr⟩:=c.1 4 #[.int .i64 0] 3 (zUw dO) dO;refine⟨cs,_,_,X,?_⟩;obtain⟨z,x⟩:=cell_of_shapedOpen_int (P:=Tryz.prog) (w:=W) (g:=4) (t:=3) (zero:=#[.int .i64 0]) (k:=.i64) c (zUw dO) dO rfl dO dO Tryz.underlying3;refine⟨z,?_⟩;unfold World.cell? at x;simp only[X]at x;have y:cs.size=1:=hs;obtain⟨l⟩:=cs
  match l,y with
  |[v],_=>
   simp at x;rw[x]
 refine⟨λp u=>?_,λp u=>?_⟩
 .simp only[zN4,zUG,zU4,zVL]at u;subst u;obtain⟨arr,el,m,y,h2⟩:=R;exact⟨s y,arr,el,m,y,h2⟩
 .simp only[zGr,zUG,zU4,zVL]at u;rcases u with rfl|rfl|rfl|rfl
  .exact⟨s L,⟨f,K,Z,L,T⟩,by rw[<-T];exact zFX L⟩
  .exact⟨s N,⟨j,M,m5,N,U⟩,by rw[<-U];exact zFX N⟩
  .exact⟨s Q,⟨q,O,m6,Q,V⟩,by rw[<-V];exact zFX Q⟩
  .exact⟨s J,⟨d,I,Y,J,S⟩,by rw[<-S];exact zFX J⟩
def door4(a:Os)(args:dv dh):laidMetH Tryz.prog laid4 ((World.doorLaid Tryz.prog 400 a).forCall (λ_ _=>0) ⟨#[],args,[]⟩).memory:=
 laidMetH_of_parts3 (fuel:=8) (laidMet_of_run' 8 dO dO) dO dO
end
end Go.Proofs.YtnamdpbcpnnhaaaGreatDoor
namespace Go.Den
section
open Go.Al
def zQ3{P:di}{X:Cx}{Q j:dA->Env->S->Prop}{c:dE}{E:Env}{s:S}(h:awp P X c Q E s)(l:∀b k s',Q b k s'->∃d e,Gst X k s' d e/\j b d e):awp P X c j E s:=by
 intro g a w m;refine wpIn_mono (h g a w m) ?_;rintro b n w' ⟨g',e',f,k1,k2,o⟩;obtain⟨d,e,p,i⟩:=l b e' f o;obtain⟨q,t,u⟩:=p g' n w' k2;exact⟨q,d,e,k1.trans t,u,i⟩
def zMg{X:Cx}{E:Env}{s:S}(t b n cap sz:Nat)(es:db V){d:db V}{kk:Nat}(F:E.get t=.at (.slice (some ⟨b,0,none⟩) n cap))
 (D:Al.look s.box b=some (d,kk)) (hn:es.length=n) (ab:n<=cap) (G:d.take (n*sz)=zp es) (ac:n*sz<=d.length) (H:qL sz es) (h1:∀x∈es,zM x.flat) (hu:es.map V.untag=es) :
 Gst X E s (E.put t (.lst .no es)) ⟨wipe s.box b,s.tg,s.nx,s.ob⟩:=by
 intro g a w q;have hi:=q.inv;obtain⟨p1,p2,p3,p4,arr,el,us,p5,p6,p7,p8⟩:=hi.box b d kk D;have ae:b<w.heap.size:=(zUH.1 p5).1;have p:zM d:=by unfold zM;rw[zUb];exact p4
 have I:=yc g w d us p7;rw[xZ p]at I;have f:dD g w ⟨λi=>if i=b then n*sz else g.wm i,g.tb,g.fr⟩ w:=⟨λi=>by
  show g.wm i<=if i=b then n*sz else g.wm i
  split
  .rename_i k;subst k;rw[p2];exact zVI _
  .exact zUB _,λ_ _ k=>k,λ_ _ _=>rfl⟩
 have hs:dB X.B g w ⟨λi=>if i=b then n*sz else g.wm i,g.tb,g.fr⟩ w:=⟨f,.refl _ _,λi l=>⟨rfl,if_neg (λe=>by subst e;rw[(hi.boxFr D).1]at l;cases l)⟩,λi l=>if_neg dM,rfl⟩;have J:Inv X.B ⟨λi=>if i=b then n*sz else g.wm i,g.tb,g.fr⟩ ⟨wipe s.box b,s.tg,s.nx,s.ob⟩ w:=by
  refine⟨hi.base,?_,hi.tag,?_,hi.dist,hi.nodup,λi l=>?_,hi.names,hi.ex.step f (zUB _) rfl rfl (λm o fp v j K=>⟨rfl,if_neg (λe=>by subst e;exact(hi.boxFr D).2 m o fp v K)⟩) (λj K _=>by rw[yR];split<;>first|rfl|exact K) (λj _ h=>h)⟩
  .intro m cs' k' v;simp only[yR]at v;split at v
   .cases v
   .rename_i k;obtain⟨L,M,N,O,arr',Q,T,y,W,r7,r8⟩:=hi.box m cs' k' v;exact⟨L,by show(if m=b then _ else g.wm m)=0;rw[if_neg (λe2=>k e2.symm)];exact M,N,O,arr',Q,T,y,W,yE f _ _ r7,r8⟩
  .intro t F m z n' Y Z;obtain⟨L,M,N,O,y,W⟩:=hi.own t F m z n' Y Z;have k:m≠b:=λk=>by subst k;rw[D]at y;cases y
   exact⟨L,by show(if m=b then _ else g.wm m)=_;rw[if_neg k];exact M,N,O,by rw[yR];split<;>first|rfl|exact y,W⟩
  .show(if i=b then _ else g.wm i)=0;rw[if_neg dM];exact hi.fresh i l
 have aa:RCs g.bare w es (us.take (n*sz)):=by
  have h2:=(xV p p7 (n*sz)).1;rw[G]at h2;have h3:=zCL (zGU h1 h2) h1
  rwa [hu]at h3
 have A:RC ⟨λi=>if i=b then n*sz else g.wm i,g.tb,g.fr⟩ w (.lst .no es) [.slice (some ⟨b,0,none⟩) n cap]:=by
  simp only[RC];refine .inr ⟨b,0,cap,us.take (n*sz),by rw[hn],dM,trivial,yE f.bare _ _ aa,⟨sz,H,λ_ _ _ k=>by cases k⟩,?_⟩;intro i u c;rw[zU6]at c;split at c
  .rename_i ad;refine⟨?_,?_⟩
   .rw[zUY,cell_of_row w b i arr el (0,0) p5];rw[<-p8,zU6]at c;split at c
    .simpa using c
    .cases c
   .show 0+i<if b=b then n*sz else g.wm b
    rw[if_pos rfl];omega
  .cases c
 refine⟨_,hs,J,λj=>?_,q.size,q.df,q.gl.below (.refl _ _) f.wm⟩;rw[Env.get_put];split
 .rename_i k;subst k;have h0:=q.env t;rw[F]at h0;rw[yG h0];exact qg A
 .exact(q.env j).later f
section
variable{U:TyU}(C:Cod U)(Tb:dg->TD U){R:Type}
def frzR{R:Type}:db du->En U->St U->(En U->St U->da R)->da R
 |[],e,st,K=>K e st
 |v::r,e,st,K=>match v with
  |.tmp t=>(match eget e t with
   |.sl l n=>(match lk st.bx l with
    |some (.ar i xs)=>bif Nat.ble n xs.length then frzR r ((t,.lst (.b false) i (qq n xs))::e) ⟨(l,none)::st.bx,st.tg,st.nl,st.nx,st.ob⟩ K else none
    |_=>none)
   |_=>frzR r e st K)
  |.cell _ _=>frzR r e st K
variable{C Tb}{P:di}{r:R}
def zIt(c:CodOk C){X:Cx}{N:NM}:∀(rs:db du){e:En U}{E:Env}{st:St U}{s:S}{K:En U->St U->da R},dF C N st s->dG C N st e E->frzR rs e st K=some r ->
 ∃e' d a s',K e' a=some r/\Gst X E s d s'/\dF C N a s'/\dG C N a e' d
 |[],e,E,st,s,K,f,g,h=>⟨e,E,st,s,h,.refl _ _ _,f,g⟩
 |v::rs,e,E,st,s,K,f,g,h=>by
  have go:frzR rs e st K=some r->∃e' d a s',K e' a=some r/\Gst X E s d s'/\dF C N a s'/\dG C N a e' d:=λA=>zIt c rs f g A;cases v with
  |cell p t=>simp only[frzR]at h;exact go h
  |tmp t=>
   simp only[frzR]at h;split at h
   .rename_i l n w;split at h
    .rename_i i xs k;obtain⟨m,B⟩:=zP h;have m:n<=xs.length:=by simpa [zV3]using m
     have D:=f.wf l _ k;have z:=((g t).1).get (by rw[w];simp);rw[w]at z;have j:=kj c i xs;have o:(qq n xs).length=n:=by unfold qq;rw[zVH];omega
     have F:Gst X E s (E.put t (.lst .no ((qq n xs).map (C.encV i)))) ⟨wipe s.box (N.bl l),s.tg,s.nx,s.ob⟩:=by
      refine zMg t (N.bl l) n (N.cp l) (C.cells i) _ z (f.box l _ k) (by rw[zUZ,o]) (by have:=D.2;omega) (zBx c i xs n) ?_ (zCg c i _) ?_ ?_
      .rw[j];exact zVV _ m
      .intro x G;obtain⟨y,_,rfl⟩:=zVA.1 G;exact c.ones i y
      .rw[zVr];exact zVQ λy _=>c.untag i y
     have q:=f.drop l k;have H:bdd st.nl st.nx (T.lst (.b false) i (qq n xs):T U)=true:=rfl;have u:dG C N ⟨(l,none)::st.bx,st.tg,st.nl,st.nx,st.ob⟩ ((t,.lst (.b false) i (qq n xs))::e) (E.put t (.lst .no ((qq n xs).map (C.encV i)))):=by
      have:=ESim.put (st:=⟨(l,none)::st.bx,st.tg,st.nl,st.nx,st.ob⟩) (e:=e) (E:=E) (v:=.lst (.b false) i (qq n xs)) (v':=.lst .no ((qq n xs).map (C.encV i))) g (.inr rfl) H (some t);exact this
     obtain⟨e',d,a,s',I,J,L,M⟩:=zIt c rs q u B;exact⟨e',d,a,s',I,F.trans J,L,M⟩
    .cases h
   .exact go h
def zAD(C:Cod U)(Tb:dg->TD U)(fu d:Nat)(inl:Nat->da (FD U))(orc:Nat->da (Con U))(orr:Nat->da (CR U))(orp:Nat->da (CP U))(b:FD U)(c rs:db (AK U))(e:Nat->dd)(x:zj c):da (zj rs):=
 drun C Tb fu (zDx C Tb fu inl orc orr orp none d) b.fi b.body (zFE 0 (qV C c e 0 x)) ⟨[],[],0,0,[]⟩ λf e' a=>match f with
  |.normal=>frzR b.rs e' a λe' a=>dres C Tb e' a b.rs λvs=>zD1 C rs vs some
  |.ret=>frzR b.rs e' a λe' a=>dres C Tb e' a b.rs λvs=>zD1 C rs vs some
  |_=>none
def zRI(J:TbOk C P Tb)(D:CodOk C)(H:P.follows .mixedOrders=true){syn:db dj}{pf rf:dt->dd}{fu d:Nat}{inl:Nat->da (FD U)}{orc:Nat->da (Con U)}{orr:Nat->da (CR U)}{orp:Nat->da (CP U)}(K:∀f,pf f=(orc f).isSome)(L:∀f,rf f=(orr f).isSome)
 (M:∀f g,inl f=some g->FDOk P pf rf f g) (N:∀f c,orc f=some c->OrcOk C P f c)
 (O:∀f c,orr f=some c->xY P f=true/\CROk C P f c) (S:∀f c,orp f=some c->xY P f=true/\dI C P syn f c) {f:Nat} {g:FD U} (q:FDOk P pf rf f g) {c:Con U} (E:c.as.length<=g.n)
 (T:∀a∈c.rs,∀i,a≠.ls i) (h:∀b x,zAD C Tb fu d inl orc orr orp g c.as c.rs b x=c.fn x):ConOk C P f c:=by
 intro x y hx vs W;obtain⟨fn,q1,q2,q3,q4⟩:=q.fn;have Y:∃b,vs=(qV C c.as b 0 x).map (trT C ⟨id,id,id,id⟩):=by
  have Z:∀(k:db (AK U))(x:zj k)(vs:db V)(j:Nat),zCX C k x vs->∃b:Nat->dd,vs=(qV C k b j x).map (trT C ⟨id,id,id,id⟩):=by
   intro k
   induction k with
   |nil=>intro x vs j h;exact⟨λ_=>false,h⟩
   |cons a r s=>
    intro x vs j h;obtain⟨v,vs',rfl,o,F⟩:=h;obtain⟨b,h3⟩:=s x.2 vs' (j+1) F;have h4:∃n,v=trT C ⟨id,id,id,id⟩ (argT C a n x.1):=by
     cases a with
     |ls i=>obtain⟨n,hn⟩:=o;exact⟨n,by rw[hn];cases n<;>rfl⟩
     |_=>exact⟨false,o⟩
    obtain⟨n,h4⟩:=h4;have t:∀(k:db (AK U))(x:zj k)(b l:Nat->dd)(j:Nat),(∀m,j<=m->b m=l m)->qV C k b j x=qV C k l j x:=by
     intro k
     induction k with
     |nil=>intros;rfl
     |cons a r s=>
      intro x b l j I;simp only[qV,I j (zUB _),s x.2 b l (j+1) λm H=>I m dM]
    refine⟨λm=>if m=j then n else b m,?_⟩;simp only[qV,zUC,zUM];rw[h3,h4,t r x.2 (λm=>if m=j then n else b m) b (j+1) λm H=>if_neg dM]
  exact Z c.as x vs 0 W
 obtain⟨b,rfl⟩:=Y;have u:∀(k:db (AK U))(b:Nat->dd)(j:Nat)(x:zj k),(qV C k b j x).length=k.length:=by
  intro k
  induction k with
  |nil=>intros;rfl
  |cons a r s=>intro b j x;simp[qV,s]
 have p:=(h b x).trans hx;unfold zAD at p;refine zMc q1 q2 q3 q4 (by rw[zUZ,u];exact E) λB=>?_;have G:∀(rs:db (AK U)),(∀a∈rs,∀i,a≠.ls i)->∀(y:zj rs)(us:db V)(j:Nat),zCX C rs y us->us=(qV C rs (λ_=>false) j y).map (trT C ⟨id,id,id,id⟩):=by
  intro rs
  induction rs with
  |nil=>intro _ y us j hu;exact hu
  |cons a r s=>
   intro hr y us j hu;obtain⟨v,vs',rfl,o,F⟩:=hu;simp only[qV,zUC];rw[<-s (λa ha=>hr a (by simp[ha])) y.2 vs' (j+1) F];congr 1;cases a with
   |ls i=>exact absurd rfl (hr (.ls i) dQ i)
   |_=>exact o
 refine zQ3 (Q:=λex E' s'=>∃w z,Gst ⟨B,⟨g.n,[]⟩,none,[]⟩ E' s' w z/\retE P g.rs (λoc _=>oc=.ret (finV ((qV C c.rs (λ_=>false) 0 y).map (trT C ⟨id,id,id,id⟩)))) ex w z) ?_ (λ_ _ _ hq=>hq);refine kF (X:=⟨B,⟨g.n,[]⟩,none,[]⟩) (PP:=λe=>e=syn/\(none:da (zj c.rs))=some y) J D H (zDS J D H K L M N O S d g.fi.wr g.fi.own) g.body (SSim.empty ⟨id,id,id,id⟩ 0 0 _) (zCf (st:=⟨[],[],0,0,[]⟩) _ 0 (zDq D c.as b 0 x)) p q.ok q.hok (λe s' hq=>by cases hq.2) ?_;intro ex N' e' A E' s' p1 p2 p3 p4 _;have aa:(frzR g.rs e' A λe' A=>dres C Tb e' A g.rs λvs=>zD1 C c.rs vs some)=some y->∃w z,Gst ⟨B,⟨g.n,[]⟩,none,[]⟩ E' s' w z/\yx P g.rs w z λxs=>Outc.ret (finV xs)=.ret (finV ((qV C c.rs (λ_=>false) 0 y).map (trT C ⟨id,id,id,id⟩))):=λI=>by
  obtain⟨e2,w,ab,z,u1,u2,u3,u4⟩:=zIt (X:=⟨B,⟨g.n,[]⟩,none,[]⟩) D g.rs p3 p4 I;refine⟨w,z,u2,zGi J D u3 u4 g.rs u1 λvs hv=>?_⟩;obtain⟨y',o,F⟩:=zFQ D c.rs hv;injection o with o
  subst o;rw[G c.rs T y' _ 0 (F N')]
 cases ex<;>simp only at p1<;>first|exact aa p1|cases p1
end
end
end Go.Den
namespace Go.Proofs.YtnamdpbcpnnhaaaGreatDoor
section
open Go.Al
def vi(n:Int):V:=.at (.int .i64 n)
def sl(es:db V):V:=.lst (zx es) es
inductive Nd where
 |mk (kind tok:Int) (kids:List Nd)
mutual
def za:Nd->V
 |.mk k a l=>.agg [vi k,vi a,sl (jb l)]
def jb:List Nd->List V
 |[]=>[]
 |x::r=>za x::jb r
end
def zFW:∀l:db Nd,jb l=l.map za
 |[]=>rfl
 |x::r=>by simp[jb,zFW r]
def qv(k a:Int)(l:db Nd):za (.mk k a l)=.agg [vi k,vi a,sl (l.map za)]:=by rw[za,zFW]
def zFS:hasT Tryz.prog 3=true:=dO
def zFc:xr Tryz.prog 3=false:=dO
def zDT:Tryz.prog.cellsOf 3=1:=dO
def zKU:hasT Tryz.prog 4=true:=dO
def aggT4:xr Tryz.prog 4=false:=dO
def zHh:Tryz.prog.cellsOf 4=1:=dO
def zIJ:hasT Tryz.prog 9=true:=dO
def zIN:xr Tryz.prog 9=false:=dO
def zF9:Tryz.prog.cellsOf 9=1:=dO
def strT9:zBj Tryz.prog 9=true:=dO
def zLa:hasT Tryz.prog 24=true:=dO
def zLV:xr Tryz.prog 24=false:=dO
def zIm:Tryz.prog.cellsOf 24=1:=dO
def zNp:elT Tryz.prog 24=some 26:=dO
def zMI:hasT Tryz.prog 26=true:=dO
def zJA:Tryz.prog.cellsOf 26=6:=dO
def zJD:fieldAt Tryz.prog 26 1=some (1,9):=dO
def zAm:hasT Tryz.prog 27=true:=dO
def zBy:xr Tryz.prog 27=false:=dO
def kh:Tryz.prog.cellsOf 27=1:=dO
def zD8:elT Tryz.prog 27=some 29:=dO
def ku:hasT Tryz.prog 29=true:=dO
def zBk:xr Tryz.prog 29=true:=dO
def jr:Tryz.prog.cellsOf 29=3:=dO
def zNG:Tryz.prog.bytesOf 29=40:=dO
def zNc:fieldAt Tryz.prog 29 0=some (0,3):=dO
def zM7:fieldAt Tryz.prog 29 1=some (1,3):=dO
def zDD:fieldAt Tryz.prog 29 2=some (2,27):=dO
def zHf:xU Tryz.prog 29=some [.at (.int .i64 0),.at (.int .i64 0),.lst .nil []]:=dO
def hasT30:hasT Tryz.prog 30=true:=dO
def aggT30:xr Tryz.prog 30=false:=dO
def zTu:Tryz.prog.cellsOf 30=1:=dO
def hasT44:hasT Tryz.prog 44=true:=dO
def aggT44:xr Tryz.prog 44=false:=dO
def zSw:Tryz.prog.cellsOf 44=1:=dO
def elT44:elT Tryz.prog 44=some 47:=dO
def hasT47:hasT Tryz.prog 47=true:=dO
def zSl:Tryz.prog.cellsOf 47=2:=dO
def hasT62:hasT Tryz.prog 62=true:=dO
def aggT62:xr Tryz.prog 62=false:=dO
def zTG:Tryz.prog.cellsOf 62=1:=dO
def jd:hasT Tryz.prog 63=true:=dO
def zBz:xr Tryz.prog 63=false:=dO
def qo:Tryz.prog.cellsOf 63=1:=dO
def zTI:Tryz.prog.bytesOf 63=8:=dO
def zero63:xU Tryz.prog 63=some [.at (.map none)]:=dO
def zEk:hasT Tryz.prog 64=true:=dO
def zGC:xr Tryz.prog 64=false:=dO
def zDG:Tryz.prog.cellsOf 64=1:=dO
def zHy:elT Tryz.prog 64=some 63:=dO
def zSm:fieldAt Tryz.prog 66 0=some (0,24):=dO
def zTl:fieldAt Tryz.prog 66 1=some (1,3):=dO
def zEi:fieldAt Tryz.prog 66 2=some (2,64):=dO
def zTA:fieldAt Tryz.prog 68 0=some (0,27):=dO
def zBD:hasT Tryz.prog 76=true:=dO
def zA9:xr Tryz.prog 76=false:=dO
def zAV:Tryz.prog.cellsOf 76=1:=dO
def kp:hasT Tryz.prog 77=true:=dO
def zAf:xr Tryz.prog 77=false:=dO
def jv:Tryz.prog.cellsOf 77=1:=dO
def zNZ:fieldAt Tryz.prog 79 0=some (0,24):=dO
def zTv:fieldAt Tryz.prog 79 1=some (1,44):=dO
def zA2:fieldAt Tryz.prog 79 2=some (2,77):=dO
def zNX:fieldAt Tryz.prog 79 4=some (4,63):=dO
def zSs:fieldAt Tryz.prog 79 5=some (5,77):=dO
def zK3:fieldAt Tryz.prog 104 0=some (0,9):=dO
def zLF:fieldAt Tryz.prog 104 1=some (1,3):=dO
def zEm:hasT Tryz.prog 114=true:=dO
def zDU:Tryz.prog.cellsOf 114=2:=dO
def zLP:fieldAt Tryz.prog 114 0=some (0,63):=dO
def zHJ:fieldAt Tryz.prog 114 1=some (1,63):=dO
def zDn:fieldAt Tryz.prog 116 0=some (0,114):=dO
def zDd:fieldAt Tryz.prog 116 1=some (2,77):=dO
def ks38:Nat->db Nat
 |0=>[0,1,4]
 |1=>[4]
 |_=>[]
def ks46:Nat->db Nat
 |0=>[0,1]
 |1=>[4]
 |_=>[]
def ks47:Nat->db Nat
 |0=>[]
 |_=>[]
def ks58:Nat->db Nat
 |0=>[0,1,2,8]
 |1=>[0,1,2,6]
 |2=>[0,1,6,9]
 |3=>[0,1,6]
 |4=>[]
 |_=>[]
def ks59:Nat->db Nat
 |0=>[]
 |_=>[]
def ks61:Nat->db Nat
 |0=>[0]
 |1=>[0,3]
 |2=>[3]
 |3=>[2]
 |_=>[]
def ks77:Nat->db Nat
 |0=>[3]
 |1=>[]
 |_=>[]
def ks88:Nat->db Nat
 |0=>[0,1]
 |1=>[0,1,16]
 |2=>[4]
 |3=>[4]
 |_=>[]
def ks98:Nat->db Nat
 |0=>[2,3]
 |1=>[2,3]
 |2=>[2,3,4]
 |3=>[2,3,4,5]
 |4=>[2,3,5]
 |5=>[2,3,5]
 |6=>[2,3,5]
 |9=>[2,3,5]
 |10=>[2,3]
 |11=>[2]
 |12=>[]
 |_=>[]
def kA:Nat->db Nat
 |0=>[0,1,6]
 |1=>[0,1,4]
 |2=>[0,1,4,20]
 |3=>[0,1,4]
 |4=>[]
 |_=>[]
def zN2:Nat->db Nat
 |0=>[0]
 |1=>[0,3]
 |2=>[3]
 |3=>[2]
 |_=>[]
def zDu:Nat->db Nat
 |0=>[1]
 |1=>[2]
 |_=>[]
def jR:Nat->db Nat
 |0=>[0,1,4]
 |1=>[0,1,4,5]
 |2=>[0,1,4,5,15]
 |3=>[0,1,4,5]
 |4=>[0,1,4,5]
 |5=>[]
 |_=>[]
def yu:Nat->db Nat
 |0=>[0,1,2,6]
 |1=>[0,1,2,6,7]
 |2=>[0,1,2,6,7,8]
 |3=>[0,1,2,6,7,8,38]
 |4=>[0,1,2,6,7,8]
 |5=>[0,1,2,6,7,8]
 |6=>[0,1,6,7,51]
 |7=>[0,1,6,7]
 |8=>[0,1,7]
 |9=>[]
 |_=>[]
def zOJ:Nat->db Nat
 |0=>[]
 |_=>[]
def mixed:Tryz.prog.follows .mixedOrders=true:=dO
end
section
open Go.Al Go.Den
def Nd.kind:Nd->Int
 |.mk k _ _=>k
def Nd.tok:Nd->Int
 |.mk _ a _=>a
def Nd.kids:Nd->db Nd
 |.mk _ _ l=>l
structure TokT where
 kind:Int
 text:List UInt8
 file:Int
 ffrom:Int
 fto:Int
 blank:Bool
structure CharT where
 b:Int
 fat:Int
structure BindT where
 space:Int
 fto:Int
inductive TI where
 |int
 |bool
 |u8
 |str
 |tok
 |char
 |bind
 |node
def TI.no:TI->Nat
 |.int=>0
 |.bool=>1
 |.u8=>2
 |.str=>3
 |.tok=>4
 |.char=>5
 |.bind=>6
 |.node=>7
def TI.no_inj:∀a b:TI,a.no=b.no->a=b:=by intro a b h;cases a<;>cases b<;>first|rfl|(simp[TI.no]at h)
instance:DecidableEq TI:=λa b=>if h:a.no=b.no then isTrue (TI.no_inj a b h)else isFalse (λe=>h e8)
abbrev _root_.dw:=@TokT
abbrev _root_.dz:=@CharT
abbrev _root_.dy:=@BindT
def denI:TI->Type
 |.int=>Int
 |.bool=>dd
 |.u8=>Int
 |.str=>(db UInt8)
 |.tok=>dw
 |.char=>dz
 |.bind=>dy
 |.node=>Nd
abbrev UU:TyU:={ I:=TI,den:=denI }
def zEl{R:Type}(v:T UU)(K:dw->da R):da R:=
 match v with
 |.agg fs=>(match fs with
  |[a,b,c,d,e,f]=>pInt .i64 a λg=>pStr b λh=>pInt .i64 c λi=>pInt .i64 d λj=>pInt .i64 e λk=>zKP f λl=>K (TokT.mk g h i j k l)
  |_=>none)
 |_=>none
def tokD:dw:=TokT.mk 0 [] 0 0 0 false
def zDH{R:Type}(v:T UU)(K:dz->da R):da R:=
 match v with
 |.agg fs=>(match fs with
  |[a,b]=>pInt .u8 a λc=>pInt .i64 b λd=>K (CharT.mk c d)
  |_=>none)
 |_=>none
def zH9:dz:=CharT.mk 0 0
def zDI{R:Type}(v:T UU)(K:dy->da R):da R:=
 match v with
 |.agg fs=>(match fs with
  |[a,b]=>pInt .i64 a λc=>pInt .i64 b λd=>K (BindT.mk c d)
  |_=>none)
 |_=>none
def yQ:dy:=BindT.mk 0 0
def zHZ{R:Type}(v:T UU)(K:Nd->da R):da R:=
 match v with
 |.agg fs=>(match fs with
  |[a,b,c]=>pInt .i64 a λd=>pInt .i64 b λe=>pDl (U:=UU) TI.node c λf=>K (Nd.mk d e f)
  |_=>none)
 |_=>none
def xC:Nd:=Nd.mk 0 0 []
def eV_int(x:Int):V:=.at (.int .i64 x)
def zSG(x:dd):V:=.at (.bool x)
def eV_u8(x:Int):V:=.at (.int .u8 x)
def eV_str(x:(db UInt8)):V:=.at (.string ⟨List.toArray x⟩)
def zBu(x:dw):V:=.agg [.at (.int .i64 (TokT.kind x)),.at (.string ⟨List.toArray (TokT.text x)⟩),.at (.int .i64 (TokT.file x)),.at (.int .i64 (TokT.ffrom x)),.at (.int .i64 (TokT.fto x)),.at (.bool (TokT.blank x))]
def qE(x:dz):V:=.agg [.at (.int .u8 (CharT.b x)),.at (.int .i64 (CharT.fat x))]
def zAx(x:dy):V:=.agg [.at (.int .i64 (BindT.space x)),.at (.int .i64 (BindT.fto x))]
def zBV(x:Nd):V:=za x
def zNv:(i:TI)->denI i->V
 |.int,x=>eV_int x
 |.bool,x=>zSG x
 |.u8,x=>eV_u8 x
 |.str,x=>eV_str x
 |.tok,x=>zBu x
 |.char,x=>qE x
 |.bind,x=>zAx x
 |.node,x=>zBV x
def encI:(i:TI)->denI i->T UU
 |.int,x=>.int .i64 x
 |.bool,x=>.bool x
 |.u8,x=>.int .u8 x
 |.str,x=>.str x
 |.tok,x=>.agg [(.int .i64 (TokT.kind x)),(.str (TokT.text x)),(.int .i64 (TokT.file x)),(.int .i64 (TokT.ffrom x)),(.int .i64 (TokT.fto x)),(.bool (TokT.blank x))]
 |.char,x=>.agg [(.int .u8 (CharT.b x)),(.int .i64 (CharT.fat x))]
 |.bind,x=>.agg [(.int .i64 (BindT.space x)),(.int .i64 (BindT.fto x))]
 |.node,x=>.agg [(.int .i64 (Nd.kind x)),(.int .i64 (Nd.tok x)),(.lst .dl TI.node (Nd.kids x))]
def decI:(i:TI)->{R:Type}->T UU->(denI i->da R)->da R
 |.int,_,v,K=>pInt .i64 v K
 |.bool,_,v,K=>zKP v K
 |.u8,_,v,K=>pInt .u8 v K
 |.str,_,v,K=>pStr v K
 |.tok,_,v,K=>zEl v K
 |.char,_,v,K=>zDH v K
 |.bind,_,v,K=>zDI v K
 |.node,_,v,K=>zHZ v K
def dfltI:(i:TI)->denI i
 |.int=>(0:Int)
 |.bool=>false
 |.u8=>(0:Int)
 |.str=>([]:db UInt8)
 |.tok=>tokD
 |.char=>zH9
 |.bind=>yQ
 |.node=>xC
def cellsI:TI->Nat
 |.int=>1
 |.bool=>1
 |.u8=>1
 |.str=>1
 |.tok=>6
 |.char=>2
 |.bind=>2
 |.node=>3
def aggI:TI->dd
 |.int=>false
 |.bool=>false
 |.u8=>false
 |.str=>false
 |.tok=>true
 |.char=>true
 |.bind=>true
 |.node=>true
def plainI:TI->dd
 |.int=>true
 |.bool=>true
 |.u8=>true
 |.str=>true
 |.tok=>true
 |.char=>true
 |.bind=>true
 |.node=>false
def ifvI:(i:TI)->denI i->dh
 |.int,_=>.nilIface
 |.bool,_=>.nilIface
 |.u8,_=>.nilIface
 |.str,_=>.nilIface
 |.tok,_=>.nilIface
 |.char,_=>.nilIface
 |.bind,_=>.nilIface
 |.node,_=>.nilIface
def u8I:(i:TI)->da (denI i->Int)
 |.int=>none
 |.bool=>none
 |.u8=>some λx=>x
 |.str=>none
 |.tok=>none
 |.char=>none
 |.bind=>none
 |.node=>none
def CC:Cod UU:=⟨encI,zNv,decI,dfltI,cellsI,aggI,plainI,ifvI,u8I⟩
def zOp{R:Type}{v:T UU}{K:dw->da R}{r:R}(h:zEl v K=some r):∃x,K x=some r/\∀N,(trT CC N v).untag=zBu x:=by
 unfold zEl at h;split at h
 .split at h
  .obtain⟨f,h,_,e0⟩:=xu (C:=CC) h;obtain⟨g,h,_,a⟩:=zGd (C:=CC) h;obtain⟨i,h,_,b⟩:=xu (C:=CC) h;obtain⟨j,h,_,c⟩:=xu (C:=CC) h;obtain⟨k,h,_,d⟩:=xu (C:=CC) h;obtain⟨l,h,_,e⟩:=zEw (C:=CC) h;refine⟨_,h,λN=>?_⟩;simp only[trT,trTs,V.untag,zUC,zUL,e0 N,a N,b N,c N,d N,e N];rfl
  .cases h
 .cases h
def zMl{R:Type}{v:T UU}{K:dw->da R}{r:R}(h:zEl v K=some r):∃x,K x=some r/\∀N,trT CC N v=zBu x:=by
 unfold zEl at h;split at h
 .split at h
  .obtain⟨f,h,e0,_⟩:=xu (C:=CC) h;obtain⟨g,h,a,_⟩:=zGd (C:=CC) h;obtain⟨i,h,b,_⟩:=xu (C:=CC) h;obtain⟨j,h,c,_⟩:=xu (C:=CC) h;obtain⟨k,h,d,_⟩:=xu (C:=CC) h;obtain⟨l,h,e,_⟩:=zEw (C:=CC) h;refine⟨_,h,λN=>?_⟩;simp only[trT,trTs,e0 N,a N,b N,c N,d N,e N];rfl
  .cases h
 .cases h
def zCo(x:dw):zBu x=.agg [.at (.int .i64 (TokT.kind x)),.at (.string ⟨List.toArray (TokT.text x)⟩),.at (.int .i64 (TokT.file x)),.at (.int .i64 (TokT.ffrom x)),.at (.int .i64 (TokT.fto x)),.at (.bool (TokT.blank x))]:=by
 rfl
def zMh{R:Type}{v:T UU}{K:dz->da R}{r:R}(h:zDH v K=some r):∃x,K x=some r/\∀N,(trT CC N v).untag=qE x:=by
 unfold zDH at h;split at h
 .split at h
  .obtain⟨b,h,_,e0⟩:=xu (C:=CC) h;obtain⟨c,h,_,a⟩:=xu (C:=CC) h;refine⟨_,h,λN=>?_⟩;simp only[trT,trTs,V.untag,zUC,zUL,e0 N,a N];rfl
  .cases h
 .cases h
def zMR{R:Type}{v:T UU}{K:dz->da R}{r:R}(h:zDH v K=some r):∃x,K x=some r/\∀N,trT CC N v=qE x:=by
 unfold zDH at h;split at h
 .split at h
  .obtain⟨b,h,e0,_⟩:=xu (C:=CC) h;obtain⟨c,h,a,_⟩:=xu (C:=CC) h;refine⟨_,h,λN=>?_⟩;simp only[trT,trTs,e0 N,a N];rfl
  .cases h
 .cases h
def zBt(x:dz):qE x=.agg [.at (.int .u8 (CharT.b x)),.at (.int .i64 (CharT.fat x))]:=by
 rfl
def zMn{R:Type}{v:T UU}{K:dy->da R}{r:R}(h:zDI v K=some r):∃x,K x=some r/\∀N,(trT CC N v).untag=zAx x:=by
 unfold zDI at h;split at h
 .split at h
  .obtain⟨b,h,_,e0⟩:=xu (C:=CC) h;obtain⟨c,h,_,a⟩:=xu (C:=CC) h;refine⟨_,h,λN=>?_⟩;simp only[trT,trTs,V.untag,zUC,zUL,e0 N,a N];rfl
  .cases h
 .cases h
def zLM{R:Type}{v:T UU}{K:dy->da R}{r:R}(h:zDI v K=some r):∃x,K x=some r/\∀N,trT CC N v=zAx x:=by
 unfold zDI at h;split at h
 .split at h
  .obtain⟨b,h,e0,_⟩:=xu (C:=CC) h;obtain⟨c,h,a,_⟩:=xu (C:=CC) h;refine⟨_,h,λN=>?_⟩;simp only[trT,trTs,e0 N,a N];rfl
  .cases h
 .cases h
def zBg(x:dy):zAx x=.agg [.at (.int .i64 (BindT.space x)),.at (.int .i64 (BindT.fto x))]:=by
 rfl
def zMb{R:Type}{v:T UU}{K:Nd->da R}{r:R}(h:zHZ v K=some r):∃x,K x=some r/\∀N,(trT CC N v).untag=zBV x:=by
 unfold zHZ at h;split at h
 .split at h
  .obtain⟨a,h,_,e0⟩:=xu (C:=CC) h;obtain⟨b,h,_,c⟩:=xu (C:=CC) h;obtain⟨d,h,e⟩:=pDl_ok (C:=CC) h;refine⟨_,h,λN=>?_⟩;simp only[trT,trTs,V.untag,zUC,zUL,e0 N,c N,e N];exact(qv a b d).symm
  .cases h
 .cases h
def zBr(x:Nd):zBV x=.agg [.at (.int .i64 (Nd.kind x)),.at (.int .i64 (Nd.tok x)),.lst (zx ((Nd.kids x).map (zNv TI.node))) ((Nd.kids x).map (zNv TI.node))]:=by
 cases x;exact qv _ _ _
def sz_tok(x:dw):(zBu x).size=6:=by rw[zCo];rfl
def ag_tok(x:dw):(zBu x).isAgg=true:=by rw[zCo];rfl
def on_tok(x:dw):zM (zBu x).flat:=by rw[zCo];rfl
def un_tok(x:dw):(zBu x).untag=zBu x:=by rw[zCo];simp only[V.untag,zUC,zUL,zDv,zBO]
def zIw(x:dz):(qE x).size=2:=by rw[zBt];rfl
def zTi(x:dz):(qE x).isAgg=true:=by rw[zBt];rfl
def zTC(x:dz):zM (qE x).flat:=by rw[zBt];rfl
def zTa(x:dz):(qE x).untag=qE x:=by rw[zBt];simp only[V.untag,zUC,zUL,zDv,zBO]
def zSb(x:dy):(zAx x).size=2:=by rw[zBg];rfl
def zSR(x:dy):(zAx x).isAgg=true:=by rw[zBg];rfl
def zTT(x:dy):zM (zAx x).flat:=by rw[zBg];rfl
def zS4(x:dy):(zAx x).untag=zAx x:=by rw[zBg];simp only[V.untag,zUC,zUL,zDv,zBO]
def zTU(x:Nd):(zBV x).size=3:=by rw[zBr];rfl
def zTs(x:Nd):(zBV x).isAgg=true:=by rw[zBr];rfl
def zSp(x:Nd):zM (zBV x).flat:=by rw[zBr];rfl
def zTL(x:Nd):(zBV x).untag=zBV x:=by rw[zBr];simp only[V.untag,zUC,zUL,zDv,zBO]
def CCok:CodOk CC:=by
 refine⟨?_,?_,?_,?_,?_,?_,?_,?_,?_,?_,?_⟩
 .intro N i x;cases i with
  |int=>rfl
  |bool=>rfl
  |u8=>rfl
  |str=>rfl
  |tok=>exact(zCo x).symm
  |char=>exact(zBt x).symm
  |bind=>exact(zBg x).symm
  |node=>exact(zBr x).symm
 .intro i x;cases i<;>rfl
 .intro i R v k r h;cases i with
  |int=>obtain⟨x,a,_,b⟩:=xu (C:=CC) h;exact⟨x,a,λN=>by have:=b N;exact zEA this⟩
  |bool=>obtain⟨x,a,_,b⟩:=zEw (C:=CC) h;exact⟨x,a,λN=>by have:=b N;exact zEA this⟩
  |u8=>obtain⟨x,a,_,b⟩:=xu (C:=CC) h;exact⟨x,a,λN=>by have:=b N;exact zEA this⟩
  |str=>obtain⟨x,a,_,b⟩:=zGd (C:=CC) h;exact⟨x,a,λN=>by have:=b N;exact zEA this⟩
  |tok=>exact zOp h
  |char=>exact zMh h
  |bind=>exact zMn h
  |node=>exact zMb h
 .intro i R v k r c h;cases i with
  |int=>obtain⟨x,a,b,_⟩:=xu (C:=CC) h;exact⟨x,a,b⟩
  |bool=>obtain⟨x,a,b,_⟩:=zEw (C:=CC) h;exact⟨x,a,b⟩
  |u8=>obtain⟨x,a,b,_⟩:=xu (C:=CC) h;exact⟨x,a,b⟩
  |str=>obtain⟨x,a,b,_⟩:=zGd (C:=CC) h;exact⟨x,a,b⟩
  |tok=>exact zMl h
  |char=>exact zMR h
  |bind=>exact zLM h
  |node=>cases c
 .intro i x;cases i with
  |int=>rfl
  |bool=>rfl
  |u8=>rfl
  |str=>rfl
  |tok=>exact sz_tok x
  |char=>exact zIw x
  |bind=>exact zSb x
  |node=>exact zTU x
 .intro i x;cases i with
  |int=>rfl
  |bool=>rfl
  |u8=>rfl
  |str=>rfl
  |tok=>exact ag_tok x
  |char=>exact zTi x
  |bind=>exact zSR x
  |node=>exact zTs x
 .intro i x;cases i with
  |int=>rfl
  |bool=>rfl
  |u8=>rfl
  |str=>rfl
  |tok=>exact on_tok x
  |char=>exact zTC x
  |bind=>exact zTT x
  |node=>exact zSp x
 .intro i x;cases i with
  |int=>rfl
  |bool=>rfl
  |u8=>rfl
  |str=>rfl
  |tok=>exact un_tok x
  |char=>exact zTa x
  |bind=>exact zS4 x
  |node=>exact zTL x
 .intro i h;cases i<;>first|rfl|cases h
 .intro i;cases i<;>decide
 .intro i f h x;cases i<;>first|(cases h;done)|(cases h;rfl)
def td3:TD UU:={ has:=true,agg:=false,cells:=1,bytes:=8,code:=some TI.int,ik:=some .i64,zero:=some [.int .i64 0] }
def td3_ok:dK CC Tryz.prog 3 td3:=⟨dO,dO,dO,dO,dO,dO,dO,dO,dO,dO,dO,λN=>dO,λi h=>dR,λn i h=>dU,.inr rfl,.inr rfl,λx k r h=>dU,λl h=>yC h,λh=>dU⟩
def td4:TD UU:={ has:=true,agg:=false,cells:=1,bytes:=1,code:=some TI.bool,isBool:=true,zero:=some [.bool false] }
def td4_ok:dK CC Tryz.prog 4 td4:=⟨dO,dO,dO,dO,dO,dO,dO,dO,dO,dO,dO,λN=>dO,λi h=>dR,λn i h=>dU,.inr rfl,.inr rfl,λx k r h=>dU,λl h=>yC h,λh=>dU⟩
def td5:TD UU:={ has:=true,agg:=false,cells:=1,bytes:=1,code:=some TI.u8,ik:=some .u8,zero:=some [.int .u8 0] }
def td5_ok:dK CC Tryz.prog 5 td5:=⟨dO,dO,dO,dO,dO,dO,dO,dO,dO,dO,dO,λN=>dO,λi h=>dR,λn i h=>dU,.inr rfl,.inr rfl,λx k r h=>dU,λl h=>yC h,λh=>dU⟩
def td9:TD UU:={ has:=true,agg:=false,cells:=1,bytes:=16,code:=some TI.str,isStr:=true,zero:=some [.str []] }
def td9_ok:dK CC Tryz.prog 9 td9:=⟨dO,dO,dO,dO,dO,dO,dO,dO,dO,dO,dO,λN=>dO,λi h=>dR,λn i h=>dU,.inr rfl,.inr rfl,λx k r h=>dU,λl h=>yC h,λh=>dU⟩
def td20:TD UU:={ has:=true,agg:=false,cells:=1,bytes:=16,isIfc:=true,zero:=some [.con .nilIface] }
def zTo:dK CC Tryz.prog 20 td20:=⟨dO,dO,dO,dO,dO,dO,dO,dO,dO,dO,dO,λN=>dO,λi h=>dR,λn i h=>dU,.inr rfl,.inr rfl,λx k r h=>dU,λl h=>yC h,λh=>dU⟩
def td24:TD UU:={ has:=true,agg:=false,cells:=1,bytes:=24,el:=some 26,zero:=some [.nil] }
def zTj:dK CC Tryz.prog 24 td24:=⟨dO,dO,dO,dO,dO,dO,dO,dO,dO,dO,dO,λN=>dO,λi h=>dR,λn i h=>dU,.inr rfl,.inr rfl,λx k r h=>dU,λl h=>yC h,λh=>dU⟩
def td26:TD UU:={ has:=true,agg:=true,cells:=6,bytes:=56,code:=some TI.tok,flds:=[(0,3),(1,9),(2,3),(3,3),(4,3),(5,4)],isStruct:=true,zero:=some [.int .i64 0,.str [],.int .i64 0,.int .i64 0,.int .i64 0,.bool false] }
def zTD:dK CC Tryz.prog 26 td26:=⟨dO,dO,dO,dO,dO,dO,dO,dO,dO,dO,dO,λN=>dO,λi h=>dR,λn i h=>dU,.inr rfl,.inr rfl,λx k r h=>dU,λl h=>yC h,λh=>dU⟩
def td27:TD UU:={ has:=true,agg:=false,cells:=1,bytes:=24,el:=some 29,zero:=some [.nil] }
def zSQ:dK CC Tryz.prog 27 td27:=⟨dO,dO,dO,dO,dO,dO,dO,dO,dO,dO,dO,λN=>dO,λi h=>dR,λn i h=>dU,.inr rfl,.inr rfl,λx k r h=>dU,λl h=>yC h,λh=>dU⟩
def td29:TD UU:={ has:=true,agg:=true,cells:=3,bytes:=40,code:=some TI.node,flds:=[(0,3),(1,3),(2,27)],isStruct:=true,zero:=some [.int .i64 0,.int .i64 0,.nil] }
def zTh:dK CC Tryz.prog 29 td29:=⟨dO,dO,dO,dO,dO,dO,dO,dO,dO,dO,dO,λN=>dO,λi h=>dR,λn i h=>dU,.inr rfl,.inr rfl,λx k r h=>dU,λl h=>yC h,λh=>dU⟩
def td30:TD UU:={ has:=true,agg:=false,cells:=1,bytes:=8,code:=some TI.int,ik:=some .i64,zero:=some [.int .i64 0] }
def zSP:dK CC Tryz.prog 30 td30:=⟨dO,dO,dO,dO,dO,dO,dO,dO,dO,dO,dO,λN=>dO,λi h=>dR,λn i h=>dU,.inr rfl,.inr rfl,λx k r h=>dU,λl h=>yC h,λh=>dU⟩
def td44:TD UU:={ has:=true,agg:=false,cells:=1,bytes:=24,el:=some 47,zero:=some [.nil] }
def zSY:dK CC Tryz.prog 44 td44:=⟨dO,dO,dO,dO,dO,dO,dO,dO,dO,dO,dO,λN=>dO,λi h=>dR,λn i h=>dU,.inr rfl,.inr rfl,λx k r h=>dU,λl h=>yC h,λh=>dU⟩
def td47:TD UU:={ has:=true,agg:=true,cells:=2,bytes:=16,code:=some TI.bind,flds:=[(0,3),(1,3)],isStruct:=true,zero:=some [.int .i64 0,.int .i64 0],eqk:=some [.i,.i] }
def eqq47(us vs:db dh)(h:vkq [KQ.i,.i] us vs=true):zFJ Tryz.prog 47 us vs=true/\zFA Tryz.prog 47 us vs=eqVs us vs:=by
 obtain⟨k0,c,d,e,f,rfl,rfl,a⟩:=zNt h;obtain⟨k1,g,j,k,l,rfl,rfl,b⟩:=zNt a;obtain⟨rfl,rfl⟩:=zMs b;exact⟨dO,dO⟩
def eqqs47{l:db KQ}(h:some [KQ.i,.i]=some l)(us vs:db dh)(a:vkq l us vs=true):zFJ Tryz.prog 47 us vs=true/\zFA Tryz.prog 47 us vs=eqVs us vs:=by
 rw[<-zVi h]at a;exact eqq47 us vs a
def zT4:dK CC Tryz.prog 47 td47:=⟨dO,dO,dO,dO,dO,dO,dO,dO,dO,dO,dO,λN=>dO,λi h=>dR,λn i h=>dU,.inr rfl,.inr rfl,λx k r h=>dU,λl h=>eqqs47 h,λh=>dU⟩
def td49:TD UU:={ has:=true,agg:=false,cells:=1,bytes:=24,el:=some 3,zero:=some [.nil] }
def zSO:dK CC Tryz.prog 49 td49:=⟨dO,dO,dO,dO,dO,dO,dO,dO,dO,dO,dO,λN=>dO,λi h=>dR,λn i h=>dU,.inr rfl,.inr rfl,λx k r h=>dU,λl h=>yC h,λh=>dU⟩
def td57:TD UU:={ has:=true,agg:=false,cells:=1,bytes:=24,el:=some 9,zero:=some [.nil] }
def zTk:dK CC Tryz.prog 57 td57:=⟨dO,dO,dO,dO,dO,dO,dO,dO,dO,dO,dO,λN=>dO,λi h=>dR,λn i h=>dU,.inr rfl,.inr rfl,λx k r h=>dU,λl h=>yC h,λh=>dU⟩
def td58:TD UU:={ has:=true,agg:=true,cells:=33,bytes:=528,zero:=some (List.replicate 33 (.str [])),arr:=some (33,TI.str),bpl:=[(0,9),(1,9),(2,9),(3,9),(4,9),(5,9),(6,9),(7,9),(8,9),(9,9),(10,9),(11,9),(12,9),(13,9),(14,9),(15,9),(16,9),(17,9),(18,9),(19,9),(20,9),(21,9),(22,9),(23,9),(24,9),(25,9),(26,9),(27,9),(28,9),(29,9),(30,9),(31,9),(32,9)] }
set_option maxRecDepth 100000 in
def zTq:dK CC Tryz.prog 58 td58:=⟨dO,dO,dO,dO,dO,dO,dO,dO,dO,dO,dO,λN=>dO,λi h=>dR,λn i h=>eh,.inr rfl,.inl dO,λx k r h=>dU,λl h=>yC h,λh=>dU⟩
def td61:TD UU:={ has:=true,agg:=true,cells:=0,bytes:=0,flds:=[],isStruct:=true,zero:=some [] }
def zS5:dK CC Tryz.prog 61 td61:=⟨dO,dO,dO,dO,dO,dO,dO,dO,dO,dO,dO,λN=>dO,λi h=>dR,λn i h=>dU,.inr rfl,.inr rfl,λx k r h=>dU,λl h=>yC h,λh=>dU⟩
def td62:TD UU:={ has:=true,agg:=false,cells:=1,bytes:=8,zero:=some [.con (.pointer none)] }
def zSK:dK CC Tryz.prog 62 td62:=⟨dO,dO,dO,dO,dO,dO,dO,dO,dO,dO,dO,λN=>dO,λi h=>dR,λn i h=>dU,.inr rfl,.inr rfl,λx k r h=>dU,λl h=>yC h,λh=>dU⟩
def td63:TD UU:={ has:=true,agg:=false,cells:=1,bytes:=8,zero:=some [.con (.map none)],mpi:=true }
def zSC:dK CC Tryz.prog 63 td63:=⟨dO,dO,dO,dO,dO,dO,dO,dO,dO,dO,dO,λN=>dO,λi h=>dR,λn i h=>dU,.inr rfl,.inr rfl,λx k r h=>dU,λl h=>yC h,λ_=>⟨3,dO,dO⟩⟩
def td64:TD UU:={ has:=true,agg:=false,cells:=1,bytes:=24,el:=some 63,zero:=some [.nil] }
def zTx:dK CC Tryz.prog 64 td64:=⟨dO,dO,dO,dO,dO,dO,dO,dO,dO,dO,dO,λN=>dO,λi h=>dR,λn i h=>dU,.inr rfl,.inr rfl,λx k r h=>dU,λl h=>yC h,λh=>dU⟩
def td66:TD UU:={ has:=true,agg:=true,cells:=4,bytes:=64,flds:=[(0,24),(1,3),(2,64),(3,63)],isStruct:=true,zero:=some [.nil,.int .i64 0,.nil,.con (.map none)] }
def zS3:dK CC Tryz.prog 66 td66:=⟨dO,dO,dO,dO,dO,dO,dO,dO,dO,dO,dO,λN=>dO,λi h=>dR,λn i h=>dU,.inr rfl,.inr rfl,λx k r h=>dU,λl h=>yC h,λh=>dU⟩
def td68:TD UU:={ has:=true,agg:=true,cells:=1,bytes:=24,flds:=[(0,27)],isStruct:=true,zero:=some [.nil] }
def zTd:dK CC Tryz.prog 68 td68:=⟨dO,dO,dO,dO,dO,dO,dO,dO,dO,dO,dO,λN=>dO,λi h=>dR,λn i h=>dU,.inr rfl,.inr rfl,λx k r h=>dU,λl h=>yC h,λh=>dU⟩
def td76:TD UU:={ has:=true,agg:=false,cells:=1,bytes:=8,zero:=some [.con (.pointer none)] }
def zTm:dK CC Tryz.prog 76 td76:=⟨dO,dO,dO,dO,dO,dO,dO,dO,dO,dO,dO,λN=>dO,λi h=>dR,λn i h=>dU,.inr rfl,.inr rfl,λx k r h=>dU,λl h=>yC h,λh=>dU⟩
def td77:TD UU:={ has:=true,agg:=false,cells:=1,bytes:=8,zero:=some [.con (.pointer none)] }
def zSc:dK CC Tryz.prog 77 td77:=⟨dO,dO,dO,dO,dO,dO,dO,dO,dO,dO,dO,λN=>dO,λi h=>dR,λn i h=>dU,.inr rfl,.inr rfl,λx k r h=>dU,λl h=>yC h,λh=>dU⟩
def td79:TD UU:={ has:=true,agg:=true,cells:=6,bytes:=80,flds:=[(0,24),(1,44),(2,77),(3,63),(4,63),(5,77)],isStruct:=true,zero:=some [.nil,.nil,.con (.pointer none),.con (.map none),.con (.map none),.con (.pointer none)] }
def zSu:dK CC Tryz.prog 79 td79:=⟨dO,dO,dO,dO,dO,dO,dO,dO,dO,dO,dO,λN=>dO,λi h=>dR,λn i h=>dU,.inr rfl,.inr rfl,λx k r h=>dU,λl h=>yC h,λh=>dU⟩
def td88:TD UU:={ has:=true,agg:=false,cells:=1,bytes:=8,zero:=some [.con (.pointer none)] }
def zTR:dK CC Tryz.prog 88 td88:=⟨dO,dO,dO,dO,dO,dO,dO,dO,dO,dO,dO,λN=>dO,λi h=>dR,λn i h=>dU,.inr rfl,.inr rfl,λx k r h=>dU,λl h=>yC h,λh=>dU⟩
def td99:TD UU:={ has:=true,agg:=false,cells:=1,bytes:=24,el:=some 108,zero:=some [.nil] }
def zSE:dK CC Tryz.prog 99 td99:=⟨dO,dO,dO,dO,dO,dO,dO,dO,dO,dO,dO,λN=>dO,λi h=>dR,λn i h=>dU,.inr rfl,.inr rfl,λx k r h=>dU,λl h=>yC h,λh=>dU⟩
def td101:TD UU:={ has:=true,agg:=false,cells:=1,bytes:=8,zero:=some [.con (.pointer none)] }
def zQf:dK CC Tryz.prog 101 td101:=⟨dO,dO,dO,dO,dO,dO,dO,dO,dO,dO,dO,λN=>dO,λi h=>dR,λn i h=>dU,.inr rfl,.inr rfl,λx k r h=>dU,λl h=>yC h,λh=>dU⟩
def td104:TD UU:={ has:=true,agg:=true,cells:=2,bytes:=24,flds:=[(0,9),(1,3)],isStruct:=true,zero:=some [.str [],.int .i64 0] }
def zRH:dK CC Tryz.prog 104 td104:=⟨dO,dO,dO,dO,dO,dO,dO,dO,dO,dO,dO,λN=>dO,λi h=>dR,λn i h=>dU,.inr rfl,.inr rfl,λx k r h=>dU,λl h=>yC h,λh=>dU⟩
def td108:TD UU:={ has:=true,agg:=true,cells:=2,bytes:=16,code:=some TI.char,flds:=[(0,5),(1,3)],isStruct:=true,zero:=some [.int .u8 0,.int .i64 0] }
def zQi:dK CC Tryz.prog 108 td108:=⟨dO,dO,dO,dO,dO,dO,dO,dO,dO,dO,dO,λN=>dO,λi h=>dR,λn i h=>dU,.inr rfl,.inr rfl,λx k r h=>dU,λl h=>yC h,λh=>dU⟩
def td109:TD UU:={ has:=true,agg:=false,cells:=1,bytes:=8,ik:=some .u64,zero:=some [.int .u64 0] }
def zRV:dK CC Tryz.prog 109 td109:=⟨dO,dO,dO,dO,dO,dO,dO,dO,dO,dO,dO,λN=>dO,λi h=>dR,λn i h=>dU,.inr rfl,.inr rfl,λx k r h=>dU,λl h=>yC h,λh=>dU⟩
def td114:TD UU:={ has:=true,agg:=true,cells:=2,bytes:=16,flds:=[(0,63),(1,63)],isStruct:=true,zero:=some [.con (.map none),.con (.map none)] }
def zQr:dK CC Tryz.prog 114 td114:=⟨dO,dO,dO,dO,dO,dO,dO,dO,dO,dO,dO,λN=>dO,λi h=>dR,λn i h=>dU,.inr rfl,.inr rfl,λx k r h=>dU,λl h=>yC h,λh=>dU⟩
def td116:TD UU:={ has:=true,agg:=true,cells:=3,bytes:=24,flds:=[(0,114),(2,77)],isStruct:=true,zero:=some [.con (.map none),.con (.map none),.con (.pointer none)] }
def zR0:dK CC Tryz.prog 116 td116:=⟨dO,dO,dO,dO,dO,dO,dO,dO,dO,dO,dO,λN=>dO,λi h=>dR,λn i h=>dU,.inr rfl,.inr rfl,λx k r h=>dU,λl h=>yC h,λh=>dU⟩
def td118:TD UU:={ has:=true,agg:=true,cells:=8,bytes:=128,zero:=some (List.replicate 8 (.str [])),arr:=some (8,TI.str),bpl:=[(0,9),(1,9),(2,9),(3,9),(4,9),(5,9),(6,9),(7,9)] }
set_option maxRecDepth 100000 in
def zQg:dK CC Tryz.prog 118 td118:=⟨dO,dO,dO,dO,dO,dO,dO,dO,dO,dO,dO,λN=>dO,λi h=>dR,λn i h=>eh,.inr rfl,.inl dO,λx k r h=>dU,λl h=>yC h,λh=>dU⟩
def td119:TD UU:={ has:=true,agg:=true,cells:=9,bytes:=144,zero:=some (List.replicate 9 (.str [])),arr:=some (9,TI.str),bpl:=[(0,9),(1,9),(2,9),(3,9),(4,9),(5,9),(6,9),(7,9),(8,9)] }
set_option maxRecDepth 100000 in
def zQm:dK CC Tryz.prog 119 td119:=⟨dO,dO,dO,dO,dO,dO,dO,dO,dO,dO,dO,λN=>dO,λi h=>dR,λn i h=>eh,.inr rfl,.inl dO,λx k r h=>dU,λl h=>yC h,λh=>dU⟩
def td125:TD UU:={ has:=true,agg:=false,cells:=1,bytes:=24,el:=some 5,zero:=some [.nil],isByt:=true }
def zQl:dK CC Tryz.prog 125 td125:=⟨dO,dO,dO,dO,dO,dO,dO,dO,dO,dO,dO,λN=>dO,λi h=>dR,λn i h=>dU,.inl dO,.inr rfl,λx k r h=>dU,λl h=>yC h,λh=>dU⟩
def td131:TD UU:={ has:=true,agg:=false,cells:=1,bytes:=4,ik:=some .u32,zero:=some [.int .u32 0] }
def zRW:dK CC Tryz.prog 131 td131:=⟨dO,dO,dO,dO,dO,dO,dO,dO,dO,dO,dO,λN=>dO,λi h=>dR,λn i h=>dU,.inr rfl,.inr rfl,λx k r h=>dU,λl h=>yC h,λh=>dU⟩
def td134:TD UU:={ has:=true,agg:=false,cells:=1,bytes:=8,ik:=some .u64,zero:=some [.int .u64 0] }
def zQ4:dK CC Tryz.prog 134 td134:=⟨dO,dO,dO,dO,dO,dO,dO,dO,dO,dO,dO,λN=>dO,λi h=>dR,λn i h=>dU,.inr rfl,.inr rfl,λx k r h=>dU,λl h=>yC h,λh=>dU⟩
def td146:TD UU:={ has:=true,agg:=true,cells:=48,bytes:=768,zero:=some (List.replicate 48 (.str [])),arr:=some (48,TI.str),bpl:=[(0,9),(1,9),(2,9),(3,9),(4,9),(5,9),(6,9),(7,9),(8,9),(9,9),(10,9),(11,9),(12,9),(13,9),(14,9),(15,9),(16,9),(17,9),(18,9),(19,9),(20,9),(21,9),(22,9),(23,9),(24,9),(25,9),(26,9),(27,9),(28,9),(29,9),(30,9),(31,9),(32,9),(33,9),(34,9),(35,9),(36,9),(37,9),(38,9),(39,9),(40,9),(41,9),(42,9),(43,9),(44,9),(45,9),(46,9),(47,9)] }
set_option maxRecDepth 100000 in
def zQt:dK CC Tryz.prog 146 td146:=⟨dO,dO,dO,dO,dO,dO,dO,dO,dO,dO,dO,λN=>dO,λi h=>dR,λn i h=>eh,.inr rfl,.inl dO,λx k r h=>dU,λl h=>yC h,λh=>dU⟩
def tdL:db (Nat×TD UU):=[(3,td3),(4,td4),(5,td5),(9,td9),(20,td20),(24,td24),(26,td26),(27,td27),(29,td29),(30,td30),(44,td44),(47,td47),(49,td49),(57,td57),(58,td58),(61,td61),(62,td62),(63,td63),(64,td64),(66,td66),(68,td68),(76,td76),(77,td77),(79,td79),(88,td88),(99,td99),(101,td101),(104,td104),(108,td108),(109,td109),(114,td114),(116,td116),(118,td118),(119,td119),(125,td125),(131,td131),(134,td134),(146,td146)]
def Tb:Nat->TD UU:=zH7 tdL
def zHo:TbOk CC Tryz.prog Tb:=zLo (by
 intro p a;simp only[tdL,zUG,zU4,zVL]at a;rcases a with rfl|rfl|rfl|rfl|rfl|rfl|rfl|rfl|rfl|rfl|rfl|rfl|rfl|rfl|rfl|rfl|rfl|rfl|rfl|rfl|rfl|rfl|rfl|rfl|rfl|rfl|rfl|rfl|rfl|rfl|rfl|rfl|rfl|rfl|rfl|rfl|rfl|rfl
 .exact td3_ok
 .exact td4_ok
 .exact td5_ok
 .exact td9_ok
 .exact zTo
 .exact zTj
 .exact zTD
 .exact zSQ
 .exact zTh
 .exact zSP
 .exact zSY
 .exact zT4
 .exact zSO
 .exact zTk
 .exact zTq
 .exact zS5
 .exact zSK
 .exact zSC
 .exact zTx
 .exact zS3
 .exact zTd
 .exact zTm
 .exact zSc
 .exact zSu
 .exact zTR
 .exact zSE
 .exact zQf
 .exact zRH
 .exact zQi
 .exact zRV
 .exact zQr
 .exact zR0
 .exact zQg
 .exact zQm
 .exact zQl
 .exact zRW
 .exact zQ4
 .exact zQt)
end
end Go.Proofs.YtnamdpbcpnnhaaaGreatDoor
section
namespace Go.Den
def findL(l:db (Nat×db (Nat×Nat×Nat)))(n:Nat):db (Nat×Nat×Nat):=(zG l n).getD []
end Go.Den
namespace Go.Proofs.YtnamdpbcpnnhaaaGreatDoor
open Go.Al Go.Den
abbrev PSt:=Int×db MT
abbrev MM(α:Type):=db dw->PSt->da (da (α×PSt))
abbrev LK:=db (SK UU)
abbrev Str:=db UInt8
abbrev NdsT:=db Nd×dc
def ndE(x:Nd):Nd:=Nd.mk (Nd.kind x) (Nd.tok x) (Nd.kids x)
def z8(x:Nd):ndE x=x:=by cases x;rfl
abbrev parK:SK UU:=.box [.dl TI.tok,.int .i64,.scs,.jm]
abbrev parL:SK UU:=.box [.dl TI.tok,.int .i64,.scs,.mpo]
abbrev ptsK:SK UU:=.box [.ow true TI.node]
def syn:db dj:=[{ v:=.iface 61 (.agg #[]),recovered:=false }]
abbrev ParT:=List TokT×Int×List MT×Unit×Unit
abbrev k0:LK:=[]
abbrev kN:LK:=[.st TI.node]
abbrev kB:LK:=[.bool]
abbrev kS:LK:=[.str]
abbrev kI:LK:=[.int .i64]
abbrev kL:LK:=[.dl TI.str]
abbrev kM:LK:=[.mpo]
abbrev CQ:=dI CC Tryz.prog syn
abbrev CoX:=ConOk CC Tryz.prog
abbrev CrX:=CROk CC Tryz.prog
abbrev FdX:=FDOk (U:=UU) Tryz.prog
abbrev JT:=Int×(Int×NdsT)
abbrev LT:=db dw
abbrev ck{ρ:Type}(n:Nat)(x:da ρ):da ρ:=cond (okN 40 n) x none
abbrev bo{α ρ:Type}(x:da (da α))(f:α->da (da ρ)):da (da ρ):=Option.bind x λo=>zX o (some none) f
def rpk{v:db dj}{fu d:Nat}{e:db (Nat×FD UU)}{lo:db (Nat×Con UU)}{lr:db (Nat×CR UU)}{j:db (Nat×CP UU)}{f:Nat}{b:FD UU}{k o m rs:LK}{w:zA k->zA m->da (da (zA o×zA rs))}(p:∀f b,zG e f=some b->FDOk Tryz.prog (hasN (lo.map (·.1))) (hasN (lr.map (·.1))) f b)(q:∀f c,zG lo f=some c->OrcOk CC Tryz.prog f c)(r:∀f c,zG lr f=some c->xY Tryz.prog f=true/\CROk CC Tryz.prog f c)(s:∀f c,zG j f=some c->xY Tryz.prog f=true/\dI CC Tryz.prog v f c)(t:FDOk Tryz.prog (hasN (lo.map (·.1))) (hasN (lr.map (·.1))) f b)(u:Nat.ble (k.length+m.length) b.n=true)(h:∀x a,runP CC Tb fu d (zG e) (zG lo) (zG lr) (zG j) b k o m rs x a=w x a):dI CC Tryz.prog v f ⟨k,o,m,rs,fnP w⟩:=zM2 zHo CCok mixed (λg=>(qw (l:=lo) g).symm) (λg=>(qw (l:=lr) g).symm) p q r s t (zV2 u) h
def rfk{fu d:Nat}{e:db (Nat×FD UU)}{lo:db (Nat×Con UU)}{lr:db (Nat×CR UU)}{j:db (Nat×CP UU)}{f:Nat}{b:FD UU}{c:Con UU}(p:∀f b,zG e f=some b->FDOk Tryz.prog (hasN (lo.map (·.1))) (hasN (lr.map (·.1))) f b)(q:∀f c,zG lo f=some c->OrcOk CC Tryz.prog f c)(r:∀f c,zG lr f=some c->xY Tryz.prog f=true/\CROk CC Tryz.prog f c)(s:∀f c,zG j f=some c->xY Tryz.prog f=true/\dI CC Tryz.prog syn f c)(t:FDOk Tryz.prog (hasN (lo.map (·.1))) (hasN (lr.map (·.1))) f b)(u:Nat.ble (Con.as c).length b.n=true)(y:∀a∈c.rs,∀i,a≠.ls i)(h:∀z x,zAD CC Tb fu d (zG e) (zG lo) (zG lr) (zG j) b (Con.as c) c.rs z x=c.fn x):ConOk CC Tryz.prog f c:=zRI zHo CCok mixed (λg=>(qw (l:=lo) g).symm) (λg=>(qw (l:=lr) g).symm) p q r s t (zV2 u) y h
def fdk{f:Nat}{b:Func}{a:FD UU}{pf rf:dt->dd}(h:Tryz.prog.funcs[f]?=some b)(c:b.ntmps=a.n)(d:b.results=a.rs.toArray)(e:b.body=some a.body:=by kernel_rfl)(g:xY Tryz.prog f=true:=by kernel_rfl)(i:jY pf rf a.fi ⟨a.n,[]⟩ a.body=true:=by kernel_rfl)(j:je a.fi a.body=true:=by kernel_rfl):FDOk Tryz.prog pf rf f a:=⟨⟨b,h,e,c,d⟩,g,i,j⟩
abbrev zD4:=db dw×Int×db MT×da MT×dc
abbrev _root_.dx:=@ParT
def fM{aa rs:db (SK UU)}(m:zA aa->MM (zA rs)){R:Type}(x:dx×dc)(a:zA aa)(b:da R)(K:dx×dc->zA rs->da R):da R:=
 Option.bind (m a x.1.1 (x.1.2.1,x.1.2.2.1)) λo=>zX o b λy=>K ((x.1.1,y.2.1,y.2.2,(),()),()) y.1
abbrev cM(aa rs:db (SK UU))(m:zA aa->MM (zA rs)):CP UU:=⟨[parK],[parK],aa,rs,λx a b K=>fM m x a b K⟩
def fX{aa rs:db (SK UU)}(m:zA aa->db Nd->MM (zA rs×db Nd)){R:Type}(x:dx×(db Nd×dc)×dc)(a:zA aa)(b:da R)(K:dx×(db Nd×dc)×dc->zA rs->da R):da R:=
 Option.bind (m a x.2.1.1 x.1.1 (x.1.2.1,x.1.2.2.1)) λo=>zX o b λy=>K ((x.1.1,y.2.1,y.2.2,(),()),(y.1.2,()),()) y.1.1
abbrev cX(aa rs:db (SK UU))(m:zA aa->db Nd->MM (zA rs×db Nd)):CP UU:=⟨[parK,ptsK],[parK,ptsK],aa,rs,λx a b K=>fX m x a b K⟩
def fL{aa rs:db (SK UU)}(m:zA aa->MM (zA rs×da MT)){R:Type}(x:dx×dc)(a:zA aa)(b:da R)(K:zD4×dc->zA rs->da R):da R:=
 Option.bind (m a x.1.1 (x.1.2.1,x.1.2.2.1)) λo=>zX o b λy=>K ((x.1.1,y.2.1,y.2.2,y.1.2,()),()) y.1.1
abbrev cL(aa rs:db (SK UU))(m:zA aa->MM (zA rs×da MT)):CP UU:=⟨[parK],[parL],aa,rs,λx a b K=>fL m x a b K⟩
def fLj{aa rs:db (SK UU)}(m:zA aa->MM (zA rs×da MT)){R:Type}(x:dx×dc)(a:zA aa)(b:da R)(K:dx×dc->zA rs->da R):da R:=
 Option.bind (m a x.1.1 (x.1.2.1,x.1.2.2.1)) λo=>zX o b λy=>K ((x.1.1,y.2.1,y.2.2,(),()),()) y.1.1
abbrev cLj(aa rs:db (SK UU))(m:zA aa->MM (zA rs×da MT)):CP UU:=⟨[parK],[parK],aa,rs,λx a b K=>fLj m x a b K⟩
abbrev parJ:SK UU:=.box [.dl TI.tok,.int .i64,.scs,.mpj]
abbrev jN:=db dw×Int×db MT×da (da MT)×dc
def fJ{aa rs:db (SK UU)}(m:zA aa->MM (zA rs)){R:Type}(x:jN×dc)(a:zA aa)(b:da R)(K:jN×dc->zA rs->da R):da R:=
 Option.bind (m a x.1.1 (x.1.2.1,x.1.2.2.1)) λo=>zX o b λy=>K ((x.1.1,y.2.1,y.2.2,x.1.2.2.2.1,()),()) y.1
abbrev cJ(aa rs:db (SK UU))(m:zA aa->MM (zA rs)):CP UU:=⟨[parJ],[parJ],aa,rs,λx a b K=>fJ m x a b K⟩
def fN{aa rs:db (SK UU)}(m:zA aa->MM (zA rs×da (da MT))){R:Type}(x:dx×dc)(a:zA aa)(b:da R)(K:jN×dc->zA rs->da R):da R:=
 Option.bind (m a x.1.1 (x.1.2.1,x.1.2.2.1)) λo=>zX o b λy=>K ((x.1.1,y.2.1,y.2.2,y.1.2,()),()) y.1.1
abbrev cN(aa rs:db (SK UU))(m:zA aa->MM (zA rs×da (da MT))):CP UU:=⟨[parK],[parJ],aa,rs,λx a b K=>fN m x a b K⟩
def fNj{aa rs:db (SK UU)}(m:zA aa->MM (zA rs×da (da MT))){R:Type}(x:dx×dc)(a:zA aa)(b:da R)(K:dx×dc->zA rs->da R):da R:=
 Option.bind (m a x.1.1 (x.1.2.1,x.1.2.2.1)) λo=>zX o b λy=>K ((x.1.1,y.2.1,y.2.2,(),()),()) y.1.1
abbrev cNj(aa rs:db (SK UU))(m:zA aa->MM (zA rs×da (da MT))):CP UU:=⟨[parK],[parK],aa,rs,λx a b K=>fNj m x a b K⟩
abbrev zC3:CP UU:=⟨[],[],[.bool],[],λx a b K=>cond (show dd×dc from a).1 (K () ()) b⟩
abbrev zA8:CR UU:=⟨[ptsK,.int .i64],[.st TI.node],λx K=>K (Nd.mk (show(db Nd×dc)×Int×dc from x).2.1 0 (show(db Nd×dc)×Int×dc from x).1.1,())⟩
abbrev rdK:SK UU:=.box [.str,.int .i64]
abbrev RdT:=Str×Int×dc
abbrev DD(α:Type):=Str->Int->da (α×Int)
def fD{aa rs:db (SK UU)}(m:zA aa->DD (zA rs)){R:Type}(x:RdT×dc)(a:zA aa)(K:RdT×dc->zA rs->da R):da R:=
 Option.bind (m a x.1.1 x.1.2.1) λy=>K ((x.1.1,y.2,()),()) y.1
abbrev cD(aa rs:db (SK UU))(m:zA aa->DD (zA rs)):CP UU:=⟨[rdK],[rdK],aa,rs,λx a _ K=>fD m x a K⟩
def fRD{aa rs:db (SK UU)}(m:zA aa->Str->Int->da (zA rs)){R:Type}(x:RdT×zA aa)(K:zA rs->da R):da R:=
 Option.bind (m x.2 x.1.1 x.1.2.1) λy=>K y
abbrev cRD(aa rs:db (SK UU))(m:zA aa->Str->Int->da (zA rs)):CR UU:=⟨rdK::aa,rs,λx K=>fRD m x K⟩
end Go.Proofs.YtnamdpbcpnnhaaaGreatDoor
end
namespace Go.Proofs.YtnamdpbcpnnhaaaGreatDoor
section
open Go.Al Go.Den
def mkfd(k:Nat->db Nat)(h j:db (Nat×Head UU))(w:db (Nat×db (Nat×Nat×Nat)))(b:Func)(n:Nat)(r:db du):FD UU:=⟨⟨λd=>hasN [] d,λd=>hasN [] d,k,zG h,zG j,findL w⟩,jV b,n,r⟩
abbrev as15:db (AK UU):=[.str]
abbrev rs15:db (AK UU):=[.bool]
abbrev as33:db (AK UU):=[.dl TI.str,.str]
abbrev rs33:db (AK UU):=[.bool]
def kf40:Nat->db Nat
 |0=>[0,2]
 |1=>[2]
 |_=>[]
noncomputable def fd40:FD UU:=mkfd kf40 [] [] [] Tryz.f40 5 [.cell 2 29]
def kf54:Nat->db Nat
 |0=>[0,1]
 |1=>[0,1,5]
 |2=>[0,4]
 |_=>[]
noncomputable def fd54:FD UU:=mkfd kf54 [] [] [] Tryz.f54 15 [.tmp 4]
def kf72:Nat->db Nat
 |0=>[0,1]
 |1=>[0,1,17]
 |2=>[0,4]
 |3=>[0,5]
 |4=>[0,5,37]
 |5=>[0,4]
 |6=>[0,4]
 |_=>[]
noncomputable def fd72:FD UU:=mkfd kf72 [] [] [] Tryz.f72 40 [.tmp 4]
def kf73:Nat->db Nat
 |0=>[0,2]
 |1=>[0,2]
 |2=>[0,2]
 |3=>[0,2]
 |_=>[]
noncomputable def fd73:FD UU:=mkfd kf73 [] [] [] Tryz.f73 27 [.cell 2 29]
def kf78:Nat->db Nat
 |0=>[0,1,4]
 |1=>[0,4]
 |2=>[0,4]
 |_=>[]
noncomputable def fd78:FD UU:=mkfd kf78 [] [] [] Tryz.f78 12 [.cell 4 29]
def kf80:Nat->db Nat
 |0=>[0,2]
 |1=>[0,2]
 |2=>[0,2]
 |_=>[]
noncomputable def fd80:FD UU:=mkfd kf80 [] [] [] Tryz.f80 8 [.cell 2 29]
def kf84:Nat->db Nat
 |0=>[0,1]
 |1=>[0,1,5]
 |2=>[0,4]
 |_=>[]
noncomputable def fd84:FD UU:=mkfd kf84 [] [] [] Tryz.f84 34 [.tmp 4]
def kf85:Nat->db Nat
 |0=>[0,1]
 |1=>[0,4]
 |_=>[]
noncomputable def fd85:FD UU:=mkfd kf85 [] [] [] Tryz.f85 50 [.tmp 4]
def kf112:Nat->db Nat
 |0=>[0,1]
 |1=>[0,4]
 |_=>[]
noncomputable def fd112:FD UU:=mkfd kf112 [] [] [] Tryz.f112 30 [.tmp 4]
noncomputable def run72(fu:Nat)(x:zA [parJ])(a:zA kI):da (da (zA [parJ]×zA kS)):=
 runP CC Tb fu 2 (zG []) (zG []) (zG []) (zG []) fd72 [parJ] [parJ] kI kS x a
def fdok72:FdX (hasN []) (hasN []) 72 fd72:=fdk Tryz.func72 Tryz.ntmps72 Tryz.results72
noncomputable def run54(fu:Nat)(c33:db (db UInt8)×db UInt8×dc->da (dd×dc))(b:zA kI->MM (zA kS))(x:zA [parJ])(a:zA kL):da (da (zA [parJ]×zA kB)):=
 runP CC Tb fu 2 (zG []) (zG [(33,(⟨as33,rs33,c33⟩:Con UU))]) (zG []) (zG [(72,cJ kI kS b)]) fd54 [parJ] [parJ] kL kB x a
def fdok54:FdX (hasN [33]) (hasN []) 54 fd54:=fdk Tryz.func54 Tryz.ntmps54 Tryz.results54
noncomputable def run85(fu:Nat)(c15:db UInt8×dc->da (dd×dc))(x:zA [parK])(a:zA kI):da (da (zA [parK]×zA kB)):=
 runP CC Tb fu 2 (zG []) (zG [(15,(⟨as15,rs15,c15⟩:Con UU))]) (zG []) (zG []) fd85 [parK] [parK] kI kB x a
def fdok85:FdX (hasN [15]) (hasN []) 85 fd85:=fdk Tryz.func85 Tryz.ntmps85 Tryz.results85
noncomputable def run112(fu:Nat)(x:zA [parK])(a:zA kI):da (da (zA [parK]×zA kB)):=
 runP CC Tb fu 2 (zG []) (zG []) (zG []) (zG []) fd112 [parK] [parK] kI kB x a
def zTc:FdX (hasN []) (hasN []) 112 fd112:=fdk Tryz.func112 Tryz.ntmps112 Tryz.results112
noncomputable def run73(fu:Nat)(x:zA [parK])(a:zA k0):da (da (zA [parK]×zA kN)):=
 runP CC Tb fu 3 (zG [(40,fd40)]) (zG []) (zG []) (zG [(77,zC3)]) fd73 [parK] [parK] k0 kN x a
def fdok73:FdX (hasN []) (hasN []) 73 fd73:=fdk Tryz.func73 Tryz.ntmps73 Tryz.results73
def zOz:FdX (hasN []) (hasN []) 40 fd40:=fdk Tryz.func40 Tryz.ntmps40 Tryz.results40
noncomputable def run78(fu:Nat)(b:zA kL->MM (zA kB))(c:zA k0->MM (zA kN))(x:zA [parK])(a:zA kS):da (da (zA [parK]×zA kN)):=
 runP CC Tb fu 2 (zG []) (zG []) (zG []) (zG [(54,cJ kL kB b),(73,cM k0 kN c),(77,zC3)]) fd78 [parK] [parK] kS kN x a
def fdok78:FdX (hasN []) (hasN []) 78 fd78:=fdk Tryz.func78 Tryz.ntmps78 Tryz.results78
noncomputable def run80(fu:Nat)(b:zA k0->MM (zA kN))(c:zA kI->MM (zA kB))(x:zA [parK])(a:zA k0):da (da (zA [parK]×zA kN)):=
 runP CC Tb fu 2 (zG []) (zG []) (zG []) (zG [(73,cM k0 kN b),(77,zC3),(85,cM kI kB c)]) fd80 [parK] [parK] k0 kN x a
def fdok80:FdX (hasN []) (hasN []) 80 fd80:=fdk Tryz.func80 Tryz.ntmps80 Tryz.results80
noncomputable def run84(fu:Nat)(c33:db (db UInt8)×db UInt8×dc->da (dd×dc))(b:zA kI->MM (zA kS))(c76:zA kI->MM (zA kB))(x:zA [parK])(a:zA kI):da (da (zA [parK]×zA kB)):=
 runP CC Tb fu 2 (zG []) (zG [(33,(⟨as33,rs33,c33⟩:Con UU))]) (zG []) (zG [(72,cJ kI kS b),(76,cM kI kB c76)]) fd84 [parK] [parK] kI kB x a
def fdok84:FdX (hasN [33]) (hasN []) 84 fd84:=fdk Tryz.func84 Tryz.ntmps84 Tryz.results84
abbrev wkK:SK UU:=.box [.dl TI.tok,.ar1 TI.bind,.lvs,.mp1,.mp1,.jp]
abbrev wkL:SK UU:=.box [.dl TI.tok,.ar1 TI.bind,.lvs,.mp1,.mp1,.lvj]
abbrev wk0:SK UU:=.box [.dl TI.tok,.ar1 TI.bind,.np,.mp1,.mp1,.jp]
abbrev wkR:SK UU:=.box [.dl TI.tok,.ar1 TI.bind,.jp,.jm,.jm,.jp]
abbrev LT1:=MT×MT
abbrev WkT:=db dw×db dy×db LT1×MT×MT×dc×dc
abbrev WkLT:=db dw×db dy×db LT1×MT×MT×da (da LT1)×dc
abbrev Wk0T:=db dw×db dy×dc×MT×MT×dc×dc
abbrev WkRT:=db dw×db dy×dc×dc×dc×dc×dc
abbrev WS:=db dw×db dy×db LT1×MT×MT
abbrev WW(α:Type):=WS->da (α×WS)
abbrev OO:=da (da LT1)
abbrev wS(x:WkT):WS:=(x.1,x.2.1,x.2.2.1,x.2.2.2.1,x.2.2.2.2.1)
abbrev wT(x:WS):WkT:=(x.1,x.2.1,x.2.2.1,x.2.2.2.1,x.2.2.2.2,(),())
abbrev cE{ρ:Type}(l:db dy)(x:da ρ):da ρ:=cond (eqN (List.length l) (List.length l)) x none
def fW{aa rs:db (SK UU)}(m:zA aa->WW (zA rs)){R:Type}(x:WkT×dc)(a:zA aa)(K:WkT×dc->zA rs->da R):da R:=
 Option.bind (m a (x.1.1,x.1.2.1,x.1.2.2.1,x.1.2.2.2.1,x.1.2.2.2.2.1)) λy=>K ((y.2.1,y.2.2.1,y.2.2.2.1,y.2.2.2.2.1,y.2.2.2.2.2,(),()),()) y.1
abbrev cW(aa rs:db (SK UU))(m:zA aa->WW (zA rs)):CP UU:=⟨[wkK],[wkK],aa,rs,λx a _ K=>fW m x a K⟩
def fWt{aa rs:db (SK UU)}(m:zA aa->WW (zA rs×da (da LT1))){R:Type}(x:WkT×dc)(a:zA aa)(K:WkLT×dc->zA rs->da R):da R:=
 Option.bind (m a (x.1.1,x.1.2.1,x.1.2.2.1,x.1.2.2.2.1,x.1.2.2.2.2.1)) λy=>K ((y.2.1,y.2.2.1,y.2.2.2.1,y.2.2.2.2.1,y.2.2.2.2.2,y.1.2,()),()) y.1.1
abbrev cWt(aa rs:db (SK UU))(m:zA aa->WW (zA rs×da (da LT1))):CP UU:=⟨[wkK],[wkL],aa,rs,λx a _ K=>fWt m x a K⟩
def fWj{aa rs:db (SK UU)}(m:zA aa->WW (zA rs×da (da LT1))){R:Type}(x:WkT×dc)(a:zA aa)(K:WkT×dc->zA rs->da R):da R:=
 Option.bind (m a (x.1.1,x.1.2.1,x.1.2.2.1,x.1.2.2.2.1,x.1.2.2.2.2.1)) λy=>K ((y.2.1,y.2.2.1,y.2.2.2.1,y.2.2.2.2.1,y.2.2.2.2.2,(),()),()) y.1.1
abbrev cWj(aa rs:db (SK UU))(m:zA aa->WW (zA rs×da (da LT1))):CP UU:=⟨[wkK],[wkK],aa,rs,λx a _ K=>fWj m x a K⟩
def fW0{aa rs:db (SK UU)}(m:zA aa->WW (zA rs)){R:Type}(x:Wk0T×dc)(a:zA aa)(K:Wk0T×dc->zA rs->da R):da R:=
 Option.bind (m a (x.1.1,x.1.2.1,[],x.1.2.2.2.1,x.1.2.2.2.2.1)) λy=>K ((y.2.1,y.2.2.1,(),y.2.2.2.2.1,y.2.2.2.2.2,(),()),()) y.1
abbrev cW0(aa rs:db (SK UU))(m:zA aa->WW (zA rs)):CP UU:=⟨[wk0],[wk0],aa,rs,λx a _ K=>fW0 m x a K⟩
def fW1{aa rs:db (SK UU)}(m:zA aa->WW (zA rs)){R:Type}(x:Wk0T×dc)(a:zA aa)(K:WkT×dc->zA rs->da R):da R:=
 Option.bind (m a (x.1.1,x.1.2.1,[],x.1.2.2.2.1,x.1.2.2.2.2.1)) λy=>K ((y.2.1,y.2.2.1,y.2.2.2.1,y.2.2.2.2.1,y.2.2.2.2.2,(),()),()) y.1
abbrev cW1(aa rs:db (SK UU))(m:zA aa->WW (zA rs)):CP UU:=⟨[wk0],[wkK],aa,rs,λx a _ K=>fW1 m x a K⟩
def fRW{aa rs:db (SK UU)}(m:zA aa->db dw->da (zA rs)){R:Type}(x:WkRT×zA aa)(K:zA rs->da R):da R:=
 Option.bind (m x.2 x.1.1) λy=>K y
abbrev cRW(aa rs:db (SK UU))(m:zA aa->db dw->da (zA rs)):CR UU:=⟨wkR::aa,rs,λx K=>fRW m x K⟩
def fFB(m:zA ([.dl TI.bind,.int .i64]:LK)->da (zA ([.ar1 TI.bind]:LK))){R:Type}(a:zA ([.dl TI.bind,.int .i64]:LK))(K:dc->zA ([.ar1 TI.bind]:LK)->da R):da R:=
 Option.bind (m a) λy=>K () y
abbrev cFB(m:zA ([.dl TI.bind,.int .i64]:LK)->da (zA ([.ar1 TI.bind]:LK))):CP UU:=⟨[],[],[.dl TI.bind,.int .i64],[.ar1 TI.bind],λ_ a _ K=>fFB m a K⟩
def kf45:Nat->db Nat
 |0=>[0,3]
 |1=>[0,8,9,10]
 |2=>[0,8,9,10,11]
 |3=>[0,6,8,9,10]
 |4=>[0,6,8,9,10,16]
 |5=>[0,4]
 |6=>[0,6,8,9,10,28]
 |7=>[0,4]
 |8=>[0,8,9,10]
 |9=>[0,4]
 |_=>[]
def hd45:db (Nat×Head UU):=[(2,⟨[0,8,9],[(10,.int .i64)],[(0,wkK)]⟩)]
noncomputable def fd45:FD UU:=mkfd kf45 hd45 [] [] Tryz.f45 32 [.tmp 4]
def kf48:Nat->db Nat
 |0=>[0,3]
 |1=>[0,7,8,9]
 |2=>[0,7,8,9,10]
 |3=>[0,5,7,8,9]
 |4=>[0,7,8,9]
 |5=>[0,7,8,9]
 |_=>[]
def hd48:db (Nat×Head UU):=[(2,⟨[0,7,8],[(9,.int .i64)],[(0,wkK)]⟩)]
noncomputable def fd48:FD UU:=mkfd kf48 hd48 [] [] Tryz.f48 17 []
def kf67:Nat->db Nat
 |0=>[0,1]
 |1=>[0,4]
 |_=>[]
noncomputable def fd67:FD UU:=mkfd kf67 [] [] [] Tryz.f67 26 [.tmp 4]
def kf68:Nat->db Nat
 |0=>[0,3]
 |1=>[0,3,9]
 |2=>[0]
 |3=>[0,3,9,13]
 |4=>[0,3,9,15]
 |5=>[0]
 |6=>[0,3,9,20]
 |7=>[0]
 |8=>[0,3,9,25]
 |9=>[0,3,9,25]
 |10=>[0]
 |11=>[0,3,9,31]
 |12=>[0]
 |13=>[0,3,9,36]
 |14=>[0,3,40,41,42]
 |15=>[0,3,40,41,42,43]
 |16=>[0,3,5,40,41,42]
 |17=>[0,3,40,41,42]
 |18=>[0,3,40,41,42]
 |19=>[0]
 |20=>[0,3,9,57]
 |21=>[0,3]
 |22=>[0,69,70,71]
 |23=>[0,69,70,71,72]
 |24=>[0,7,69,70,71]
 |25=>[0,69,70,71]
 |26=>[0,69,70,71]
 |27=>[0,3,9,79]
 |28=>[0,3]
 |29=>[0]
 |30=>[0]
 |31=>[0,3,9,91]
 |32=>[0,3,9,91]
 |33=>[0,3]
 |34=>[0,3,103]
 |35=>[0]
 |36=>[0,3,9,112]
 |37=>[0,3,112]
 |38=>[0,3]
 |39=>[0]
 |40=>[0]
 |_=>[]
def hd68:db (Nat×Head UU):=[(15,⟨[0,3,40,41],[(42,.int .i64)],[(0,wkK),(3,.box [.int .i64,.int .i64,.dl TI.node])]⟩),(23,⟨[0,69,70],[(71,.int .i64)],[(0,wkK)]⟩)]
def jn68:db (Nat×Head UU):=[(38,⟨[0,3],[(112,.bool)],[(0,wkK),(3,.box [.int .i64,.int .i64,.dl TI.node])]⟩),(33,⟨[0,3,9],[(91,.bool)],[(0,wkK),(3,.box [.int .i64,.int .i64,.dl TI.node])]⟩),(10,⟨[0,3,9],[(25,.bool)],[(0,wkK),(3,.box [.int .i64,.int .i64,.dl TI.node])]⟩)]
noncomputable def fd68:FD UU:=mkfd kf68 hd68 jn68 [] Tryz.f68 122 []
def kf99:Nat->db Nat
 |0=>[0,3]
 |1=>[0,7,8,9]
 |2=>[0,7,8,9,10]
 |3=>[0,5,7,8,9]
 |4=>[0,5,7,8,9,21]
 |5=>[0,5,7,8,9]
 |6=>[0,7,8,9]
 |7=>[0,7,8,9]
 |_=>[]
def hd99:db (Nat×Head UU):=[(2,⟨[0,7,8],[(9,.int .i64)],[(0,wkK)]⟩)]
noncomputable def fd99:FD UU:=mkfd kf99 hd99 [] [] Tryz.f99 30 []
def kf100:Nat->db Nat
 |0=>[0,3]
 |1=>[0,3,4]
 |2=>[0,3,4,12]
 |3=>[0,3]
 |4=>[0]
 |_=>[]
noncomputable def fd100:FD UU:=mkfd kf100 [] [] [] Tryz.f100 24 []
def kf101:Nat->db Nat
 |0=>[0,3]
 |1=>[0,8,9,10]
 |2=>[0,8,9,10,11]
 |3=>[0,5,8,9,10]
 |4=>[0,5,8,9,10,16]
 |5=>[0,8,9,10]
 |6=>[0,6,8,9,10]
 |7=>[0,8,9,10]
 |8=>[0,8,9,10]
 |_=>[]
def hd101:db (Nat×Head UU):=[(2,⟨[0,8,9],[(10,.int .i64)],[(0,wkK)]⟩)]
noncomputable def fd101:FD UU:=mkfd kf101 hd101 [] [(7,[(31,27,0)])] Tryz.f101 35 []
def kf103:Nat->db Nat
 |0=>[0,3]
 |1=>[0,3,5]
 |2=>[0,3,5,6]
 |3=>[0,3,5,6,10,11,12]
 |4=>[0,3,5,6,10,11,12,13]
 |5=>[0,3,5,6,7,8,10,11,12]
 |6=>[0,3,5,6,7,8,10,11,12]
 |7=>[0,3,5,6,10,11,12,47]
 |8=>[0,3,5,6,10,11,12]
 |9=>[0,3,5,6,7,8,10,11,12,52]
 |10=>[0,3,5,6,10,11,12]
 |11=>[0,3,5,6,7,8,10,11,12,59]
 |12=>[0,3,5,6,10,11,12]
 |13=>[0,3,5,6,10,11,12]
 |14=>[0,5]
 |15=>[0,4]
 |_=>[]
def hd103:db (Nat×Head UU):=[(4,⟨[0,3,10,11],[(5,.int .i64),(6,.lvj),(12,.int .i64)],[(0,wkK),(3,.box [.int .i64,.int .i64,.dl TI.node])]⟩)]
noncomputable def fd103:FD UU:=mkfd kf103 hd103 [] [] Tryz.f103 77 [.tmp 4]
def kf105:Nat->db Nat
 |0=>[0,3]
 |1=>[0,3,6]
 |2=>[0]
 |3=>[0,3,6,10]
 |4=>[0]
 |5=>[0,3,6,19]
 |6=>[0,3,4]
 |7=>[0,3]
 |8=>[0]
 |9=>[0,3,6,43]
 |10=>[0,3]
 |11=>[0]
 |12=>[0,3,70]
 |13=>[0]
 |_=>[]
noncomputable def fd105:FD UU:=mkfd kf105 [] [] [(7,[(34,30,0)]),(10,[(61,46,3),(61,49,0),(61,53,0),(61,56,3),(61,59,0)]),(13,[(88,73,3),(88,76,0),(88,80,0),(88,83,3),(88,86,0)])] Tryz.f105 91 []
def kf127:Nat->db Nat
 |0=>[0]
 |_=>[]
noncomputable def fd127:FD UU:=mkfd kf127 [] [] [] Tryz.f127 18 []
noncomputable def run127(fu:Nat)(x:zA [wkK])(a:zA ([.int .i64,.int .i64,.int .i64]:LK)):da (da (zA [wkK]×zA k0)):=
 runP CC Tb fu 2 (zG []) (zG []) (zG []) (zG []) fd127 [wkK] [wkK] ([.int .i64,.int .i64,.int .i64]:LK) k0 x a
def zST:FdX (hasN []) (hasN []) 127 fd127:=fdk Tryz.func127 Tryz.ntmps127 Tryz.results127
noncomputable def run67(fu:Nat)(c15:db UInt8×dc->da (dd×dc))(x:zA [wkK])(a:zA kI):da (da (zA [wkK]×zA kB)):=
 runP CC Tb fu 2 (zG []) (zG [(15,(⟨as15,rs15,c15⟩:Con UU))]) (zG []) (zG []) fd67 [wkK] [wkK] kI kB x a
def fdok67:FdX (hasN [15]) (hasN []) 67 fd67:=fdk Tryz.func67 Tryz.ntmps67 Tryz.results67
noncomputable def run45(fu:Nat)(b:zA kN->WW (zA kI))(c:zA kI->WW (zA kB))(x:zA [wkK])(a:zA kN):da (da (zA [wkK]×zA kI)):=
 runP CC Tb fu 2 (zG []) (zG []) (zG []) (zG [(45,cW kN kI b),(67,cW kI kB c)]) fd45 [wkK] [wkK] kN kI x a
def fdok45:FdX (hasN []) (hasN []) 45 fd45:=fdk Tryz.func45 Tryz.ntmps45 Tryz.results45
noncomputable def run48(fu:Nat)(b:zA kN->WW (zA k0×da (da LT1)))(x:zA [wkK])(a:zA kN):da (da (zA [wkK]×zA k0)):=
 runP CC Tb fu 2 (zG []) (zG []) (zG []) (zG [(68,cWj kN k0 b)]) fd48 [wkK] [wkK] kN k0 x a
def fdok48:FdX (hasN []) (hasN []) 48 fd48:=fdk Tryz.func48 Tryz.ntmps48 Tryz.results48
noncomputable def run68(fu:Nat)(c47:zA k0->WW (zA k0))(f:zA kN->WW (zA k0))(g:zA kN->WW (zA k0×da (da LT1)))(h:zA kN->WW (zA k0))(i:zA kN->WW (zA k0))(b:zA kN->WW (zA k0))(c:zA kN->WW (zA k0))(c102:zA kI->WW (zA k0))(d:zA kN->WW (zA kI×da (da LT1)))(c104:zA k0->WW (zA ([.lv1]:LK)))(e:zA kN->WW (zA k0))(x:zA [wkK])(a:zA kN):da (da (zA [wkL]×zA k0)):=
 runP CC Tb fu 2 (zG []) (zG []) (zG []) (zG [(47,cW k0 k0 c47),(48,cW kN k0 f),(68,cWj kN k0 g),(98,cW kN k0 h),(99,cW kN k0 i),(100,cW kN k0 b),(101,cW kN k0 c),(102,cW kI k0 c102),(103,cWj kN kI d),(104,cW k0 ([.lv1]:LK) c104),(105,cW kN k0 e)]) fd68 [wkK] [wkL] kN k0 x a
def fdok68:FdX (hasN []) (hasN []) 68 fd68:=fdk Tryz.func68 Tryz.ntmps68 Tryz.results68
noncomputable def run99(fu:Nat)(b:zA kI->WW (zA kB))(c:zA kN->WW (zA k0×da (da LT1)))(c125:zA kI->WW (zA k0))(x:zA [wkK])(a:zA kN):da (da (zA [wkK]×zA k0)):=
 runP CC Tb fu 2 (zG []) (zG []) (zG []) (zG [(67,cW kI kB b),(68,cWj kN k0 c),(125,cW kI k0 c125)]) fd99 [wkK] [wkK] kN k0 x a
def fdok99:FdX (hasN []) (hasN []) 99 fd99:=fdk Tryz.func99 Tryz.ntmps99 Tryz.results99
noncomputable def run100(fu:Nat)(b:zA kN->WW (zA k0))(c:zA kI->WW (zA kB))(c126:zA ([.int .i64,.bool]:LK)->WW (zA k0))(x:zA [wkK])(a:zA kN):da (da (zA [wkK]×zA k0)):=
 runP CC Tb fu 2 (zG []) (zG []) (zG []) (zG [(48,cW kN k0 b),(67,cW kI kB c),(126,cW ([.int .i64,.bool]:LK) k0 c126)]) fd100 [wkK] [wkK] kN k0 x a
def zT2:FdX (hasN []) (hasN []) 100 fd100:=fdk Tryz.func100 Tryz.ntmps100 Tryz.results100
noncomputable def run101(fu:Nat)(c46:zA kI->db dw->da (zA kS))(d:zA kN->WW (zA k0×da (da LT1)))(b:zA kN->WW (zA kI×da (da LT1)))(c:zA ([.int .i64,.int .i64,.int .i64]:LK)->WW (zA k0))(x:zA [wkK])(a:zA kN):da (da (zA [wkK]×zA k0)):=
 runP CC Tb fu 2 (zG []) (zG []) (zG [(46,cRW kI kS c46)]) (zG [(68,cWj kN k0 d),(103,cWj kN kI b),(127,cW ([.int .i64,.int .i64,.int .i64]:LK) k0 c)]) fd101 [wkK] [wkK] kN k0 x a
def zTX:FdX (hasN []) (hasN [46]) 101 fd101:=fdk Tryz.func101 Tryz.ntmps101 Tryz.results101
noncomputable def run103(fu:Nat)(c:zA kI->WW (zA kB))(d:zA kN->WW (zA k0×da (da LT1)))(b:zA kN->WW (zA kI×da (da LT1)))(x:zA [wkK])(a:zA kN):da (da (zA [wkL]×zA kI)):=
 runP CC Tb fu 2 (zG []) (zG []) (zG []) (zG [(67,cW kI kB c),(68,cWt kN k0 d),(103,cWj kN kI b)]) fd103 [wkK] [wkL] kN kI x a
def zSh:FdX (hasN []) (hasN []) 103 fd103:=fdk Tryz.func103 Tryz.ntmps103 Tryz.results103
noncomputable def run105(fu:Nat)(c46:zA kI->db dw->da (zA kS))(c:zA kN->WW (zA k0))(d:zA kN->WW (zA k0×da (da LT1)))(c125:zA kI->WW (zA k0))(b:zA ([.int .i64,.int .i64,.int .i64]:LK)->WW (zA k0))(x:zA [wkK])(a:zA kN):da (da (zA [wkK]×zA k0)):=
 runP CC Tb fu 2 (zG []) (zG []) (zG [(46,cRW kI kS c46)]) (zG [(48,cW kN k0 c),(68,cWj kN k0 d),(125,cW kI k0 c125),(127,cW ([.int .i64,.int .i64,.int .i64]:LK) k0 b)]) fd105 [wkK] [wkK] kN k0 x a
def zSF:FdX (hasN []) (hasN [46]) 105 fd105:=fdk Tryz.func105 Tryz.ntmps105 Tryz.results105
instance:DecidableEq TokT:=λa b=>
 if h:a.kind=b.kind/\a.text=b.text/\a.file=b.file/\a.ffrom=b.ffrom/\a.fto=b.fto/\a.blank=b.blank then
  isTrue (by obtain⟨_,_,_,_,_,_⟩:=a;obtain⟨_,_,_,_,_,_⟩:=b;simp only at h;obtain⟨rfl,rfl,rfl,rfl,rfl,rfl⟩:=h;rfl)
 else isFalse λe=>h (by subst e;exact⟨rfl,rfl,rfl,rfl,rfl,rfl⟩)
def zBE{P:di}{f:Nat}{d c aa rs:db (SK UU)}{k:zA d->zA aa->da (da (zA c×zA rs))}(h:dI CC P syn f ⟨d,c,aa,rs,fnP k⟩)(x:zA d)(a:zA aa)(oc:da (zA c×zA rs))(l:k x a=some oc) :
 ∀s e va g i,VKs CC s d x e g->VKs CC s aa a va i->(g++i).Nodup->FnC P f (e++va) (subS s (g++i)) (jQ CC syn c rs e oc):=by
 cases oc with
 |none=>
  obtain⟨oc,b,j⟩:=h x a (R:=dc) (some ()) (λ_ _=>none) () (by simp only[fnP,l];rfl);cases oc with
  |none=>exact j
  |some y=>cases b
 |some y=>
  obtain⟨oc,b,j⟩:=h x a (R:=zA c×zA rs) none (λu v=>some (u,v)) y (by simp only[fnP,l];rfl);cases oc with
  |none=>cases b
  |some n=>
   injection b with b
   have:n=y:=b;subst this;exact j
def outM{β:Type}(l:db dw):da (da ((dx×dc)×β))->da (da (β×PSt))
 |none=>none
 |some none=>some none
 |some (some y)=>if y.1.1.1=l then some (some (y.2,y.1.1.2.1,y.1.1.2.2.1))else none
def outX{β:Type}(l:db dw):da (da ((dx×NdsT×dc)×β))->da (da ((β×db Nd)×PSt))
 |none=>none
 |some none=>some none
 |some (some y)=>if y.1.1.1=l then some (some ((y.2,y.1.2.1.1),y.1.1.2.1,y.1.1.2.2.1))else none
def outL{β:Type}(l:db dw):da (da ((zD4×dc)×β))->da (da ((β×da MT)×PSt))
 |none=>none
 |some none=>some none
 |some (some y)=>if y.1.1.1=l then some (some ((y.2,y.1.1.2.2.2.1),y.1.1.2.1,y.1.1.2.2.1))else none
noncomputable def mM{aa rs:LK}(b:dx×dc->zA aa->da (da ((dx×dc)×zA rs))):zA aa->MM (zA rs):=λa l s=>outM l (b ((l,s.1,s.2,(),()),()) a)
noncomputable def mX{aa rs:LK}(c:dx×NdsT×dc->zA aa->da (da ((dx×NdsT×dc)×zA rs))):zA aa->db Nd->MM (zA rs×db Nd):=λa b l s=>outX l (c ((l,s.1,s.2,(),()),(b,()),()) a)
noncomputable def mL{aa rs:LK}(b:dx×dc->zA aa->da (da ((zD4×dc)×zA rs))):zA aa->MM (zA rs×da MT):=λa l s=>outL l (b ((l,s.1,s.2,(),()),()) a)
def zFx{P:di}{f:Nat}{aa rs:db (SK UU)}{m:zA aa->MM (zA rs)}(h:∀l i xs a o,m a l (i,xs)=some o->∀(st:S) c va d e,VKs CC st [parK] ((l,i,xs,(),()),()) c d->VKs CC st aa a va e->(d++e).Nodup ->
 FnC P f (c++va) (subS st (d++e)) (jQ CC syn [parK] rs c (o.map λy=>(((l,y.2.1,y.2.2,(),()),()),y.1)))):dI CC P syn f (cM aa rs m):=by
 intro x a R g K r b;obtain⟨⟨l,i,xs,u,n⟩,j⟩:=x;replace b:fM m ((l,i,xs,u,n),j) a g K=some r:=b;simp only[fM]at b;cases k:m a l (i,xs)with
 |none=>rw[k]at b;cases b
 |some o=>
  rw[k]at b;refine⟨_,?_,λs c va d e p q t=>h l i xs a o k s c va d e p q t⟩;cases o<;>exact b
def qG{P:di}{f:Nat}{aa rs:LK}{d:zA ([parK]:LK)->zA aa->da (da (zA ([parK]:LK)×zA rs))}(h:dI CC P syn f ⟨[parK],[parK],aa,rs,fnP d⟩):dI CC P syn f (cM aa rs (mM d)):=by
 refine zFx λl i xs a o b st e va j k p q r=>?_;have g:∀c:da (da ((dx×dc)×zA rs)),d ((l,i,xs,(),()),()) a=c->outM l c=some o->FnC P f (e++va) (subS st (j++k)) (jQ CC syn [parK] rs e (o.map λy=>(((l,y.2.1,y.2.2,(),()),()),y.1))):=by
  intro c s b;cases c with
  |none=>cases b
  |some oc=>
   have n:=zBE h ((l,i,xs,(),()),()) a oc s st e va j k p q r;cases oc with
   |none=>injection b with b;subst b;exact n
   |some y=>
    obtain⟨⟨⟨x,A,t,u,B⟩,v⟩,z⟩:=y;unfold outM at b;simp only at b;split at b
    .rename_i w;injection b with b
     subst b;subst w;exact n
    .cases b
 exact g _ rfl b
def zKN{P:di}{f:Nat}{aa rs:LK}{j:zA ([parK,ptsK]:LK)->zA aa->da (da (zA ([parK,ptsK]:LK)×zA rs))}(h:dI CC P syn f ⟨[parK,ptsK],[parK,ptsK],aa,rs,fnP j⟩):dI CC P syn f (cX aa rs (mX j)):=by
 intro x a R d K r b;obtain⟨⟨l,i,xs,u,B⟩,⟨c,v⟩,v'⟩:=x;have k:∀g:da (da ((dx×NdsT×dc)×zA rs)),j ((l,i,xs,(),()),(c,()),()) a=g->(Option.bind (outX l g) λo=>zX o d λy=>K ((l,y.2.1,y.2.2,(),()),(y.1.2,()),()) y.1.1)=some r ->
  ∃oc:da (zA ([parK,ptsK]:LK)×zA rs),(match oc with|none=>d=some r|some y=>K y.1 y.2=some r)/\∀s n va p q,VKs CC s [parK,ptsK] ((l,i,xs,u,B),(c,v),v') n p->VKs CC s aa a va q->(p++q).Nodup->FnC P f (n++va) (subS s (p++q)) (jQ CC syn [parK,ptsK] rs n oc):=by
  intro g C b;cases g with
  |none=>cases b
  |some oc=>
   have A:=zBE h ((l,i,xs,(),()),(c,()),()) a oc C;cases oc with
   |none=>exact⟨none,b,A⟩
   |some y=>
    obtain⟨⟨⟨D,E,t,w,w'⟩,⟨e,I⟩,J⟩,z⟩:=y;unfold outX at b;simp only at b;split at b
    .rename_i F;subst F;exact⟨some (((D,E,t,(),()),(e,()),()),z),b,A⟩
    .cases b
 obtain⟨oc,G,H⟩:=k _ rfl b;exact⟨oc,by cases oc<;>exact G,H⟩
def cL_of{P:di}{f:Nat}{aa rs:LK}{e:zA ([parK]:LK)->zA aa->da (da (zA ([parL]:LK)×zA rs))}(h:dI CC P syn f ⟨[parK],[parL],aa,rs,fnP e⟩):dI CC P syn f (cL aa rs (mL e)):=by
 intro x a R c K r b;obtain⟨⟨l,i,xs,u,v⟩,g⟩:=x;have j:∀d:da (da ((zD4×dc)×zA rs)),e ((l,i,xs,(),()),()) a=d->(Option.bind (outL l d) λo=>zX o c λy=>K ((l,y.2.1,y.2.2,y.1.2,()),()) y.1.1)=some r ->
  ∃oc:da (zA ([parL]:LK)×zA rs),(match oc with|none=>c=some r|some y=>K y.1 y.2=some r)/\∀s k va n p,VKs CC s [parK] ((l,i,xs,u,v),g) k n->VKs CC s aa a va p->(n++p).Nodup->FnC P f (k++va) (subS s (n++p)) (jQ CC syn [parL] rs k oc):=by
  intro d w b;cases d with
  |none=>cases b
  |some oc=>
   have t:=zBE h ((l,i,xs,(),()),()) a oc w;cases oc with
   |none=>exact⟨none,b,t⟩
   |some y=>
    obtain⟨⟨⟨A,B,q,m,w'⟩,F⟩,z⟩:=y;unfold outL at b;simp only at b;split at b
    .rename_i C;subst C;exact⟨some (((A,B,q,m,()),()),z),b,t⟩
    .cases b
 obtain⟨oc,D,E⟩:=j _ rfl b;exact⟨oc,by cases oc<;>exact D,E⟩
def cLj_of{P:di}{f:Nat}{aa rs:LK}{m:zA aa->MM (zA rs×da MT)}(h:dI CC P syn f (cL aa rs m)):dI CC P syn f (cLj aa rs m):=by
 intro x a R d K r F;obtain⟨oc,n,o⟩:=h x a (R:=R) d (λy z=>K ((y.1.1,y.1.2.1,y.1.2.2.1,(),()),()) z) r F;cases oc with
 |none=>exact⟨none,n,o⟩
 |some y=>
  obtain⟨⟨⟨G,H,i,I,w'⟩,J⟩,z⟩:=y;refine⟨some (((G,H,i,(),()),()),z),n,λs L va M N k1 k2 O=>?_⟩;have Q:=o s L va M N k1 k2 O;intro B g w vs hi j S;refine(Q B g w vs hi j S).mono ?_;rintro e w' ⟨g',p,q,t,k⟩;cases e with
  |outgrown=>exact k.elim
  |panicked c=>exact⟨g',p,q,t,k⟩
  |returned v=>
   obtain⟨T,U,V⟩:=k;refine⟨g',p,q,t,T,U,?_⟩;obtain⟨W,p1,u,A,X,C,Y⟩:=V;simp only[VKs,VK]at A;obtain⟨v0,Z,t1,t2,rfl,rfl,⟨D,cs,t3,rfl,e1,e2,rfl⟩,rfl,rfl⟩:=A;obtain⟨v1,w1,a1,a2,rfl,rfl,⟨rfl,rfl⟩,J,w2,a3,a4,rfl,rfl,⟨rfl,rfl⟩,v3,w3,a5,a6,rfl,rfl,⟨b,cap,fp,rfl,e3,rfl⟩,v4,w4,a7,a8,rfl,rfl,E,rfl,rfl⟩:=e2;have l:∃m,v4=.at (.map m):=by
    cases I with
    |none=>exact⟨none,E.1⟩
    |some c=>obtain⟨bm,_,rfl,_⟩:=E;exact⟨some bm,rfl⟩
   refine⟨W,[.inr D,.ob b],u,?_,X,?_,Y⟩
   .simp only[VKs,VK];exact⟨_,[],_,[],rfl,rfl,⟨D,_,[.ob b],rfl,e1,⟨_,_,[],[.ob b],rfl,rfl,⟨rfl,rfl⟩,_,_,[],[.ob b],rfl,rfl,⟨rfl,rfl⟩,_,_,[.ob b],[],rfl,rfl,⟨b,cap,fp,rfl,e3,rfl⟩,_,_,[],[],rfl,rfl,⟨l,rfl⟩,rfl,rfl⟩,rfl⟩,rfl,rfl⟩
   .simp only[zUQ,zUR,zUO]at C ⊢;refine C.sublist ?_;refine List.Sublist.cons_cons _ (List.Sublist.cons_cons _ ?_);exact List.sublist_append_right a7 u
def outN{β:Type}(l:db dw):da (da ((jN×dc)×β))->da (da ((β×da (da MT))×PSt))
 |none=>none
 |some none=>some none
 |some (some y)=>if y.1.1.1=l then some (some ((y.2,y.1.1.2.2.2.1),y.1.1.2.1,y.1.1.2.2.1))else none
noncomputable def mN{aa rs:LK}(b:dx×dc->zA aa->da (da ((jN×dc)×zA rs))):zA aa->MM (zA rs×da (da MT)):=λa l s=>outN l (b ((l,s.1,s.2,(),()),()) a)
def cN_of{P:di}{f:Nat}{aa rs:LK}{e:zA ([parK]:LK)->zA aa->da (da (zA ([parJ]:LK)×zA rs))}(h:dI CC P syn f ⟨[parK],[parJ],aa,rs,fnP e⟩):dI CC P syn f (cN aa rs (mN e)):=by
 intro x a R c K r b;obtain⟨⟨l,i,xs,u,v⟩,g⟩:=x;have j:∀d:da (da ((jN×dc)×zA rs)),e ((l,i,xs,(),()),()) a=d->(Option.bind (outN l d) λo=>zX o c λy=>K ((l,y.2.1,y.2.2,y.1.2,()),()) y.1.1)=some r ->
  ∃oc:da (zA ([parJ]:LK)×zA rs),(match oc with|none=>c=some r|some y=>K y.1 y.2=some r)/\∀s k va n p,VKs CC s [parK] ((l,i,xs,u,v),g) k n->VKs CC s aa a va p->(n++p).Nodup->FnC P f (k++va) (subS s (n++p)) (jQ CC syn [parJ] rs k oc):=by
  intro d w b;cases d with
  |none=>cases b
  |some oc=>
   have t:=zBE h ((l,i,xs,(),()),()) a oc w;cases oc with
   |none=>exact⟨none,b,t⟩
   |some y=>
    obtain⟨⟨⟨A,B,q,m,w'⟩,F⟩,z⟩:=y;unfold outN at b;simp only at b;split at b
    .rename_i C;subst C;exact⟨some (((A,B,q,m,()),()),z),b,t⟩
    .cases b
 obtain⟨oc,D,E⟩:=j _ rfl b;exact⟨oc,by cases oc<;>exact D,E⟩
def cNj_of{P:di}{f:Nat}{aa rs:LK}{m:zA aa->MM (zA rs×da (da MT))}(h:dI CC P syn f (cN aa rs m)):dI CC P syn f (cNj aa rs m):=by
 intro x a R d K r G;obtain⟨oc,p,q⟩:=h x a (R:=R) d (λy z=>K ((y.1.1,y.1.2.1,y.1.2.2.1,(),()),()) z) r G;cases oc with
 |none=>exact⟨none,p,q⟩
 |some y=>
  obtain⟨⟨⟨H,I,i,j,w'⟩,J⟩,z⟩:=y;refine⟨some (((H,I,i,(),()),()),z),p,λs L va M N k1 k2 O=>?_⟩;have Q:=q s L va M N k1 k2 O;intro B g w vs hi k S;refine(Q B g w vs hi k S).mono ?_;rintro e w' ⟨g',t,u,A,l⟩;cases e with
  |outgrown=>exact l.elim
  |panicked c=>exact⟨g',t,u,A,l⟩
  |returned v=>
   obtain⟨T,U,V⟩:=l;refine⟨g',t,u,A,T,U,?_⟩;obtain⟨W,p1,C,D,X,E,Y⟩:=V;simp only[VKs,VK]at D;obtain⟨v0,Z,t1,t2,rfl,rfl,⟨F,cs,t3,rfl,e1,e2,rfl⟩,rfl,rfl⟩:=D;obtain⟨v1,w1,a1,a2,rfl,rfl,⟨rfl,rfl⟩,J,w2,a3,a4,rfl,rfl,⟨rfl,rfl⟩,v3,w3,a5,a6,rfl,rfl,⟨b,cap,fp,rfl,e3,rfl⟩,v4,w4,a7,a8,rfl,rfl,n,rfl,rfl⟩:=e2;have o:∃m,v4=.at (.map m):=by
    cases j with
    |none=>exact n.1
    |some j=>
     cases j with
     |none=>exact⟨none,n.1⟩
     |some c=>obtain⟨bm,_,rfl,_⟩:=n;exact⟨some bm,rfl⟩
   refine⟨W,[.inr F,.ob b],C,?_,X,?_,Y⟩
   .simp only[VKs,VK];exact⟨_,[],_,[],rfl,rfl,⟨F,_,[.ob b],rfl,e1,⟨_,_,[],[.ob b],rfl,rfl,⟨rfl,rfl⟩,_,_,[],[.ob b],rfl,rfl,⟨rfl,rfl⟩,_,_,[.ob b],[],rfl,rfl,⟨b,cap,fp,rfl,e3,rfl⟩,_,_,[],[],rfl,rfl,⟨o,rfl⟩,rfl,rfl⟩,rfl⟩,rfl,rfl⟩
   .simp only[zUQ,zUR,zUO]at E ⊢;refine E.sublist ?_;refine List.Sublist.cons_cons _ (List.Sublist.cons_cons _ ?_);exact List.sublist_append_right a7 C
def outJ{β:Type}(l:db dw):da (da ((jN×dc)×β))->da (da (β×PSt))
 |none=>none
 |some none=>some none
 |some (some y)=>if y.1.1.1=l then some (some (y.2,y.1.1.2.1,y.1.1.2.2.1))else none
noncomputable def mJ{aa rs:LK}(b:jN×dc->zA aa->da (da ((jN×dc)×zA rs))):zA aa->MM (zA rs):=λa l s=>outJ l (b ((l,s.1,s.2,none,()),()) a)
def putJ{β:Type}(m:da (da MT))(o:da (da ((jN×dc)×β))):da (da ((jN×dc)×β)):=o.map λo=>o.map λy=>(((y.1.1.1,y.1.1.2.1,y.1.1.2.2.1,m,()),()),y.2)
section
variable{β γ:Type}(m:da (da MT))
def zPQ:putJ m (none:da (da ((jN×dc)×β)))=none:=rfl
def zQk:putJ m (some none:da (da ((jN×dc)×β)))=some none:=rfl
def zPe(l:db dw)(i:Int)(xs:db MT)(a:da (da MT))(u b:dc)(z:β):putJ m (some (some (((l,i,xs,a,u),b),z)))=some (some (((l,i,xs,m,()),()),z)):=rfl
def zO3(b:dd)(x y:da (da ((jN×dc)×β))):putJ m (cond b x y)=cond b (putJ m x) (putJ m y):=by cases b<;>rfl
def zP0(o:da γ)(f:γ->da (da ((jN×dc)×β))):putJ m (Option.bind o f)=Option.bind o λy=>putJ m (f y):=by cases o<;>rfl
def zOQ(o:da γ)(p:da (da ((jN×dc)×β)))(f:γ->da (da ((jN×dc)×β))):putJ m (zX o p f)=zX o (putJ m p) λy=>putJ m (f y):=by cases o<;>rfl
def zn{R:Type}(p:R)(f:γ->R):zX none p f=p:=rfl
def zo{R:Type}(x:γ)(p:R)(f:γ->R):zX (some x) p f=f x:=rfl
end
def cJ_of{P:di}{f:Nat}{aa rs:LK}{c:zA ([parJ]:LK)->zA aa->da (da (zA ([parJ]:LK)×zA rs))}(h:dI CC P syn f ⟨[parJ],[parJ],aa,rs,fnP c⟩)
 (j:∀l i xs m a,c ((l,i,xs,m,()),()) a=putJ m (c ((l,i,xs,none,()),()) a)):dI CC P syn f (cJ aa rs (mJ c)):=by
 intro x a R d K r b;obtain⟨⟨l,i,xs,m,A⟩,k⟩:=x;have n:∀g:da (da ((jN×dc)×zA rs)),c ((l,i,xs,none,()),()) a=g->(Option.bind (outJ l g) λo=>zX o d λy=>K ((l,y.2.1,y.2.2,m,()),()) y.1)=some r ->
  ∃oc:da (zA ([parJ]:LK)×zA rs),(match oc with|none=>d=some r|some y=>K y.1 y.2=some r)/\∀s p va q t,VKs CC s [parJ] ((l,i,xs,m,A),k) p q->VKs CC s aa a va t->(q++t).Nodup->FnC P f (p++va) (subS s (q++t)) (jQ CC syn [parJ] rs p oc):=by
  intro g B b;have u:=j l i xs m a;rw[B]at u;cases g with
  |none=>cases b
  |some oc=>
   cases oc with
   |none=>exact⟨none,b,zBE h ((l,i,xs,m,()),()) a none u⟩
   |some y=>
    obtain⟨⟨⟨v,w,e,G,w'⟩,H⟩,z⟩:=y;have C:=zBE h ((l,i,xs,m,()),()) a (some (((v,w,e,m,()),()),z)) u;unfold outJ at b;simp only at b;split at b
    .rename_i D;subst D;exact⟨some (((v,w,e,m,()),()),z),b,C⟩
    .cases b
 obtain⟨oc,E,F⟩:=n _ rfl b;exact⟨oc,by cases oc<;>exact E,F⟩
def outD{β:Type}(l:Str):da (da ((RdT×dc)×β))->da (β×Int)
 |some (some y)=>if y.1.1.1=l then some (y.2,y.1.1.2.1)else none
 |_=>none
noncomputable def mD{aa rs:LK}(b:RdT×dc->zA aa->da (da ((RdT×dc)×zA rs))):zA aa->DD (zA rs):=λa l i=>outD l (b ((l,i,()),()) a)
def zFU{P:di}{f:Nat}{aa rs:LK}{d:zA ([rdK]:LK)->zA aa->da (da (zA ([rdK]:LK)×zA rs))}(h:dI CC P syn f ⟨[rdK],[rdK],aa,rs,fnP d⟩):dI CC P syn f (cD aa rs (mD d)):=by
 intro x a R e K r b;obtain⟨⟨l,i,u⟩,o⟩:=x;have g:∀c:da (da ((RdT×dc)×zA rs)),d ((l,i,()),()) a=c->(Option.bind (outD l c) λy=>K ((l,y.2,()),()) y.1)=some r ->
  ∃oc:da (zA ([rdK]:LK)×zA rs),(match oc with|none=>e=some r|some y=>K y.1 y.2=some r)/\∀s j va k n,VKs CC s [rdK] ((l,i,u),o) j k->VKs CC s aa a va n->(k++n).Nodup->FnC P f (j++va) (subS s (k++n)) (jQ CC syn [rdK] rs j oc):=by
  intro c p b;cases c with
  |none=>cases b
  |some oc=>
   have q:=zBE h ((l,i,()),()) a oc p;cases oc with
   |none=>cases b
   |some y=>
    obtain⟨⟨⟨t,v,w⟩,D⟩,z⟩:=y;unfold outD at b;simp only at b;split at b
    .rename_i A;subst A;exact⟨some (((t,v,()),()),z),b,q⟩
    .cases b
 obtain⟨oc,B,C⟩:=g _ rfl b;exact⟨oc,by cases oc<;>exact B,C⟩
end
section
open Go.Al Go.Den
def wO(y:WS):WkT×dc:=((y.1,y.2.1,y.2.2.1,y.2.2.2.1,y.2.2.2.2,(),()),())
def outW{β:Type}:da (da ((WkT×dc)×β))->da (β×WS)
 |some (some y)=>some (y.2,(y.1.1.1,y.1.1.2.1,y.1.1.2.2.1,y.1.1.2.2.2.1,y.1.1.2.2.2.2.1))
 |_=>none
noncomputable def mW{aa rs:LK}(b:WkT×dc->zA aa->da (da ((WkT×dc)×zA rs))):zA aa->WW (zA rs):=λa y=>outW (b (wO y) a)
def zDs{P:di}{f:Nat}{aa rs:LK}{d:zA ([wkK]:LK)->zA aa->da (da (zA ([wkK]:LK)×zA rs))}(h:dI CC P syn f ⟨[wkK],[wkK],aa,rs,fnP d⟩):dI CC P syn f (cW aa rs (mW d)):=by
 intro x a R e K r b;obtain⟨⟨g,i,j,k,l,q,u⟩,t⟩:=x;have m:∀c:da (da ((WkT×dc)×zA rs)),d ((g,i,j,k,l,(),()),()) a=c->(Option.bind (outW c) λy=>K (wO y.2) y.1)=some r ->
  ∃oc:da (zA ([wkK]:LK)×zA rs),(match oc with|none=>e=some r|some y=>K y.1 y.2=some r)/\∀s n va o p,VKs CC s [wkK] ((g,i,j,k,l,q,u),t) n o->VKs CC s aa a va p->(o++p).Nodup->FnC P f (n++va) (subS s (o++p)) (jQ CC syn [wkK] rs n oc):=by
  intro c v b;cases c with
  |none=>cases b
  |some oc=>
   have A:=zBE h ((g,i,j,k,l,(),()),()) a oc v;cases oc with
   |none=>cases b
   |some y=>
    obtain⟨⟨⟨B,C,D,E,F,I,w⟩,J⟩,z⟩:=y;exact⟨some (((B,C,D,E,F,(),()),()),z),b,A⟩
 obtain⟨oc,G,H⟩:=m _ rfl b;exact⟨oc,by cases oc<;>exact G,H⟩
def zKY{β:Type}:da (da ((WkLT×dc)×β))->da ((β×da (da LT1))×WS)
 |some (some y)=>some ((y.2,y.1.1.2.2.2.2.2.1),(y.1.1.1,y.1.1.2.1,y.1.1.2.2.1,y.1.1.2.2.2.1,y.1.1.2.2.2.2.1))
 |_=>none
noncomputable def mWt{aa rs:LK}(b:WkT×dc->zA aa->da (da ((WkLT×dc)×zA rs))):zA aa->WW (zA rs×da (da LT1)):=λa y=>zKY (b (wO y) a)
def zPp{P:di}{f:Nat}{aa rs:LK}{d:zA ([wkK]:LK)->zA aa->da (da (zA ([wkL]:LK)×zA rs))}(h:dI CC P syn f ⟨[wkK],[wkL],aa,rs,fnP d⟩):dI CC P syn f (cWt aa rs (mWt d)):=by
 intro x a R e K r b;obtain⟨⟨g,i,j,k,l,q,u⟩,t⟩:=x;have m:∀c:da (da ((WkLT×dc)×zA rs)),d ((g,i,j,k,l,(),()),()) a=c->(Option.bind (zKY c) λy=>K ((y.2.1,y.2.2.1,y.2.2.2.1,y.2.2.2.2.1,y.2.2.2.2.2,y.1.2,()),()) y.1.1)=some r ->
  ∃oc:da (zA ([wkL]:LK)×zA rs),(match oc with|none=>e=some r|some y=>K y.1 y.2=some r)/\∀s n va o p,VKs CC s [wkK] ((g,i,j,k,l,q,u),t) n o->VKs CC s aa a va p->(o++p).Nodup->FnC P f (n++va) (subS s (o++p)) (jQ CC syn [wkL] rs n oc):=by
  intro c v b;cases c with
  |none=>cases b
  |some oc=>
   have A:=zBE h ((g,i,j,k,l,(),()),()) a oc v;cases oc with
   |none=>cases b
   |some y=>
    obtain⟨⟨⟨B,C,D,E,F,G,w⟩,J⟩,z⟩:=y;exact⟨some (((B,C,D,E,F,G,()),()),z),b,A⟩
 obtain⟨oc,H,I⟩:=m _ rfl b;exact⟨oc,by cases oc<;>exact H,I⟩
def wkL_K{s:S}{n:db dw}{p:db dy}{r:db LT1}{t v:MT}{w:da (da LT1)}{u A:dc}{x:db V}{q:db Res}(h:VKs CC s [wkL] ((n,p,r,t,v,w,u),A) x q) :
 ∃y,VKs CC s [wkK] ((n,p,r,t,v,(),()),()) x y/\y.Sublist q:=by
 simp only[VKs,VK]at h;obtain⟨N,B,O,P,rfl,rfl,⟨z,cs,Q,rfl,C,D,rfl⟩,rfl,rfl⟩:=h;obtain⟨R,T,U,W,rfl,rfl,⟨rfl,rfl⟩,X,Y,Z,a4,rfl,rfl,⟨f,cap,rfl,E,F,rfl⟩,v3,w3,a5,a6,rfl,rfl,⟨e,g,rfl,G,rfl⟩,v4,w4,a7,a8,rfl,rfl,⟨d,i,rfl,H,rfl⟩,v5,w5,a9,I,rfl,rfl,⟨a,j,rfl,J,rfl⟩,K,w6,L,M,rfl,rfl,k,rfl,rfl⟩:=D;have l:∃m:da Nat,K=.at (.pointer (m.map λb=>⟨b,0,none⟩)):=by
  cases w with
  |none=>exact k.1
  |some o=>
   cases o with
   |none=>exact⟨none,k.1⟩
   |some c=>obtain⟨bm,_,rfl,_⟩:=k;exact⟨some bm,rfl⟩
 refine⟨[.inr z,.inr f,.ob e,.ob d,.ob a],?_,?_⟩
 .simp only[VKs,VK];exact⟨_,[],_,[],rfl,rfl,⟨z,_,[.inr f,.ob e,.ob d,.ob a],rfl,C,⟨_,_,[],[.inr f,.ob e,.ob d,.ob a],rfl,rfl,⟨rfl,rfl⟩,_,_,[.inr f],[.ob e,.ob d,.ob a],rfl,rfl,⟨f,cap,rfl,E,F,rfl⟩,_,_,[.ob e],[.ob d,.ob a],rfl,rfl,⟨e,g,rfl,G,rfl⟩,_,_,[.ob d],[.ob a],rfl,rfl,⟨d,i,rfl,H,rfl⟩,_,_,[.ob a],[],rfl,rfl,⟨a,j,rfl,J,rfl⟩,_,[],[],[],rfl,rfl,⟨l,rfl⟩,rfl,rfl⟩,rfl⟩,rfl,rfl⟩
 .simp only[zUQ,zUR,zUO];exact List.Sublist.cons_cons _ (List.Sublist.cons_cons _ (List.Sublist.cons_cons _ (List.Sublist.cons_cons _ (List.Sublist.cons_cons _ (List.nil_sublist _)))))
def zBm{P:di}{f:Nat}{aa rs:LK}{m:zA aa->WW (zA rs×da (da LT1))}(h:dI CC P syn f (cWt aa rs m)):dI CC P syn f (cWj aa rs m):=by
 intro x a R b K r p;obtain⟨oc,j,k⟩:=h x a (R:=R) b (λy z=>K ((y.1.1,y.1.2.1,y.1.2.2.1,y.1.2.2.2.1,y.1.2.2.2.2.1,(),()),()) z) r p;cases oc with
 |none=>exact⟨none,j,k⟩
 |some y=>
  obtain⟨⟨⟨q,t,u,A,C,Y,w'⟩,Z⟩,z⟩:=y;refine⟨some (((q,t,u,A,C,(),()),()),z),j,λs D va E F k1 k2 G=>?_⟩;have H:=k s D va E F k1 k2 G;intro B g w vs hi d I;refine(H B g w vs hi d I).mono ?_;rintro e w' ⟨g',l,n,o,i⟩;cases e with
  |outgrown=>exact i.elim
  |panicked c=>exact⟨g',l,n,o,i⟩
  |returned v=>
   obtain⟨J,L,M⟩:=i;refine⟨g',l,n,o,J,L,?_⟩;obtain⟨N,p1,O,Q,S,T,U⟩:=M;obtain⟨V,W,X⟩:=wkL_K Q;exact⟨N,V,O,W,S,T.sublist (List.Sublist.append X (List.Sublist.refl _)),U⟩
def wO0(y:WS):Wk0T×dc:=((y.1,y.2.1,(),y.2.2.2.1,y.2.2.2.2,(),()),())
def zII{β:Type}:da (da ((Wk0T×dc)×β))->da (β×WS)
 |some (some y)=>some (y.2,(y.1.1.1,y.1.1.2.1,[],y.1.1.2.2.2.1,y.1.1.2.2.2.2.1))
 |_=>none
noncomputable def mW0{aa rs:LK}(b:Wk0T×dc->zA aa->da (da ((Wk0T×dc)×zA rs))):zA aa->WW (zA rs):=λa y=>zII (b (wO0 y) a)
def zPH{P:di}{f:Nat}{aa rs:LK}{d:zA ([wk0]:LK)->zA aa->da (da (zA ([wk0]:LK)×zA rs))}(h:dI CC P syn f ⟨[wk0],[wk0],aa,rs,fnP d⟩):dI CC P syn f (cW0 aa rs (mW0 d)):=by
 intro x a R e K r b;obtain⟨⟨g,i,p,j,k,q,u⟩,t⟩:=x;have l:∀c:da (da ((Wk0T×dc)×zA rs)),d ((g,i,(),j,k,(),()),()) a=c->(Option.bind (zII c) λy=>K (wO0 y.2) y.1)=some r ->
  ∃oc:da (zA ([wk0]:LK)×zA rs),(match oc with|none=>e=some r|some y=>K y.1 y.2=some r)/\∀s m va n o,VKs CC s [wk0] ((g,i,p,j,k,q,u),t) m n->VKs CC s aa a va o->(n++o).Nodup->FnC P f (m++va) (subS s (n++o)) (jQ CC syn [wk0] rs m oc):=by
  intro c v b;cases c with
  |none=>cases b
  |some oc=>
   have A:=zBE h ((g,i,(),j,k,(),()),()) a oc v;cases oc with
   |none=>cases b
   |some y=>
    obtain⟨⟨⟨B,C,H,D,E,I,w⟩,J⟩,z⟩:=y;exact⟨some (((B,C,(),D,E,(),()),()),z),b,A⟩
 obtain⟨oc,F,G⟩:=l _ rfl b;exact⟨oc,by cases oc<;>exact F,G⟩
def sh127(fu:Nat)(x:(WkT×dc))(a:(Int×(Int×(Int×dc)))):(da (da ((WkT×dc)×dc))):=cond (inB a.1 x.1.2.1.length) (cond (Nat.blt a.1.toNat x.1.2.1.length) (cond (eqN x.1.2.1.length (List.length (List.set x.1.2.1 a.1.toNat (BindT.mk a.2.1 (isub .i64 a.2.2.1 1))))) (some (some (((x.1.1,((List.set x.1.2.1 a.1.toNat (BindT.mk a.2.1 (isub .i64 a.2.2.1 1))),(x.1.2.2.1,(x.1.2.2.2.1,(x.1.2.2.2.2.1,((),())))))),()),()))) (none)) (none)) (none)
def eq127:@run127=@sh127:=dO
def sh67(fu:Nat)(c15:(Str×dc)->(da (dd×dc)))(x:(WkT×dc))(a:(Int×dc)):(da (da ((WkT×dc)×(dd×dc)))) :=  let b:=List.getD x.1.1 a.1.toNat tokD;cond (inB a.1 x.1.1.length) (cond (ieq b.kind 1) (cond (inB a.1 x.1.1.length) (Option.bind (c15 (b.text,())) λc=>cE x.1.2.1 (some (some (((wT (wS x.1)),()),((!c.1),()))))) (none)) (cE x.1.2.1 (some (some (((wT (wS x.1)),()),(false,())))))) (none)
def eq67:@run67=@sh67:=dO
def sh45(fu:Nat)(f:(Nd×dc)->WW (Int×dc))(g:(Int×dc)->WW (dd×dc))(x:(WkT×dc))(a:(Nd×dc)):(da (da ((WkT×dc)×(Int×dc)))):=cE x.1.2.1 (iter fu (λ(d:((Int×dc)×(WkT×dc))->da (da ((WkT×dc)×(Int×dc))))(b:((Int×dc)×(WkT×dc)))=>let e:=List.getD (Nd.kids a.1) b.1.1.toNat xC;cond (ilt b.1.1 (lenI (Nd.kids a.1))) (cond (inB b.1.1 (List.length (Nd.kids a.1))) (cond (ieq (Nd.kind e) 10) (cE b.2.1.2.1 (Option.bind (f ((ndE e),()) (wS b.2.1)) λc=>cE c.2.2.1 (some (some (((wT c.2),()),(c.1.1,())))))) (cond (ieq (Nd.kind e) 0) (cE b.2.1.2.1 (Option.bind (g ((Nd.tok e),()) (wS b.2.1)) λc=>cond c.1.1 (cE c.2.2.1 (some (some (((wT c.2),()),((Nd.tok e),()))))) (cE c.2.2.1 (d (((iadd .i64 b.1.1 1),()),((wT c.2),())))))) (cE b.2.1.2.1 (d (((iadd .i64 b.1.1 1),()),((wT (wS b.2.1)),())))))) (none)) (cE b.2.1.2.1 (some (some (((wT (wS b.2.1)),()),((Neg.neg 1),())))))) ((0,()),((wT (wS x.1)),())))
def eq45:@run45=@sh45:=dO
def sh48(fu:Nat)(d:(Nd×dc)->WW (dc×OO))(x:(WkT×dc))(a:(Nd×dc)):(da (da ((WkT×dc)×dc))):=cE x.1.2.1 (iter fu (λ(c:((Int×dc)×(WkT×dc))->da (da ((WkT×dc)×dc)))(b:((Int×dc)×(WkT×dc)))=>cond (ilt b.1.1 (lenI (Nd.kids a.1))) (cond (inB b.1.1 (List.length (Nd.kids a.1))) (cE b.2.1.2.1 (Option.bind (d ((ndE (List.getD (Nd.kids a.1) b.1.1.toNat xC)),()) (wS b.2.1)) λe=>cE e.2.2.1 (c (((iadd .i64 b.1.1 1),()),((wT e.2),()))))) (none)) (cE b.2.1.2.1 (some (some (((wT (wS b.2.1)),()),()))))) ((0,()),((wT (wS x.1)),())))
def eq48:@run48=@sh48:=dO
def sh68(fu:Nat)(c47:dc->WW dc)(n:(Nd×dc)->WW dc)(l:(Nd×dc)->WW (dc×OO))(r:(Nd×dc)->WW dc)(s:(Nd×dc)->WW dc)(o:(Nd×dc)->WW dc)(p:(Nd×dc)->WW dc)(c102:(Int×dc)->WW dc)(j:(Nd×dc)->WW ((Int×dc)×OO))(c104:dc->WW ((MT×MT)×dc))(q:(Nd×dc)->WW dc)(x:(WkT×dc))(a:(Nd×dc)):(da (da ((WkLT×dc)×dc))):=cond (ieq (Nd.kind a.1) 0) (cE x.1.2.1 (some (some (((x.1.1,(x.1.2.1,(x.1.2.2.1,(x.1.2.2.2.1,(x.1.2.2.2.2.1,(none,())))))),()),())))) (cond (ieq (Nd.kind a.1) 2) (cE x.1.2.1 (Option.bind (r ((ndE a.1),()) (wS x.1)) λb=>cE b.2.2.1 (some (some (((b.2.1,(b.2.2.1,(b.2.2.2.1,(b.2.2.2.2.1,(b.2.2.2.2.2,(none,())))))),()),()))))) (cond (ieq (Nd.kind a.1) 4) (cE x.1.2.1 (Option.bind (s ((ndE a.1),()) (wS x.1)) λb=>cE b.2.2.1 (some (some (((b.2.1,(b.2.2.1,(b.2.2.2.1,(b.2.2.2.2.1,(b.2.2.2.2.2,(none,())))))),()),()))))) (zg (λ(c:((dd×dc)×(WkT×(JT×dc)))->da (da ((WkLT×dc)×dc)))=>cond (ieq (Nd.kind a.1) 5) (cE x.1.2.1 (c ((true,()),((wT (wS x.1)),(((Nd.kind a.1),((Nd.tok a.1),((Nd.kids a.1),()))),()))))) (cE x.1.2.1 (c (((ieq (Nd.kind a.1) 6),()),((wT (wS x.1)),(((Nd.kind a.1),((Nd.tok a.1),((Nd.kids a.1),()))),())))))) (λ(d:((dd×dc)×(WkT×(JT×dc))))=>let t:=(d.2.2.1,());let u:=Nd.mk d.2.2.1.1 d.2.2.1.2.1 d.2.2.1.2.2.1;let m:=lenI d.2.2.1.2.2.1;let v:=lenI (cutL d.2.2.1.2.2.1 1 m);let w:=List.length (cutL d.2.2.1.2.2.1 1 m);cond d.1.1 (cE d.2.1.2.1 (Option.bind (o (u,()) (wS d.2.1)) λb=>cE b.2.2.1 (some (some (((b.2.1,(b.2.2.1,(b.2.2.2.1,(b.2.2.2.2.1,(b.2.2.2.2.2,(none,())))))),()),()))))) (cond (ieq (Nd.kind a.1) 7) (cE d.2.1.2.1 (Option.bind (p (u,()) (wS d.2.1)) λb=>cE b.2.2.1 (some (some (((b.2.1,(b.2.2.1,(b.2.2.2.1,(b.2.2.2.2.1,(b.2.2.2.2.2,(none,())))))),()),()))))) (cond (ieq (Nd.kind a.1) 8) (cond (inS 1 m d.2.2.1.2.2.1.length) (cE d.2.1.2.1 (iter fu (λ(i:((Int×dc)×(WkT×(JT×dc)))->da (da ((WkLT×dc)×dc)))(e:((Int×dc)×(WkT×(JT×dc))))=>cond (ilt e.1.1 v) (cond (inB e.1.1 w) (cE e.2.1.2.1 (Option.bind (l ((ndE (List.getD (cutL d.2.2.1.2.2.1 1 m) e.1.1.toNat xC)),()) (wS e.2.1)) λb=>cE b.2.2.1 (i (((iadd .i64 e.1.1 1),()),((wT b.2),(e.2.2.1,())))))) (none)) (cond (inB 0 e.2.2.1.2.2.1.length) (cE e.2.1.2.1 (Option.bind (c102 ((Nd.tok (List.getD e.2.2.1.2.2.1 0 xC)),()) (wS e.2.1)) λb=>cE b.2.2.1 (some (some (((b.2.1,(b.2.2.1,(b.2.2.2.1,(b.2.2.2.2.1,(b.2.2.2.2.2,(none,())))))),()),()))))) (none))) ((0,()),((wT (wS d.2.1)),t)))) (none)) (cond (ieq (Nd.kind a.1) 9) (cond (inB 0 d.2.2.1.2.2.1.length) (cE d.2.1.2.1 (Option.bind (j ((ndE (List.getD d.2.2.1.2.2.1 0 xC)),()) (wS d.2.1)) λb=>cE b.2.2.1 (Option.bind (c102 (b.1.1.1,()) b.2) λh=>cond (inS 1 m d.2.2.1.2.2.1.length) (cE h.2.2.1 (iter fu (λ(i:((Int×dc)×(WkT×dc))->da (da ((WkLT×dc)×dc)))(e:((Int×dc)×(WkT×dc)))=>cond (ilt e.1.1 v) (cond (inB e.1.1 w) (cE e.2.1.2.1 (Option.bind (l ((ndE (List.getD (cutL d.2.2.1.2.2.1 1 m) e.1.1.toNat xC)),()) (wS e.2.1)) λf=>cE f.2.2.1 (i (((iadd .i64 e.1.1 1),()),((wT f.2),()))))) (none)) (cE e.2.1.2.1 (some (some (((e.2.1.1,(e.2.1.2.1,(e.2.1.2.2.1,(e.2.1.2.2.2.1,(e.2.1.2.2.2.2.1,(none,())))))),()),()))))) ((0,()),((wT h.2),())))) (none)))) (none)) (cond (ieq (Nd.kind a.1) 11) (cE d.2.1.2.1 (Option.bind (c47 () (wS d.2.1)) λb=>cE b.2.2.1 (Option.bind (n (u,()) b.2) λh=>cE h.2.2.1 (Option.bind (c104 () h.2) λf=>cE f.2.2.1 (some (some (((f.2.1,(f.2.2.1,(f.2.2.2.1,(f.2.2.2.2.1,(f.2.2.2.2.2,((some (some f.1.1)),())))))),()),()))))))) (zg (λ(c:((dd×dc)×(WkT×(JT×dc)))->da (da ((WkLT×dc)×dc)))=>cond (ieq (Nd.kind a.1) 12) (cE d.2.1.2.1 (c ((true,()),((wT (wS d.2.1)),t)))) (cE d.2.1.2.1 (c (((ieq (Nd.kind a.1) 14),()),((wT (wS d.2.1)),t))))) (λ(g:((dd×dc)×(WkT×(JT×dc))))=>cond g.1.1 (cond (inB 0 g.2.2.1.2.2.1.length) (cE g.2.1.2.1 (Option.bind (l ((ndE (List.getD g.2.2.1.2.2.1 0 xC)),()) (wS g.2.1)) λb=>cond (ilt 1 (lenI g.2.2.1.2.2.1)) (cond (inB 1 g.2.2.1.2.2.1.length) (cE b.2.2.1 (Option.bind (j ((ndE (List.getD g.2.2.1.2.2.1 1 xC)),()) b.2) λh=>cE h.2.2.1 (Option.bind (c102 (h.1.1.1,()) h.2) λf=>cE f.2.2.1 (some (some (((f.2.1,(f.2.2.1,(f.2.2.2.1,(f.2.2.2.2.1,(f.2.2.2.2.2,(none,())))))),()),())))))) (none)) (cE b.2.2.1 (some (some (((b.2.1,(b.2.2.1,(b.2.2.2.1,(b.2.2.2.2.1,(b.2.2.2.2.2,(none,())))))),()),())))))) (none)) (zg (λ(c:((dd×dc)×(WkT×(JT×dc)))->da (da ((WkLT×dc)×dc)))=>cond (ieq (Nd.kind a.1) 20) (cE g.2.1.2.1 (c ((true,()),((wT (wS g.2.1)),(g.2.2.1,()))))) (cE g.2.1.2.1 (c (((ieq (Nd.kind a.1) 25),()),((wT (wS g.2.1)),(g.2.2.1,())))))) (λ(k:((dd×dc)×(WkT×(JT×dc))))=>let y:=Nd.mk k.2.2.1.1 k.2.2.1.2.1 k.2.2.1.2.2.1;cond k.1.1 (cE k.2.1.2.1 (Option.bind (c47 () (wS k.2.1)) λb=>cE b.2.2.1 (Option.bind (n (y,()) b.2) λh=>cE h.2.2.1 (Option.bind (c104 () h.2) λf=>cE f.2.2.1 (some (some (((f.2.1,(f.2.2.1,(f.2.2.2.1,(f.2.2.2.2.1,(f.2.2.2.2.2,(none,())))))),()),()))))))) (cE k.2.1.2.1 (Option.bind (q (y,()) (wS k.2.1)) λb=>cE b.2.2.1 (some (some (((b.2.1,(b.2.2.1,(b.2.2.2.1,(b.2.2.2.2.1,(b.2.2.2.2.2,(none,())))))),()),())))))))))))))))))
def eq68:@run68=@sh68:=dO
def sh99(fu:Nat)(h:(Int×dc)->WW (dd×dc))(e:(Nd×dc)->WW (dc×OO))(c125:(Int×dc)->WW dc)(x:(WkT×dc))(a:(Nd×dc)):(da (da ((WkT×dc)×dc))):=cE x.1.2.1 (iter fu (λ(b:((Int×dc)×(WkT×dc))->da (da ((WkT×dc)×dc)))(c:((Int×dc)×(WkT×dc)))=>let i:=iadd .i64 c.1.1 1;let f:=List.getD (Nd.kids a.1) c.1.1.toNat xC;cond (ilt c.1.1 (lenI (Nd.kids a.1))) (cond (inB c.1.1 (List.length (Nd.kids a.1))) (cond (ieq (Nd.kind f) 0) (cE c.2.1.2.1 (Option.bind (h ((Nd.tok f),()) (wS c.2.1)) λd=>cond d.1.1 (cE d.2.2.1 (Option.bind (c125 ((Nd.tok f),()) d.2) λg=>cE g.2.2.1 (Option.bind (e ((ndE f),()) g.2) λj=>cE j.2.2.1 (b ((i,()),((wT j.2),())))))) (cE d.2.2.1 (Option.bind (e ((ndE f),()) d.2) λg=>cE g.2.2.1 (b ((i,()),((wT g.2),()))))))) (cE c.2.1.2.1 (Option.bind (e ((ndE f),()) (wS c.2.1)) λd=>cE d.2.2.1 (b ((i,()),((wT d.2),())))))) (none)) (cE c.2.1.2.1 (some (some (((wT (wS c.2.1)),()),()))))) ((0,()),((wT (wS x.1)),())))
def eq99:@run99=@sh99:=dO
def sh100(fu:Nat)(b:(Nd×dc)->WW dc)(e:(Int×dc)->WW (dd×dc))(c126:(Int×(dd×dc))->WW dc)(x:(WkT×dc))(a:(Nd×dc)):(da (da ((WkT×dc)×dc))) :=  let f:=Nd.tok (List.getD (Nd.kids a.1) 1 xC);cond (inB 1 (List.length (Nd.kids a.1))) (cE x.1.2.1 (Option.bind (e (f,()) (wS x.1)) λc=>cond c.1.1 (cE c.2.2.1 (Option.bind (c126 (f,((ilt 2 (lenI (Nd.kids a.1))),())) c.2) λd=>cE d.2.2.1 (Option.bind (b ((ndE a.1),()) d.2) λg=>cE g.2.2.1 (some (some (((wT g.2),()),())))))) (cE c.2.2.1 (Option.bind (b ((ndE a.1),()) c.2) λd=>cE d.2.2.1 (some (some (((wT d.2),()),()))))))) (none)
def eq100:@run100=@sh100:=dO
def sh101(fu:Nat)(c46:(Int×dc)->LT->(da (Str×dc)))(g:(Nd×dc)->WW (dc×OO))(e:(Nd×dc)->WW ((Int×dc)×OO))(f:(Int×(Int×(Int×dc)))->WW dc)(x:(WkT×dc))(a:(Nd×dc)):(da (da ((WkT×dc)×dc))):=cE x.1.2.1 (iter fu (λ(d:((Int×dc)×(WkT×dc))->da (da ((WkT×dc)×dc)))(b:((Int×dc)×(WkT×dc)))=>let h:=List.getD (Nd.kids a.1) b.1.1.toNat xC;cond (ilt b.1.1 (lenI (Nd.kids a.1))) (cond (inB b.1.1 (List.length (Nd.kids a.1))) (cond (ine (Nd.kind h) 10) (cE b.2.1.2.1 (Option.bind (g ((ndE h),()) (wS b.2.1)) λc=>cE c.2.2.1 (d (((iadd .i64 b.1.1 1),()),((wT c.2),()))))) (cE b.2.1.2.1 (Option.bind (e ((ndE h),()) (wS b.2.1)) λc=>cE c.2.2.1 (Option.bind (c46 (c.1.1.1,()) c.2.1) λj=>cE c.2.2.1 (Option.bind (f (c.1.1.1,(3,((mpG c.2.2.2.2.1 j.1),()))) c.2) λi=>cE i.2.2.1 (d (((iadd .i64 b.1.1 1),()),((wT i.2),())))))))) (none)) (cE b.2.1.2.1 (some (some (((wT (wS b.2.1)),()),()))))) ((0,()),((wT (wS x.1)),())))
def eq101:@run101=@sh101:=dO
def sh103(fu:Nat)(w:(Int×dc)->WW (dd×dc))(q:(Nd×dc)->WW (dc×OO))(v:(Nd×dc)->WW ((Int×dc)×OO))(x:(WkT×dc))(a:(Nd×dc)):(da (da ((WkLT×dc)×(Int×dc)))):=cE x.1.2.1 (iter fu (λ(b:((Int×(OO×(Int×dc)))×(WkT×(JT×dc)))->da (da ((WkLT×dc)×(Int×dc))))(c:((Int×(OO×(Int×dc)))×(WkT×(JT×dc))))=>let D:=isub .i64 c.1.2.2.1 1;let y:=ilt c.1.2.2.1 (lenI (Nd.kids a.1));let z:=inB c.1.2.2.1 (List.length (Nd.kids a.1));let f:=ilt 0 c.1.2.2.1;let n:=(c.2.2.1,());let p:=List.getD (Nd.kids a.1) c.1.2.2.1.toNat xC;let A:=ieq (Nd.kind p) 0;let B:=ieq (Nd.kind p) 10;let u11:=ieq (Nd.kind p) 11;let i:=inB D c.2.2.1.2.2.1.length;let o:=iadd .i64 c.1.2.2.1 1;let C:=(none,(o,()));let u9:=(c.1.1,C);let F:=List.getD c.2.2.1.2.2.1 (Int.toNat D) xC;let g:=ieq (Nd.kind F) 0;let h:=ieq (Nd.tok F) c.1.1;zX c.1.2.1 (cond y (cond z (cond B (cE c.2.1.2.1 (Option.bind (v ((ndE p),()) (wS c.2.1)) λj=>cE j.2.2.1 (b ((j.1.1.1,C),((wT j.2),n))))) (cond A (cE c.2.1.2.1 (Option.bind (w ((Nd.tok p),()) (wS c.2.1)) λj=>cond j.1.1 (cE j.2.2.1 (b (((Nd.tok p),C),((wT j.2),n)))) (cE j.2.2.1 (Option.bind (q ((ndE p),()) j.2) λd=>let l:=b (u9,((wT d.2),n));zX d.1.2 (cond u11 (cond f (cond i (cond g (cond i (cond h (cE d.2.2.1 l) (cE d.2.2.1 l)) (none)) (cE d.2.2.1 l)) (none)) (cE d.2.2.1 l)) (cE d.2.2.1 l)) λe=>zX e (cond u11 (cond f (cond i (cond g (cond i (cond h (cE d.2.2.1 (b ((c.1.1,((some none),(o,()))),((wT d.2),n)))) (cE d.2.2.1 l)) (none)) (cE d.2.2.1 l)) (none)) (cE d.2.2.1 l)) (cE d.2.2.1 l)) λk=>cond u11 (cond f (cond i (cond g (cond i (cond h (cE d.2.2.1 (b ((c.1.1,((some (some k)),(o,()))),((wT d.2),n)))) (cE d.2.2.1 l)) (none)) (cE d.2.2.1 l)) (none)) (cE d.2.2.1 l)) (cE d.2.2.1 l))))) (cE c.2.1.2.1 (Option.bind (q ((ndE p),()) (wS c.2.1)) λj=>let m:=b (u9,((wT j.2),n));zX j.1.2 (cond u11 (cond f (cond i (cond g (cond i (cond h (cE j.2.2.1 m) (cE j.2.2.1 m)) (none)) (cE j.2.2.1 m)) (none)) (cE j.2.2.1 m)) (cE j.2.2.1 m)) λd=>zX d (cond u11 (cond f (cond i (cond g (cond i (cond h (cE j.2.2.1 (b ((c.1.1,((some none),(o,()))),((wT j.2),n)))) (cE j.2.2.1 m)) (none)) (cE j.2.2.1 m)) (none)) (cE j.2.2.1 m)) (cE j.2.2.1 m)) λe=>cond u11 (cond f (cond i (cond g (cond i (cond h (cE j.2.2.1 (b ((c.1.1,((some (some e)),(o,()))),((wT j.2),n)))) (cE j.2.2.1 m)) (none)) (cE j.2.2.1 m)) (none)) (cE j.2.2.1 m)) (cE j.2.2.1 m))))) (none)) (cE c.2.1.2.1 (some (some (((c.2.1.1,(c.2.1.2.1,(c.2.1.2.2.1,(c.2.1.2.2.2.1,(c.2.1.2.2.2.2.1,(none,())))))),()),(c.1.1,())))))) λj=>zX j (cond y (cond z (cond B (cE c.2.1.2.1 (Option.bind (v ((ndE p),()) (wS c.2.1)) λd=>cE d.2.2.1 (b ((d.1.1.1,((some none),(o,()))),((wT d.2),n))))) (cond A (cE c.2.1.2.1 (Option.bind (w ((Nd.tok p),()) (wS c.2.1)) λd=>cond d.1.1 (cE d.2.2.1 (b (((Nd.tok p),((some none),(o,()))),((wT d.2),n)))) (cE d.2.2.1 (Option.bind (q ((ndE p),()) d.2) λe=>let r:=b ((c.1.1,((some none),(o,()))),((wT e.2),n));zX e.1.2 (cond u11 (cond f (cond i (cond g (cond i (cond h (cE e.2.2.1 (b (u9,((wT e.2),n)))) (cE e.2.2.1 r)) (none)) (cE e.2.2.1 r)) (none)) (cE e.2.2.1 r)) (cE e.2.2.1 r)) λk=>zX k (cond u11 (cond f (cond i (cond g (cond i (cond h (cE e.2.2.1 r) (cE e.2.2.1 r)) (none)) (cE e.2.2.1 r)) (none)) (cE e.2.2.1 r)) (cE e.2.2.1 r)) λE=>cond u11 (cond f (cond i (cond g (cond i (cond h (cE e.2.2.1 (b ((c.1.1,((some (some E)),(o,()))),((wT e.2),n)))) (cE e.2.2.1 r)) (none)) (cE e.2.2.1 r)) (none)) (cE e.2.2.1 r)) (cE e.2.2.1 r))))) (cE c.2.1.2.1 (Option.bind (q ((ndE p),()) (wS c.2.1)) λd=>let s:=b ((c.1.1,((some none),(o,()))),((wT d.2),n));zX d.1.2 (cond u11 (cond f (cond i (cond g (cond i (cond h (cE d.2.2.1 (b (u9,((wT d.2),n)))) (cE d.2.2.1 s)) (none)) (cE d.2.2.1 s)) (none)) (cE d.2.2.1 s)) (cE d.2.2.1 s)) λe=>zX e (cond u11 (cond f (cond i (cond g (cond i (cond h (cE d.2.2.1 s) (cE d.2.2.1 s)) (none)) (cE d.2.2.1 s)) (none)) (cE d.2.2.1 s)) (cE d.2.2.1 s)) λk=>cond u11 (cond f (cond i (cond g (cond i (cond h (cE d.2.2.1 (b ((c.1.1,((some (some k)),(o,()))),((wT d.2),n)))) (cE d.2.2.1 s)) (none)) (cE d.2.2.1 s)) (none)) (cE d.2.2.1 s)) (cE d.2.2.1 s))))) (none)) (cE c.2.1.2.1 (some (some (((c.2.1.1,(c.2.1.2.1,(c.2.1.2.2.1,(c.2.1.2.2.2.1,(c.2.1.2.2.2.2.1,((some none),())))))),()),(c.1.1,())))))) λd=>cond y (cond z (cond B (cE c.2.1.2.1 (Option.bind (v ((ndE p),()) (wS c.2.1)) λe=>cE e.2.2.1 (b ((e.1.1.1,((some (some d)),(o,()))),((wT e.2),n))))) (cond A (cE c.2.1.2.1 (Option.bind (w ((Nd.tok p),()) (wS c.2.1)) λe=>cond e.1.1 (cE e.2.2.1 (b (((Nd.tok p),((some (some d)),(o,()))),((wT e.2),n)))) (cE e.2.2.1 (Option.bind (q ((ndE p),()) e.2) λk=>let t:=b ((c.1.1,((some (some d)),(o,()))),((wT k.2),n));zX k.1.2 (cond u11 (cond f (cond i (cond g (cond i (cond h (cE k.2.2.1 (b (u9,((wT k.2),n)))) (cE k.2.2.1 t)) (none)) (cE k.2.2.1 t)) (none)) (cE k.2.2.1 t)) (cE k.2.2.1 t)) λE=>zX E (cond u11 (cond f (cond i (cond g (cond i (cond h (cE k.2.2.1 (b ((c.1.1,((some none),(o,()))),((wT k.2),n)))) (cE k.2.2.1 t)) (none)) (cE k.2.2.1 t)) (none)) (cE k.2.2.1 t)) (cE k.2.2.1 t)) λG=>cond u11 (cond f (cond i (cond g (cond i (cond h (cE k.2.2.1 (b ((c.1.1,((some (some G)),(o,()))),((wT k.2),n)))) (cE k.2.2.1 t)) (none)) (cE k.2.2.1 t)) (none)) (cE k.2.2.1 t)) (cE k.2.2.1 t))))) (cE c.2.1.2.1 (Option.bind (q ((ndE p),()) (wS c.2.1)) λe=>let u:=b ((c.1.1,((some (some d)),(o,()))),((wT e.2),n));zX e.1.2 (cond u11 (cond f (cond i (cond g (cond i (cond h (cE e.2.2.1 (b (u9,((wT e.2),n)))) (cE e.2.2.1 u)) (none)) (cE e.2.2.1 u)) (none)) (cE e.2.2.1 u)) (cE e.2.2.1 u)) λk=>zX k (cond u11 (cond f (cond i (cond g (cond i (cond h (cE e.2.2.1 (b ((c.1.1,((some none),(o,()))),((wT e.2),n)))) (cE e.2.2.1 u)) (none)) (cE e.2.2.1 u)) (none)) (cE e.2.2.1 u)) (cE e.2.2.1 u)) λE=>cond u11 (cond f (cond i (cond g (cond i (cond h (cE e.2.2.1 (b ((c.1.1,((some (some E)),(o,()))),((wT e.2),n)))) (cE e.2.2.1 u)) (none)) (cE e.2.2.1 u)) (none)) (cE e.2.2.1 u)) (cE e.2.2.1 u))))) (none)) (cE c.2.1.2.1 (some (some (((c.2.1.1,(c.2.1.2.1,(c.2.1.2.2.1,(c.2.1.2.2.2.1,(c.2.1.2.2.2.2.1,((some (some d)),())))))),()),(c.1.1,())))))) (((Neg.neg 1),((some none),(0,()))),((wT (wS x.1)),(((Nd.kind a.1),((Nd.tok a.1),((Nd.kids a.1),()))),()))))
def eq103:@run103=@sh103:=dO
def sh105(fu:Nat)(c46:(Int×dc)->LT->(da (Str×dc)))(i:(Nd×dc)->WW dc)(f:(Nd×dc)->WW (dc×OO))(c125:(Int×dc)->WW dc)(b:(Int×(Int×(Int×dc)))->WW dc)(x:(WkT×dc))(a:(Nd×dc)):(da (da ((WkT×dc)×dc))) :=  let k:=Nd.tok (List.getD (Nd.kids a.1) 1 xC);let j:=List.getD (Nd.kids a.1) 2 xC;let h:=List.getD (Nd.kids a.1) 0 xC;let d:=List.length (Nd.kids a.1);cond (ieq (Nd.kind a.1) 40) (cond (inB 0 d) (cE x.1.2.1 (Option.bind (c125 ((Nd.tok h),()) (wS x.1)) λc=>cE c.2.2.1 (some (some (((wT c.2),()),()))))) (none)) (cond (ieq (Nd.kind a.1) 46) (cond (inB 2 d) (cE x.1.2.1 (Option.bind (c46 ((Nd.tok j),()) x.1.1) λc=>cE x.1.2.1 (Option.bind (b ((Nd.tok j),(3,((mpG x.1.2.2.2.1 c.1),()))) (wS x.1)) λe=>cond (inB 0 d) (cE e.2.2.1 (Option.bind (f ((ndE h),()) e.2) λg=>cE g.2.2.1 (some (some (((wT g.2),()),()))))) (none)))) (none)) (cond (ieq (Nd.kind a.1) 29) (cond (inB 0 d) (cond (inB 0 d) (cE x.1.2.1 (Option.bind (c46 ((Nd.tok h),()) x.1.1) λc=>cE x.1.2.1 (Option.bind (b ((Nd.tok h),(4,((mpG x.1.2.2.2.2.1 c.1),()))) (wS x.1)) λe=>cond (inB 2 d) (cE e.2.2.1 (Option.bind (f ((ndE j),()) e.2) λg=>cE g.2.2.1 (some (some (((wT g.2),()),()))))) (none)))) (none)) (none)) (cond (ieq (Nd.kind a.1) 28) (cond (inB 1 d) (cond (inB 1 d) (cE x.1.2.1 (Option.bind (c46 (k,()) x.1.1) λc=>cE x.1.2.1 (Option.bind (b (k,(4,((mpG x.1.2.2.2.2.1 c.1),()))) (wS x.1)) λe=>cE e.2.2.1 (some (some (((wT e.2),()),())))))) (none)) (none)) (cE x.1.2.1 (Option.bind (i ((ndE a.1),()) (wS x.1)) λc=>cE c.2.2.1 (some (some (((wT c.2),()),()))))))))
def eq105:@run105=@sh105:=dO
def con127(fu:Nat) :CQ 127 (cW ([.int .i64,.int .i64,.int .i64]:LK) k0 (mW (sh127 fu))):=
 zDs (rpk zC zC zC zC zST rfl (λx a=>by rw[<-eq127];rfl))
def con67(fu:Nat)(c15:zj as15->da (zj rs15))(b:CoX 15 ⟨as15,rs15,c15⟩):CQ 67 (cW kI kB (mW (sh67 fu c15))):=
 zDs (rpk zC (zD (OrcOk.of ⟨dO,b⟩ rfl) zC) zC zC fdok67 rfl (λx a=>by rw[<-eq67];rfl))
def con45(fu:Nat)(b:zA kN->WW (zA kI))(d:CQ 45 (cW kN kI b))(c:zA kI->WW (zA kB))(e:CQ 67 (cW kI kB c)):CQ 45 (cW kN kI (mW (sh45 fu b c))):=
 zDs (rpk zC zC zC (zD ⟨dO,d⟩ (zD ⟨dO,e⟩ zC)) fdok45 rfl (λx a=>by rw[<-eq45];rfl))
def con48(fu:Nat)(b:zA kN->WW (zA k0×da (da LT1)))(c:CQ 68 (cWj kN k0 b)):CQ 48 (cW kN k0 (mW (sh48 fu b))):=
 zDs (rpk zC zC zC (zD ⟨dO,c⟩ zC) fdok48 rfl (λx a=>by rw[<-eq48];rfl))
def con68(fu:Nat)(c47:zA k0->WW (zA k0))(p:CQ 47 (cW k0 k0 c47))(f:zA kN->WW (zA k0))(q:CQ 48 (cW kN k0 f))(g:zA kN->WW (zA k0×da (da LT1)))(r:CQ 68 (cWj kN k0 g))(h:zA kN->WW (zA k0))(s:CQ 98 (cW kN k0 h))(i:zA kN->WW (zA k0))(t:CQ 99 (cW kN k0 i))(b:zA kN->WW (zA k0))(j:CQ 100 (cW kN k0 b))(c:zA kN->WW (zA k0))(k:CQ 101 (cW kN k0 c))(c102:zA kI->WW (zA k0))(l:CQ 102 (cW kI k0 c102))(d:zA kN->WW (zA kI×da (da LT1)))(m:CQ 103 (cWj kN kI d))(c104:zA k0->WW (zA ([.lv1]:LK)))(n:CQ 104 (cW k0 ([.lv1]:LK) c104))(e:zA kN->WW (zA k0))(o:CQ 105 (cW kN k0 e)):CQ 68 (cWt kN k0 (mWt (sh68 fu c47 f g h i b c c102 d c104 e))):=
 zPp (rpk zC zC zC (zD ⟨dO,p⟩ (zD ⟨dO,q⟩ (zD ⟨dO,r⟩ (zD ⟨dO,s⟩ (zD ⟨dO,t⟩ (zD ⟨dO,j⟩ (zD ⟨dO,k⟩ (zD ⟨dO,l⟩ (zD ⟨dO,m⟩ (zD ⟨dO,n⟩ (zD ⟨dO,o⟩ zC))))))))))) fdok68 rfl (λx a=>by rw[<-eq68];rfl))
def con99(fu:Nat)(b:zA kI->WW (zA kB))(e:CQ 67 (cW kI kB b))(c:zA kN->WW (zA k0×da (da LT1)))(f:CQ 68 (cWj kN k0 c))(c125:zA kI->WW (zA k0))(d:CQ 125 (cW kI k0 c125)):CQ 99 (cW kN k0 (mW (sh99 fu b c c125))):=
 zDs (rpk zC zC zC (zD ⟨dO,e⟩ (zD ⟨dO,f⟩ (zD ⟨dO,d⟩ zC))) fdok99 rfl (λx a=>by rw[<-eq99];rfl))
def con100(fu:Nat)(b:zA kN->WW (zA k0))(e:CQ 48 (cW kN k0 b))(c:zA kI->WW (zA kB))(f:CQ 67 (cW kI kB c))(c126:zA ([.int .i64,.bool]:LK)->WW (zA k0))(d:CQ 126 (cW ([.int .i64,.bool]:LK) k0 c126)):CQ 100 (cW kN k0 (mW (sh100 fu b c c126))):=
 zDs (rpk zC zC zC (zD ⟨dO,e⟩ (zD ⟨dO,f⟩ (zD ⟨dO,d⟩ zC))) zT2 rfl (λx a=>by rw[<-eq100];rfl))
def con101(fu:Nat)(c46:zA kI->db dw->da (zA kS))(g:CrX 46 (cRW kI kS c46))(d:zA kN->WW (zA k0×da (da LT1)))(h:CQ 68 (cWj kN k0 d))(b:zA kN->WW (zA kI×da (da LT1)))(e:CQ 103 (cWj kN kI b))(c:zA ([.int .i64,.int .i64,.int .i64]:LK)->WW (zA k0))(f:CQ 127 (cW ([.int .i64,.int .i64,.int .i64]:LK) k0 c)):CQ 101 (cW kN k0 (mW (sh101 fu c46 d b c))):=
 zDs (rpk zC zC (zD ⟨dO,g⟩ zC) (zD ⟨dO,h⟩ (zD ⟨dO,e⟩ (zD ⟨dO,f⟩ zC))) zTX rfl (λx a=>by rw[<-eq101];rfl))
def con103(fu:Nat)(c:zA kI->WW (zA kB))(f:CQ 67 (cW kI kB c))(d:zA kN->WW (zA k0×da (da LT1)))(g:CQ 68 (cWt kN k0 d))(b:zA kN->WW (zA kI×da (da LT1)))(e:CQ 103 (cWj kN kI b)):CQ 103 (cWt kN kI (mWt (sh103 fu c d b))):=
 zPp (rpk zC zC zC (zD ⟨dO,f⟩ (zD ⟨dO,g⟩ (zD ⟨dO,e⟩ zC))) zSh rfl (λx a=>by rw[<-eq103];rfl))
def con105(fu:Nat)(c46:zA kI->db dw->da (zA kS))(g:CrX 46 (cRW kI kS c46))(c:zA kN->WW (zA k0))(h:CQ 48 (cW kN k0 c))(d:zA kN->WW (zA k0×da (da LT1)))(i:CQ 68 (cWj kN k0 d))(c125:zA kI->WW (zA k0))(e:CQ 125 (cW kI k0 c125))(b:zA ([.int .i64,.int .i64,.int .i64]:LK)->WW (zA k0))(f:CQ 127 (cW ([.int .i64,.int .i64,.int .i64]:LK) k0 b)):CQ 105 (cW kN k0 (mW (sh105 fu c46 c d c125 b))):=
 zDs (rpk zC zC (zD ⟨dO,g⟩ zC) (zD ⟨dO,h⟩ (zD ⟨dO,i⟩ (zD ⟨dO,e⟩ (zD ⟨dO,f⟩ zC)))) zSF rfl (λx a=>by rw[<-eq105];rfl))
abbrev zGc:db (AK UU):=[.str]
abbrev zFB:db (AK UU):=[.int .i64]
def kf36:Nat->db Nat
 |0=>[]
 |_=>[]
noncomputable def fd36:FD UU:=mkfd kf36 [] [] [] Tryz.f36 13 []
def kf37:Nat->db Nat
 |0=>[0,1,4]
 |1=>[0,1,4,5]
 |2=>[0,1,4,5,6,7]
 |3=>[0,1,4,5,7]
 |4=>[0,1,4,5,7,22]
 |5=>[0,4]
 |6=>[0,1,4,5,7,8,9,10]
 |7=>[0,4,5,7,8,9,47]
 |8=>[0,4,5,7]
 |9=>[0,4]
 |10=>[0,4,5,8,9,11]
 |11=>[0,4,5,8,11]
 |12=>[0,4,5,8]
 |13=>[0,4,5]
 |14=>[0,4,5]
 |15=>[0,4]
 |_=>[]
noncomputable def fd37:FD UU:=mkfd kf37 [] [] [(13,[(71,8,8)])] Tryz.f37 77 [.cell 4 29]
def kf41:Nat->db Nat
 |0=>[0,1,4]
 |1=>[4]
 |_=>[]
noncomputable def fd41:FD UU:=mkfd kf41 [] [] [] Tryz.f41 8 [.cell 4 29]
def kf53:Nat->db Nat
 |0=>[0,2,3]
 |1=>[0,2,3,4]
 |2=>[0,2,3,4,5,6]
 |3=>[0,2,3,4,5,6,7]
 |4=>[0,2,3,4,5,6,7,10]
 |5=>[0,2,3,4,5,6]
 |6=>[0,2,3,4,5,6]
 |7=>[0,2,3,4,5,6,7,23]
 |8=>[0,2,3,4,5,6]
 |9=>[0,2,3,4,5,6]
 |10=>[0,2,3,4,5,7,35]
 |11=>[0,2,3,4,5,7,40]
 |12=>[0,2,3,4,5]
 |13=>[0,2,3,4,5,6]
 |14=>[0,2,3,4,5,51]
 |15=>[0,2,3,4,5]
 |16=>[0,2,3,4,5,6]
 |17=>[0,2,3,4,5,58]
 |18=>[0,2,3,4,5]
 |19=>[0,2,3,4,5,6]
 |20=>[0,2,3,4]
 |21=>[0,2,3]
 |_=>[]
def hd53:db (Nat×Head UU):=[(3,⟨[0,2,4],[(3,.bool),(5,.bool),(6,.bool)],[(0,parK),(2,.box [.int .i64,.int .i64,.dl TI.node]),(4,ptsK)]⟩)]
def jn53:db (Nat×Head UU):=[(20,⟨[0,2,4],[(3,.bool)],[(0,parK),(2,.box [.int .i64,.int .i64,.dl TI.node]),(4,ptsK)]⟩)]
noncomputable def fd53:FD UU:=mkfd kf53 hd53 jn53 [] Tryz.f53 72 [.cell 2 29,.tmp 3]
def kf55:Nat->db Nat
 |0=>[0,2,4,6]
 |1=>[0,2,4,6,12]
 |2=>[0,2,4,6]
 |3=>[0,2,4,6,7,8]
 |4=>[0,2,4,6]
 |5=>[0,4,6]
 |6=>[0,6]
 |_=>[]
def hd55:db (Nat×Head UU):=[(1,⟨[0,2,4,6],[],[(0,parK),(4,ptsK),(6,.box [.int .i64,.int .i64,.dl TI.node])]⟩)]
noncomputable def fd55:FD UU:=mkfd kf55 hd55 [] [] Tryz.f55 35 [.cell 6 29]
def kf56:Nat->db Nat
 |0=>[0,2,4]
 |1=>[0,2,4,5]
 |2=>[0,2,4,5]
 |3=>[0,2,4,5,14]
 |4=>[0,2,3,4,5]
 |5=>[0,2,3,4,5]
 |6=>[0,2,3,4,5,6]
 |7=>[0,2,3,4,5,6,23]
 |8=>[0,2,3,5]
 |9=>[0,2,3,4,5,6]
 |10=>[0,2,3,4,5,6]
 |11=>[0,2,3,4,5]
 |12=>[0,2,3,4]
 |13=>[0,2,5]
 |14=>[0,2,3,5,7]
 |15=>[0,2,3,5]
 |16=>[0,2,3,5]
 |17=>[0,2,3,4]
 |_=>[]
def jn56:db (Nat×Head UU):=[(10,⟨[0,2,3,5],[(4,.bool),(6,.mpo)],[(0,parK),(2,.box [.int .i64,.int .i64,.dl TI.node]),(5,ptsK)]⟩)]
noncomputable def fd56:FD UU:=mkfd kf56 [] jn56 [(15,[(53,7,7)])] Tryz.f56 60 [.cell 2 29,.tmp 3,.tmp 4]
def kf57:Nat->db Nat
 |0=>[0,2,3,5,8]
 |1=>[0,2,3,5,8,9]
 |2=>[0,2,3,8,9]
 |3=>[0,8,9]
 |4=>[0,8,9,19]
 |5=>[0,8,9]
 |6=>[0,8]
 |_=>[]
noncomputable def fd57:FD UU:=mkfd kf57 [] [] [] Tryz.f57 27 [.cell 8 29]
def kf60:Nat->db Nat
 |0=>[0,2]
 |1=>[0,2,3]
 |2=>[0,2,3]
 |3=>[0,2,3,11]
 |4=>[0,2,3,23]
 |5=>[0,2,3]
 |6=>[0,2,3]
 |7=>[0,2,3]
 |8=>[0,2]
 |_=>[]
def hd60:db (Nat×Head UU):=[(3,⟨[0,2,3],[],[(0,parK),(2,.box [.int .i64,.int .i64,.dl TI.node]),(3,ptsK)]⟩)]
noncomputable def fd60:FD UU:=mkfd kf60 hd60 [] [] Tryz.f60 37 [.cell 2 29]
def kf74:Nat->db Nat
 |0=>[0,2]
 |1=>[0,2,3]
 |2=>[0,2,3]
 |3=>[0,2,3]
 |4=>[0,2,3,17]
 |5=>[0,2,3]
 |6=>[0,2,3,25]
 |7=>[0,2]
 |8=>[0,2,3]
 |9=>[0,2,3,34]
 |10=>[0,2,3]
 |11=>[0,2,3]
 |12=>[0,2]
 |_=>[]
def hd74:db (Nat×Head UU):=[(9,⟨[0,2,3],[],[(0,parK),(2,.box [.int .i64,.int .i64,.dl TI.node]),(3,ptsK)]⟩)]
def jn74:db (Nat×Head UU):=[(6,⟨[0,2,3],[],[(0,parK),(2,.box [.int .i64,.int .i64,.dl TI.node]),(3,ptsK)]⟩)]
noncomputable def fd74:FD UU:=mkfd kf74 hd74 jn74 [] Tryz.f74 44 [.cell 2 29]
def kf75:Nat->db Nat
 |0=>[0,2]
 |1=>[0,2,3]
 |2=>[0,2,3]
 |3=>[0,2,3]
 |4=>[0,2,3,17]
 |5=>[0,2,3]
 |6=>[0,2,3,25]
 |7=>[0,2]
 |8=>[0,2,3]
 |9=>[0,2,3]
 |10=>[0,2,3,37]
 |11=>[0,2,3]
 |12=>[0,2,3,45]
 |13=>[0,2,3]
 |14=>[0,2]
 |_=>[]
def hd75:db (Nat×Head UU):=[(9,⟨[0,2,3],[],[(0,parK),(2,.box [.int .i64,.int .i64,.dl TI.node]),(3,ptsK)]⟩)]
def jn75:db (Nat×Head UU):=[(13,⟨[0,2,3],[],[(0,parK),(2,.box [.int .i64,.int .i64,.dl TI.node]),(3,ptsK)]⟩),(6,⟨[0,2,3],[],[(0,parK),(2,.box [.int .i64,.int .i64,.dl TI.node]),(3,ptsK)]⟩)]
noncomputable def fd75:FD UU:=mkfd kf75 hd75 jn75 [] Tryz.f75 51 [.cell 2 29]
def kf79:Nat->db Nat
 |0=>[0,1,6]
 |1=>[0,1]
 |2=>[0,1,14]
 |3=>[0,1]
 |_=>[]
def hd79:db (Nat×Head UU):=[(0,⟨[0,1],[],[(0,parK),(1,ptsK)]⟩),(2,⟨[0,1],[],[(0,parK),(1,ptsK)]⟩)]
noncomputable def fd79:FD UU:=mkfd kf79 hd79 [] [] Tryz.f79 20 []
def kf81:Nat->db Nat
 |0=>[0,2]
 |1=>[0,2,3]
 |2=>[0,2,3]
 |3=>[0,2,3]
 |4=>[0,2,3,4]
 |5=>[0,2,3,16]
 |6=>[0,2,3,4]
 |7=>[0,2,3,23]
 |8=>[0,2,3]
 |9=>[0,2,3,30]
 |10=>[0,2,3]
 |11=>[0,2,3]
 |12=>[0,2,3]
 |13=>[0,2,3]
 |14=>[0,2]
 |_=>[]
def hd81:db (Nat×Head UU):=[(5,⟨[0,2,3],[(4,.bool)],[(0,parK),(2,.box [.int .i64,.int .i64,.dl TI.node]),(3,ptsK)]⟩)]
noncomputable def fd81:FD UU:=mkfd kf81 hd81 [] [] Tryz.f81 49 [.cell 2 29]
def kf82:Nat->db Nat
 |0=>[0,1,6]
 |1=>[0,1,9]
 |2=>[0,1]
 |3=>[0,1]
 |4=>[0,1,23]
 |5=>[0,1]
 |6=>[0,1]
 |_=>[]
def hd82:db (Nat×Head UU):=[(0,⟨[0,1],[],[(0,parK),(1,ptsK)]⟩)]
noncomputable def fd82:FD UU:=mkfd kf82 hd82 [] [] Tryz.f82 34 []
def kf83:Nat->db Nat
 |0=>[0,2]
 |1=>[0,2,7]
 |2=>[0,2]
 |3=>[0,2,3]
 |4=>[0,2,3]
 |5=>[0,2,3,17]
 |6=>[0,2,3]
 |7=>[0,2,3,25]
 |8=>[0,2,3]
 |9=>[0,2,3]
 |10=>[0,2]
 |_=>[]
def hd83:db (Nat×Head UU):=[(5,⟨[0,2,3],[],[(0,parK),(2,.box [.int .i64,.int .i64,.dl TI.node]),(3,ptsK)]⟩)]
noncomputable def fd83:FD UU:=mkfd kf83 hd83 [] [] Tryz.f83 35 [.cell 2 29]
def kf86:Nat->db Nat
 |0=>[0,2]
 |1=>[0,2,3]
 |2=>[0,2,3,4]
 |3=>[0,2,3,4,8]
 |4=>[0,2]
 |5=>[0,2,5]
 |6=>[0,2,5]
 |7=>[0,2]
 |8=>[0,2,3,4,19]
 |9=>[0,2,3]
 |10=>[0,2]
 |11=>[0,2,3,4,27]
 |12=>[0,2,3]
 |13=>[0,2]
 |14=>[0,2,3,4,44]
 |15=>[0,2,3]
 |16=>[0,2]
 |17=>[0,2,3,4]
 |18=>[0,2,3,4,67]
 |19=>[0,2,3,4,67,68]
 |20=>[0,2,3]
 |21=>[0,2]
 |22=>[0,2,3,4,67,79]
 |23=>[0,2,3]
 |24=>[0,2]
 |25=>[0,2,3,4,67,88]
 |26=>[0,2,3]
 |27=>[0,2,3]
 |28=>[0,2,3,98]
 |29=>[0,2,3]
 |30=>[0,2]
 |31=>[0,2,3,4,67,106]
 |32=>[0,2,3,4,67,106]
 |33=>[0,2,3,4]
 |34=>[0,2,3,4]
 |35=>[0,2,3,116]
 |36=>[0,2]
 |37=>[0,2]
 |38=>[0,2,3,4,67,119]
 |39=>[0,2,3]
 |40=>[0,2,3]
 |41=>[0,2,3]
 |42=>[0,2]
 |43=>[0,2,3,4,67,134]
 |44=>[0,2]
 |45=>[0,2,3,4,67,139]
 |46=>[0,2,3]
 |47=>[0,2]
 |48=>[0,2,3,4,67,144]
 |49=>[0,2,3,4,144]
 |50=>[0,2,3]
 |51=>[0,2]
 |52=>[0,2,3]
 |53=>[0,2,3]
 |54=>[0,2]
 |_=>[]
def jn86:db (Nat×Head UU):=[(50,⟨[0,2,3,4],[(144,.bool)],[(0,parK),(2,.box [.int .i64,.int .i64,.dl TI.node]),(3,ptsK)]⟩),(33,⟨[0,2,3,4,67],[(106,.bool)],[(0,parK),(2,.box [.int .i64,.int .i64,.dl TI.node]),(3,ptsK)]⟩),(52,⟨[0,2,3,4],[],[(0,parK),(2,.box [.int .i64,.int .i64,.dl TI.node]),(3,ptsK)]⟩)]
noncomputable def fd86:FD UU:=mkfd kf86 [] jn86 [] Tryz.f86 162 [.cell 2 29]
def kf107:Nat->db Nat
 |0=>[0,2]
 |1=>[0,2,3]
 |2=>[0,2,3,4]
 |3=>[0,2,3]
 |4=>[0,2,3,6]
 |5=>[0,2,3,22]
 |6=>[0,2,3,6]
 |7=>[0,2,3,29]
 |8=>[0,2,3]
 |9=>[0,2,3,7]
 |10=>[0,2,3]
 |11=>[0,2,3]
 |12=>[0,2]
 |_=>[]
def hd107:db (Nat×Head UU):=[(5,⟨[0,2,3],[(6,.bool)],[(0,parK),(2,.box [.int .i64,.int .i64,.dl TI.node]),(3,ptsK)]⟩)]
def jn107:db (Nat×Head UU):=[(9,⟨[0,2,3],[],[(0,parK),(2,.box [.int .i64,.int .i64,.dl TI.node]),(3,ptsK)]⟩)]
noncomputable def fd107:FD UU:=mkfd kf107 hd107 jn107 [] Tryz.f107 48 [.cell 2 29]
def kf108:Nat->db Nat
 |0=>[0,2]
 |1=>[0,2,3]
 |2=>[0,2,3,4]
 |3=>[0,2,3,4]
 |4=>[0,2,3,4,13]
 |5=>[0,2,3,4]
 |6=>[0,2,3]
 |7=>[0,2]
 |_=>[]
noncomputable def fd108:FD UU:=mkfd kf108 [] [] [] Tryz.f108 24 [.cell 2 29]
def kf110:Nat->db Nat
 |0=>[0,2]
 |1=>[0,2,3]
 |2=>[0,2,3,4,5]
 |3=>[0,2,3,5]
 |4=>[0,2,3,5,6,7,8]
 |5=>[0,2,3,5,6,7,23]
 |6=>[0,2,3,5,7]
 |7=>[0,2,3]
 |8=>[0,2]
 |_=>[]
def jn110:db (Nat×Head UU):=[(7,⟨[0,2,3,5,7],[],[(0,parK),(2,.box [.int .i64,.int .i64,.dl TI.node]),(3,ptsK)]⟩)]
noncomputable def fd110:FD UU:=mkfd kf110 [] jn110 [] Tryz.f110 32 [.cell 2 29]
def kf111:Nat->db Nat
 |0=>[0,2]
 |1=>[0,2,3]
 |2=>[0,2,3,10]
 |3=>[0,2]
 |4=>[0,2,3,4]
 |5=>[0,2]
 |_=>[]
noncomputable def fd111:FD UU:=mkfd kf111 [] [] [(5,[(17,3,3),(17,4,4)])] Tryz.f111 20 [.cell 2 29]
def kf113:Nat->db Nat
 |0=>[0,2]
 |1=>[0,2,3]
 |2=>[0,2,3,10]
 |3=>[0,2]
 |4=>[0,2,3,4]
 |5=>[0,2]
 |_=>[]
noncomputable def fd113:FD UU:=mkfd kf113 [] [] [(5,[(17,3,3),(17,4,4)])] Tryz.f113 20 [.cell 2 29]
def kf114:Nat->db Nat
 |0=>[0,2]
 |1=>[0,2,3]
 |2=>[0,2,3,10]
 |3=>[0,2]
 |4=>[0,2,3,4]
 |5=>[0,2,4]
 |6=>[0,2]
 |_=>[]
noncomputable def fd114:FD UU:=mkfd kf114 [] [] [(5,[(14,3,3),(16,3,3),(18,3,3),(20,3,3)])] Tryz.f114 24 [.cell 2 29]
def kf115:Nat->db Nat
 |0=>[0,1]
 |_=>[]
noncomputable def fd115:FD UU:=mkfd kf115 [] [] [] Tryz.f115 13 []
def kf116:Nat->db Nat
 |0=>[0,3,4]
 |1=>[0,3,4]
 |2=>[0,3,4]
 |3=>[0,3,4,13]
 |4=>[0,3,4]
 |5=>[0,3,4]
 |6=>[0,3,4]
 |7=>[0,3,4]
 |8=>[0,3,4]
 |9=>[0,3,4]
 |10=>[0,4]
 |_=>[]
def jn116:db (Nat×Head UU):=[(6,⟨[0,3,4],[],[(0,parK),(3,ptsK),(4,.box [.int .i64,.int .i64,.dl TI.node])]⟩)]
noncomputable def fd116:FD UU:=mkfd kf116 [] jn116 [] Tryz.f116 31 [.cell 4 29]
def kf117:Nat->db Nat
 |0=>[0,1,2,10]
 |1=>[0,1,2]
 |2=>[0,1]
 |_=>[]
def jn117:db (Nat×Head UU):=[(2,⟨[0,1,2],[],[(0,parK),(1,ptsK)]⟩)]
noncomputable def fd117:FD UU:=mkfd kf117 [] jn117 [] Tryz.f117 22 []
def kf130:Nat->db Nat
 |0=>[0,1,4,5]
 |1=>[0,1,4,5,7]
 |2=>[0,1,4,5,7]
 |3=>[0,1,4,5,7,8]
 |4=>[0,1,4,5,7,8,16]
 |5=>[0,4,5,7]
 |6=>[0,4,5,7]
 |7=>[0,1,4,5,7,28]
 |8=>[0,1,4,7]
 |9=>[0,4,7,9,10,11]
 |10=>[0,4,7,9,10,67]
 |11=>[0,4,7,10]
 |12=>[0,4,5,7]
 |13=>[0,4,5,7]
 |14=>[0,4,5,7]
 |15=>[0,4,5,6]
 |_=>[]
def jn130:db (Nat×Head UU):=[(12,⟨[0,4,7,10],[],[(0,parK),(4,.box [.int .i64,.int .i64,.dl TI.node]),(7,ptsK)]⟩),(14,⟨[0,4,7],[(5,.str)],[(0,parK),(4,.box [.int .i64,.int .i64,.dl TI.node]),(7,ptsK)]⟩)]
noncomputable def fd130:FD UU:=mkfd kf130 [] jn130 [(15,[(1000004,80,7)])] Tryz.f130 84 [.cell 4 29,.tmp 5,.tmp 6]
def kf131:Nat->db Nat
 |0=>[0,1,4]
 |1=>[0,1,4,5]
 |2=>[0,1,4,5,6]
 |3=>[0,1,4,5,6,19]
 |4=>[0,4]
 |5=>[0,1,4,5,6,7]
 |6=>[0,1,4,5]
 |_=>[]
def hd131:db (Nat×Head UU):=[(2,⟨[0,1,4,5],[],[(0,parK),(4,.box [.int .i64,.int .i64,.dl TI.node]),(5,.box [.int .i64,.int .i64,.dl TI.node])]⟩)]
noncomputable def fd131:FD UU:=mkfd kf131 hd131 [] [(6,[(28,5,5),(28,7,7)])] Tryz.f131 31 [.cell 4 29]
def kf142:Nat->db Nat
 |0=>[0,2]
 |1=>[0,2,12]
 |2=>[0,2]
 |3=>[0,2,3]
 |4=>[0,2,3]
 |5=>[0,2]
 |_=>[]
noncomputable def fd142:FD UU:=mkfd kf142 [] [] [] Tryz.f142 26 [.cell 2 29]
def kf143:Nat->db Nat
 |0=>[0]
 |1=>[3]
 |2=>[3,4]
 |3=>[2]
 |4=>[3,6]
 |5=>[2]
 |6=>[3,8]
 |7=>[2]
 |8=>[3,10]
 |9=>[2]
 |10=>[3,12]
 |11=>[2]
 |12=>[3,14]
 |13=>[3,14]
 |14=>[2]
 |15=>[3,17]
 |16=>[3,17]
 |17=>[3,17]
 |18=>[3,17]
 |19=>[2]
 |20=>[3,22]
 |21=>[3,22]
 |22=>[2]
 |23=>[3,25]
 |24=>[3,25]
 |25=>[2]
 |26=>[3,28]
 |27=>[3,28]
 |28=>[28]
 |29=>[2]
 |30=>[2]
 |_=>[]
noncomputable def fd143:FD UU:=mkfd kf143 [] [] [] Tryz.f143 32 [.tmp 2]
def kf150:Nat->db Nat
 |0=>[0,2]
 |1=>[0,2,3]
 |2=>[0,2,3,4]
 |3=>[0,2,3]
 |4=>[0,2]
 |5=>[0,2,3,15]
 |6=>[0,2,3]
 |7=>[0,2]
 |8=>[0,2,3,26]
 |9=>[0,2,3]
 |10=>[0,2,3,40]
 |11=>[0,2,3]
 |12=>[0,2,3]
 |13=>[0,2]
 |14=>[0,2]
 |_=>[]
noncomputable def fd150:FD UU:=mkfd kf150 [] [] [] Tryz.f150 58 [.cell 2 29]
def kf151:Nat->db Nat
 |0=>[0,2]
 |1=>[0,2,3]
 |2=>[0,2,3,4]
 |3=>[0,2,3]
 |4=>[0,2,3,6,8]
 |5=>[0,2,3,6,23]
 |6=>[0,2,3]
 |7=>[0,2]
 |_=>[]
noncomputable def fd151:FD UU:=mkfd kf151 [] [] [] Tryz.f151 28 [.cell 2 29]
def kf154:Nat->db Nat
 |0=>[0,3,4]
 |1=>[0,3,4,5]
 |2=>[0,3,4,5]
 |3=>[0,4]
 |4=>[0,3,4,5,11]
 |5=>[0,3,4,5]
 |6=>[0,3,4]
 |7=>[0,3,4,5,24]
 |8=>[0,3,4,5]
 |9=>[0,3,4,5,6]
 |10=>[0,3,4,5,36]
 |11=>[0,3,4,5,6]
 |12=>[0,3,4,5,43]
 |13=>[0,3,4,5]
 |14=>[0,3,4,5]
 |15=>[0,3,4,5]
 |16=>[0,3,4]
 |17=>[0,3,4,5,57]
 |18=>[0,3,4,5]
 |19=>[0,3,4]
 |20=>[0,3,4,5,68]
 |21=>[0,3,4,5]
 |22=>[0,3,4]
 |_=>[]
def hd154:db (Nat×Head UU):=[(1,⟨[0,3,4],[],[(0,parK),(3,.box [.int .i64,.int .i64,.dl TI.node]),(4,.box [.int .i64,.int .i64,.dl TI.node])]⟩),(10,⟨[0,3,4,5],[(6,.bool)],[(0,parK),(3,.box [.int .i64,.int .i64,.dl TI.node]),(4,.box [.int .i64,.int .i64,.dl TI.node]),(5,ptsK)]⟩)]
noncomputable def fd154:FD UU:=mkfd kf154 hd154 [] [] Tryz.f154 77 [.cell 4 29]
def kf155:Nat->db Nat
 |0=>[0,2]
 |1=>[0,2,3]
 |2=>[0,2,3,4]
 |3=>[0,2,3]
 |4=>[0,2]
 |5=>[0,2,3,12]
 |6=>[0,2,3]
 |7=>[0,2]
 |8=>[0,2,3,24]
 |9=>[0,2,3,28]
 |10=>[0,2,3]
 |11=>[0,2]
 |12=>[0,2,3]
 |13=>[0,2]
 |_=>[]
def hd155:db (Nat×Head UU):=[(9,⟨[0,2,3],[],[(0,parK),(2,.box [.int .i64,.int .i64,.dl TI.node]),(3,ptsK)]⟩)]
noncomputable def fd155:FD UU:=mkfd kf155 hd155 [] [] Tryz.f155 37 [.cell 2 29]
def fdok53:FdX (hasN [33,143]) (hasN [38]) 53 fd53:=fdk Tryz.func53 Tryz.ntmps53 Tryz.results53
def fdok74:FdX (hasN [33,143]) (hasN [38]) 74 fd74:=fdk Tryz.func74 Tryz.ntmps74 Tryz.results74
def zSy:FdX (hasN [33,143]) (hasN [38]) 107 fd107:=fdk Tryz.func107 Tryz.ntmps107 Tryz.results107
def fdok75:FdX (hasN [33,143]) (hasN [38]) 75 fd75:=fdk Tryz.func75 Tryz.ntmps75 Tryz.results75
def zSo:FdX (hasN [33,143]) (hasN [38]) 108 fd108:=fdk Tryz.func108 Tryz.ntmps108 Tryz.results108
def fdok79:FdX (hasN [33,143]) (hasN [38]) 79 fd79:=fdk Tryz.func79 Tryz.ntmps79 Tryz.results79
def fdok82:FdX (hasN [33,143]) (hasN [38]) 82 fd82:=fdk Tryz.func82 Tryz.ntmps82 Tryz.results82
def fdok56:FdX (hasN [33,143]) (hasN [38]) 56 fd56:=fdk Tryz.func56 Tryz.ntmps56 Tryz.results56
def zT0:FdX (hasN [33,143]) (hasN [38]) 130 fd130:=fdk Tryz.func130 Tryz.ntmps130 Tryz.results130
def fdok81:FdX (hasN [33,143]) (hasN [38]) 81 fd81:=fdk Tryz.func81 Tryz.ntmps81 Tryz.results81
def zSJ:FdX (hasN [33,143]) (hasN [38]) 110 fd110:=fdk Tryz.func110 Tryz.ntmps110 Tryz.results110
def zTJ:FdX (hasN [33,143]) (hasN [38]) 151 fd151:=fdk Tryz.func151 Tryz.ntmps151 Tryz.results151
def fdok83:FdX (hasN [33,143]) (hasN [38]) 83 fd83:=fdk Tryz.func83 Tryz.ntmps83 Tryz.results83
def fdok57:FdX (hasN [33,143]) (hasN [38]) 57 fd57:=fdk Tryz.func57 Tryz.ntmps57 Tryz.results57
def fdok55:FdX (hasN [33,143]) (hasN [38]) 55 fd55:=fdk Tryz.func55 Tryz.ntmps55 Tryz.results55
def fdok37:FdX (hasN [33,143]) (hasN [38]) 37 fd37:=fdk Tryz.func37 Tryz.ntmps37 Tryz.results37
def fdok60:FdX (hasN [33,143]) (hasN [38]) 60 fd60:=fdk Tryz.func60 Tryz.ntmps60 Tryz.results60
def fdok86:FdX (hasN [33,143]) (hasN [38]) 86 fd86:=fdk Tryz.func86 Tryz.ntmps86 Tryz.results86
def zTz:FdX (hasN [33,143]) (hasN [38]) 116 fd116:=fdk Tryz.func116 Tryz.ntmps116 Tryz.results116
def zS9:FdX (hasN [33,143]) (hasN [38]) 115 fd115:=fdk Tryz.func115 Tryz.ntmps115 Tryz.results115
def zSg:FdX (hasN [33,143]) (hasN [38]) 117 fd117:=fdk Tryz.func117 Tryz.ntmps117 Tryz.results117
def zSX:FdX (hasN [33,143]) (hasN [38]) 113 fd113:=fdk Tryz.func113 Tryz.ntmps113 Tryz.results113
def zSM:FdX (hasN [33,143]) (hasN [38]) 111 fd111:=fdk Tryz.func111 Tryz.ntmps111 Tryz.results111
def zTw:FdX (hasN [33,143]) (hasN [38]) 114 fd114:=fdk Tryz.func114 Tryz.ntmps114 Tryz.results114
def zS2:FdX (hasN [33,143]) (hasN [38]) 131 fd131:=fdk Tryz.func131 Tryz.ntmps131 Tryz.results131
def zTF:FdX (hasN [33,143]) (hasN [38]) 142 fd142:=fdk Tryz.func142 Tryz.ntmps142 Tryz.results142
def zTQ:FdX (hasN [33,143]) (hasN [38]) 150 fd150:=fdk Tryz.func150 Tryz.ntmps150 Tryz.results150
def zT7:FdX (hasN [33,143]) (hasN [38]) 154 fd154:=fdk Tryz.func154 Tryz.ntmps154 Tryz.results154
def zTW:FdX (hasN [33,143]) (hasN [38]) 155 fd155:=fdk Tryz.func155 Tryz.ntmps155 Tryz.results155
noncomputable def run143(fu:Nat)(a:Nat->dd)(b:db UInt8):da (zj zFB):=
 zAD CC Tb fu 2 (zG []) (zG []) (zG []) (zG []) fd143 zGc zFB a (b,())
def zTK:FdX (hasN []) (hasN []) 143 fd143:=fdk Tryz.func143 Tryz.ntmps143 Tryz.results143
def zTr:FdX (hasN [33,143]) (hasN [38]) 36 fd36:=fdk Tryz.func36 Tryz.ntmps36 Tryz.results36
def zT5:FdX (hasN [33,143]) (hasN [38]) 41 fd41:=fdk Tryz.func41 Tryz.ntmps41 Tryz.results41
abbrev as41:db (AK UU):=[.int .i64,.dl TI.node]
abbrev rs41:db (AK UU):=[.st TI.node]
def kf15:Nat->db Nat
 |0=>[0]
 |1=>[2]
 |_=>[]
noncomputable def fd15:FD UU:=mkfd kf15 [] [] [] Tryz.f15 6 [.tmp 2]
def kf33:Nat->db Nat
 |0=>[0,1]
 |1=>[4]
 |_=>[]
noncomputable def fd33:FD UU:=mkfd kf33 [] [] [] Tryz.f33 9 [.tmp 4]
def kf52:Nat->db Nat
 |0=>[0,1]
 |1=>[0,1,7,8]
 |2=>[0,1,7,8,9]
 |3=>[0,1,5,7,8]
 |4=>[0,1,5,7,8,16]
 |5=>[4]
 |6=>[0,1,7,8]
 |7=>[4]
 |_=>[]
def hd52:db (Nat×Head UU):=[(2,⟨[0,1,7],[(8,.int .i64)],[]⟩)]
noncomputable def fd52:FD UU:=mkfd kf52 hd52 [] [] Tryz.f52 19 [.tmp 4]
noncomputable def run33(fu:Nat)(a:Nat->dd)(b:db (db UInt8))(c:db UInt8):da (zj rs33):=
 zAD CC Tb fu 3 (zG [(52,fd52)]) (zG []) (zG []) (zG []) fd33 as33 rs33 a (b,c,())
def fdok33:FdX (hasN []) (hasN []) 33 fd33:=fdk Tryz.func33 Tryz.ntmps33 Tryz.results33
def zPr:FdX (hasN []) (hasN []) 52 fd52:=fdk Tryz.func52 Tryz.ntmps52 Tryz.results52
noncomputable def run15(fu:Nat)(c33:db (db UInt8)×db UInt8×dc->da (dd×dc))(a:Nat->dd)(b:db UInt8):da (zj rs15):=
 zAD CC Tb fu 2 (zG []) (zG [(33,(⟨as33,rs33,c33⟩:Con UU))]) (zG []) (zG []) fd15 as15 rs15 a (b,())
def fdok15:FdX (hasN [33]) (hasN []) 15 fd15:=fdk Tryz.func15 Tryz.ntmps15 Tryz.results15
noncomputable def run41(fu:Nat)(a:Nat->dd)(b:Int)(c:db Nd):da (zj rs41):=
 zAD CC Tb fu 2 (zG []) (zG []) (zG []) (zG []) fd41 as41 rs41 a (b,c,())
def fdok41:FdX (hasN []) (hasN []) 41 fd41:=fdk Tryz.func41 Tryz.ntmps41 Tryz.results41
def sh33(fu:Nat)(e:Nat->dd)(c:(db Str))(d:Str):(da (dd×dc)):=iter fu (λ(a:((Int×dc)×dc)->da (dd×dc))(b:((Int×dc)×dc))=>cond (ilt b.1.1 (lenI c)) (cond (inB b.1.1 c.length) (cond (seq d (List.getD c b.1.1.toNat [])) (some ((ile 0 b.1.1),())) (a (((iadd .i64 b.1.1 1),()),()))) (none)) (some ((ile 0 (Neg.neg 1)),()))) ((0,()),())
def eq33:@run33=@sh33:=dO
def sh15(fu:Nat)(c33:((db Str)×(Str×dc))->(da (dd×dc)))(c:Nat->dd)(a:Str):(da (dd×dc)):=Option.bind (c33 ([[97,117,116,111],[98,114,101,97,107],[99,97,115,101],[99,104,97,114],[99,111,110,115,116],[99,111,110,116,105,110,117,101],[100,101,102,97,117,108,116],[100,111],[100,111,117,98,108,101],[101,108,115,101],[101,110,117,109],[101,120,116,101,114,110],[102,108,111,97,116],[102,111,114],[103,111,116,111],[105,102],[105,110,108,105,110,101],[105,110,116],[108,111,110,103],[114,101,103,105,115,116,101,114],[114,101,116,117,114,110],[115,104,111,114,116],[115,105,103,110,101,100],[115,105,122,101,111,102],[115,116,97,116,105,99],[115,116,114,117,99,116],[115,119,105,116,99,104],[116,121,112,101,100,101,102],[117,110,105,111,110],[117,110,115,105,103,110,101,100],[118,111,105,100],[118,111,108,97,116,105,108,101],[119,104,105,108,101]],(a,()))) λb=>some (b.1,())
def eq15:@run15=@sh15:=dO
def sh41(fu:Nat)(c:Nat->dd)(a:Int)(b:(db Nd)):(da (Nd×dc)):=some ((Nd.mk a 0 b),())
def eq41:@run41=@sh41:=dO
def con33(fu:Nat) :CoX 33 ⟨as33,rs33,λx=>sh33 fu (λ_=>false) x.1 x.2.1⟩:=
 rfk (lo:=[]) (lr:=[]) (zD zPr zC) zC zC zC fdok33 rfl (qj rfl) (λa x=>by show run33 fu a x.1 x.2.1=_;rw[eq33];rfl)
def con15(fu:Nat)(c33:zj as33->da (zj rs33))(a:CoX 33 ⟨as33,rs33,c33⟩):CoX 15 ⟨as15,rs15,λx=>sh15 fu c33 (λ_=>false) x.1⟩:=
 rfk zC (zD (OrcOk.of ⟨dO,a⟩ rfl) zC) zC zC fdok15 rfl (qj rfl) (λb x=>by show run15 fu c33 b x.1=_;rw[eq15];rfl)
def con41(fu:Nat) :CoX 41 ⟨as41,rs41,λx=>sh41 fu (λ_=>false) x.1 x.2.1⟩:=
 rfk zC zC zC zC fdok41 rfl (qj rfl) (λa x=>by show run41 fu a x.1 x.2.1=_;rw[eq41];rfl)
end
end Go.Proofs.YtnamdpbcpnnhaaaGreatDoor
namespace Go.Al
section
open Go.RowKit
def mps:db Nat->db MC->db (Nat×OV×db Nat)
 |j::bs,c::xs=>(j,.mp c,[j])::mps bs xs
 |_,_=>[]
def Mps(a:db (Nat×OV×db Nat)):db Nat->db MC->Prop
 |[],xs=>xs=[]
 |j::bs,xs=>∃c cs,xs=c::cs/\zE a j=some (.mp c,[j])/\Mps a bs cs
def zEO{g:Gh}{w:de}:∀{bs:db Nat}{xs:db MC}{j:Nat}{o:OV}{fp:db Nat},MMems g w bs xs->zE (mps bs xs) j=some (o,fp)->∃c,o=.mp c/\fp=[j]/\j∈bs/\MMem g w j c
 |[],_,_,_,_,_,h=>by simp[mps,zE]at h
 |b::bs,_,j,o,fp,⟨c,cs,rfl,a,f⟩,h=>by
  simp only[mps,zK]at h;by_cases e:b=j
  .subst e;rw[if_pos rfl]at h;injection h with h
   injection h with i k
   exact⟨c,i.symm,k.symm,dQ,a⟩
  .rw[if_neg e]at h;obtain⟨l,k1,k2,m,n⟩:=zEO f h;exact⟨l,k1,k2,by simp[m],n⟩
def MMems.length{g:Gh}{w:de}:∀{bs:db Nat}{xs:db MC},MMems g w bs xs->bs.length=xs.length
 |[],_,h=>by rw[show _=[]from h];rfl
 |b::bs,_,⟨c,cs,rfl,_,a⟩=>by simp[a.length]
def zMD{f a:db (Nat×OV×db Nat)}:∀{bs:db Nat}{xs:db MC},Mps f bs xs->(∀j∈bs,zE a j=zE f j)->Mps a bs xs
 |[],_,h,_=>h
 |b::bs,_,⟨c,cs,i,k,l⟩,g=>⟨c,cs,i,(g b dQ).trans k,zMD l λj m=>g j (by simp[m])⟩
def zEc:∀{bs:db Nat}{xs:db MC}(r:db (Nat×OV×db Nat)),bs.Nodup->bs.length=xs.length->Mps (mps bs xs++r) bs xs
 |[],[],_,_,_=>rfl
 |[],_::_,_,_,h=>by simp at h
 |b::bs,[],_,_,h=>by simp at h
 |b::bs,c::cs,r,a,h=>by
  obtain⟨f,g⟩:=zUm.1 a;refine⟨c,cs,rfl,by simp[mps,zK],zMD (zEc r g eX) λj i=>?_⟩;have:¬b=j:=λe=>f (by rw[e];exact i);simp[mps,zK,this]
def Mps.length{a:db (Nat×OV×db Nat)}:∀{bs:db Nat}{xs:db MC},Mps a bs xs->bs.length=xs.length
 |[],_,h=>by rw[show _=[]from h];rfl
 |b::bs,_,⟨c,cs,rfl,_,f⟩=>by simp[f.length]
def Mps.mem{f:db (Nat×OV×db Nat)}:∀{bs:db Nat}{xs:db MC},Mps f bs xs->∀j∈bs,∃c,zE f j=some (.mp c,[j])
 |[],_,_,j,a=>eZ
 |b::bs,_,⟨c,cs,_,g,h⟩,j,a=>by
  rcases zUG.1 a with rfl|a
  .exact⟨c,g⟩
  .exact h.mem j a
def Mps.mems{B:Nat}{g:Gh}{st:S}{w:de}(hi:Inv B g st w):∀{bs:db Nat}{xs:db MC},Mps st.ob bs xs->MMems g w bs xs
 |[],_,h=>h
 |b::bs,_,⟨c,cs,a,f,i⟩=>⟨c,cs,a,by
  have:=(hi.ex.ob b _ _ f).1;exact this.2,Mps.mems hi i⟩
def mcs(bs:db Nat):db V:=bs.map λj=>.at (.map (some j))
def zNh{g:Gh}{w:de}:∀bs:db Nat,RCs g w (mcs bs) (bs.map λj=>Value.map (some j))
 |[]=>by simp[mcs,RCs]
 |b::bs=>by
  simp only[mcs,zUC,RCs];exact⟨[.map (some b)],_,rfl,by simp[RC,one],zNh bs⟩
def zPq{g:Gh}{w:de}:∀{bs:db Nat}{us:db dh},RCs g w (mcs bs) us->us=bs.map λj=>Value.map (some j)
 |[],us,h=>by simpa [mcs,RCs]using h
 |b::bs,us,h=>by
  simp only[mcs,zUC,RCs]at h;obtain⟨f,i,rfl,a,c⟩:=h;simp only[RC]at a;rw[a.1,zPq c];rfl
def kv(st:S)(b:Nat)(bs:db Nat)(xs:db MC)(cap:Nat):S:=⟨lay st.box b (mcs bs,cap),st.tg,st.nx,mps bs xs++st.ob.filter λp=>!(p.1==b)⟩
def zDk(st:S)(b:Nat)(bs:db Nat)(xs:db MC)(cap j:Nat):zE (kv st b bs xs cap).ob j=(zE (mps bs xs) j).or (if j=b then none else zE st.ob j):=by
 show zE (mps bs xs++st.ob.filter λp=>(λk=>!(k==b)) p.1) j=_;rw[kx,show zE (st.ob.filter λp=>(λk=>!(k==b)) p.1) j=_ from kg (λk=>!(k==b)) st.ob j];by_cases e:j=b<;>simp[e]
def Inv.unpack{B:Nat}{g:Gh}{st:S}{w:de}(hi:Inv B g st w){b cap:Nat}{xs:db MC}{fp:db Nat}(U:zE st.ob b=some (.sc xs cap,fp)) :
 ∃bs,fp=b::bs/\(b::bs).Nodup/\bs.length=xs.length/\bs.length<=cap/\Inv B g (kv st b bs xs cap) w:=by
 obtain⟨h1,h2,V⟩:=hi.ex.ob b _ _ U;obtain⟨bs,arr,el,rfl,k1,k2,k3,W,k5,X⟩:=h1;obtain⟨q1,q2,q3,q4,q5,q6⟩:=V b dQ;have i:∀j,look st.box j=none->j≠b->look (kv st b bs xs cap).box j=none:=λj m e=>by
  show look (lay st.box b _) j=none;rw[zO,if_neg (zU9 e)];exact m
 have k:∀a o' f,zE st.ob a=some (o',f)->a≠b->∀j∈f,j∉b::bs:=λa o' f h4 o j m E=>o (hi.ex.obd a o' f b _ _ j h4 U m E);have l:∀{a o' f},zE (kv st b bs xs cap).ob a=some (o',f)->(∃c,o'=.mp c/\f=[a]/\a∈bs/\MMem g w a c)\/(zE st.ob a=some (o',f)/\a≠b):=λ{a o' f} h=>by
  rw[zDk]at h;cases e:zE (mps bs xs) a with
  |some p=>
   obtain⟨F,q⟩:=p;rw[e]at h;injection h with h
   obtain⟨rfl,rfl⟩:=zVf h;exact .inl (zEO X e)
  |none=>
   rw[e]at h;replace h:(if a=b then none else zE st.ob a)=some (o',f):=h;by_cases v:a=b
   .rw[if_pos v]at h;cases h
   .rw[if_neg v]at h;exact .inr ⟨h,v⟩
 refine⟨bs,rfl,k1,X.length,W,hi.base,?_,hi.tag,?_,hi.dist,hi.nodup,hi.fresh,hi.names,?_,?_,?_,hi.ex.ft⟩
 .intro a cs' Y h;replace h:look (lay st.box b (mcs bs,cap)) a=some (cs',Y):=h;rw[zO]at h;by_cases e:b=a
  .subst e;rw[if_pos rfl]at h;injection h with h
   obtain⟨rfl,rfl⟩:=zVf h;refine⟨q1,q3,by simpa [mcs]using W,λc G=>?_,arr,el,_,k2,k3,zNh bs,by simpa [mcs]using k5⟩;obtain⟨x,_,rfl⟩:=zVA.1 G;rfl
  .rw[if_neg e]at h;exact hi.box a cs' Y h
 .intro t Z a y n sz hb;obtain⟨z,A,C,p4,p5,p6⟩:=hi.own t Z a y n sz hb;exact⟨z,A,C,p4,i a p5 (λe=>by subst e;exact q5 t Z _ hb),p6⟩
 .intro a r;obtain⟨z,A,C⟩:=hi.ex.frz a r;exact⟨z,i a A (λe=>by subst e;rw[q6]at r;cases r),C⟩
 .intro a o' f h;rcases l h with⟨c,rfl,rfl,E,G⟩|⟨o,H⟩
  .refine⟨⟨rfl,G⟩,dQ,λj m=>?_⟩;simp only[zUJ]at m;subst m;obtain⟨I,J,M,N,O,Q⟩:=V j (by simp[E]);exact⟨I,J,M,i j N (λe=>(zUm.1 k1).1 (by rw[<-e];exact E)),O,Q⟩
  .obtain⟨z,A,C⟩:=hi.ex.ob a o' f o;refine⟨z,A,λj m=>?_⟩;obtain⟨I,J,M,N,O,Q⟩:=C j m;exact⟨I,J,M,i j N (λe=>k a o' f o H j m d5),O,Q⟩
 .intro b1 o1 D b2 F q j e1 v s u;rcases l e1 with⟨c1,_,rfl,R,_⟩|⟨o,H⟩<;>rcases l v with⟨c2,_,rfl,T,_⟩|⟨h7,h8⟩
  .simp only[zUJ]at s u;exact s.symm.trans u
  .simp only[zUJ]at s;subst s;exact absurd (by simp[R]) (k b2 F q h7 h8 j u)
  .simp only[zUJ]at u;subst u;exact absurd (by simp[T]) (k b1 o1 D o H j s)
  .exact hi.ex.obd b1 o1 D b2 F q j o h7 s u
def zFP(st:S)(b:Nat)(bs:db Nat)(xs:db MC)(cap:Nat):S:=⟨wipe st.box b,st.tg,st.nx,(b,.sc xs cap,b::bs)::st.ob.filter λp=>!(bs.contains p.1)⟩
def zBn(st:S)(b:Nat)(bs:db Nat)(xs:db MC)(cap j:Nat):zE (zFP st b bs xs cap).ob j=if b=j then some (.sc xs cap,b::bs)else if j∈bs then none else zE st.ob j:=by
 show zE ((b,.sc xs cap,b::bs)::st.ob.filter λp=>(λk=>!(bs.contains k)) p.1) j=_;rw[zK,show zE (st.ob.filter λp=>(λk=>!(bs.contains k)) p.1) j=_ from kg (λk=>!(bs.contains k)) st.ob j];by_cases e:b=j
 .rw[if_pos e,if_pos e]
 .rw[if_neg e,if_neg e];by_cases a:j∈bs<;>simp[a]
def Inv.pack{B:Nat}{g:Gh}{st:S}{w:de}(hi:Inv B g st w){b cap:Nat}{bs:db Nat}{xs:db MC}(u:look st.box b=some (mcs bs,cap))(Z:bs.Nodup)(F:Mps st.ob bs xs):Inv B g (zFP st b bs xs cap) w:=by
 obtain⟨p1,p2,p3,p4,arr,el,us,R,p6,p7,p8⟩:=hi.box b _ _ u;have H:=zPq p7;have I:∀j∈bs,j≠b:=λj l e=>by
  obtain⟨c,h⟩:=F.mem j l;have:=((hi.ex.ob j _ _ h).2.2 j dQ).2.2.2.1;rw[e,u]at this;cases this
 have i:∀j,look st.box j=none->look (zFP st b bs xs cap).box j=none:=λj l=>by
  show look (wipe st.box b) j=none;rw[yR];split
  .rfl
  .exact l
 have k:∀{a o' f},zE (zFP st b bs xs cap).ob a=some (o',f)->(a=b/\o'=.sc xs cap/\f=b::bs)\/(zE st.ob a=some (o',f)/\a≠b/\a∉bs):=λ{a o' f} h=>by
  rw[zBn]at h;by_cases e:b=a
  .subst e;rw[if_pos rfl]at h;injection h with h
   obtain⟨s,G⟩:=zVf h;exact .inl ⟨rfl,s.symm,G.symm⟩
  .rw[if_neg e]at h;by_cases v:a∈bs
   .rw[if_pos v]at h;cases h
   .rw[if_neg v]at h;exact .inr ⟨h,zU9 e,v⟩
 have m:∀a o' f,zE st.ob a=some (o',f)->a∉bs->∀j∈b::bs,j∉f:=λa o' f s G j l x=>by
  rcases zUG.1 l with rfl|l
  .exact(hi.boxFr u).2 a o' f s x
  .obtain⟨c,h⟩:=F.mem j l;have:=hi.ex.obd a o' f j _ _ j s h x dQ;subst this;exact G l
 refine⟨hi.base,?_,hi.tag,?_,hi.dist,hi.nodup,hi.fresh,hi.names,?_,?_,?_,hi.ex.ft⟩
 .intro a cs' T h;replace h:look (wipe st.box b) a=some (cs',T):=h;rw[yR]at h;split at h
  .cases h
  .exact hi.box a cs' T h
 .intro t J a y n sz o;obtain⟨p,q,r,z,A,C⟩:=hi.own t J a y n sz o;exact⟨p,q,r,z,i a A,C⟩
 .intro a o;obtain⟨p,q,r⟩:=hi.ex.frz a o;exact⟨p,i a q,r⟩
 .intro a o' f h;rcases k h with⟨rfl,rfl,rfl⟩|⟨s,G,h3⟩
  .refine⟨⟨bs,arr,el,rfl,zUm.2 ⟨λh=>I a h rfl,Z⟩,R,p6,by simpa [mcs]using p3,by rw[<-H,<-p8];simp[mcs],Mps.mems hi F⟩,dQ,λj l=>?_⟩;rcases zUG.1 l with rfl|l
   .refine⟨p1,(zUH.1 R).1,p2,by show look (wipe st.box j) j=none;rw[yR,if_pos rfl],λt J d hd=>?_,(hi.boxFr u).1⟩;obtain⟨d1,d2,d3⟩:=d;have:=(hi.own t J j d1 d2 d3 hd).2.2.2.2.1;rw[u]at this;cases this
   .obtain⟨c,h⟩:=F.mem j l;obtain⟨p,q,r,z,A,C⟩:=(hi.ex.ob j _ _ h).2.2 j dQ;exact⟨p,q,r,i j z,A,C⟩
  .obtain⟨q1,q2,q3⟩:=hi.ex.ob a o' f s;refine⟨q1,q2,λj l=>?_⟩;obtain⟨p,q,r,z,A,C⟩:=q3 j l;exact⟨p,q,r,i j z,A,C⟩
 .intro b1 U D V W E j e1 v M N;rcases k e1 with⟨rfl,_,rfl⟩|⟨X,h6,O⟩<;>rcases k v with⟨rfl,_,rfl⟩|⟨Y,h8,Q⟩
  .rfl
  .exact absurd N (m V W E Y Q j M)
  .exact absurd M (m b1 U D X O j N)
  .exact hi.ex.obd b1 U D V W E j X Y M N
def zEa{P:di}{f:dt}{a:db V}{Q:Outc->S->Prop}{s:S}{φ:Prop}(b:∀B g w,Inv B g s w->φ)(h:φ->FnC P f a s Q):FnC P f a s Q:=
 λB g w vs hi=>h (b B g w hi) B g w vs hi
def zDl{P:di}{f:dt}{l:db V}{Q:Outc->S->Prop}{s:S}(h:FnC P f l s λoc m=>∃a,(∀B g w,Inv B g m w->Inv B g a w)/\Q oc a):FnC P f l s Q:=by
 intro B g w vs hi b p;refine(h B g w vs hi b p).mono ?_;rintro e w' ⟨g',m,n,o,i⟩;cases e with
 |returned v=>
  obtain⟨r,q,a,j,k⟩:=i;exact⟨g',a,n,j _ _ _ o,r,q,k⟩
 |panicked c=>
  obtain⟨a,j,k⟩:=i;exact⟨g',a,n,j _ _ _ o,k⟩
 |outgrown=>exact i.elim
def zGg{P:di}{f:dt}{b:db V}{Q:Outc->S->Prop}{s s':S}(c:∀B g w,Inv B g s w->Inv B g s' w)(h:FnC P f b s' Q):FnC P f b s Q:=
 λB g w vs hi a i=>h B g w vs (c B g w hi) a i
section
variable{P:di}{L:Pol}{ds:db (da Nat)}{KP:db dj->S->Prop}{os:db dr}{K:Env->S->Prop}{e:Env}{st:S}
variable{d:da Nat}{ty:dg}{pos:String}{af:dv Edge}
def zFI(x:dq):AL P L ds KP (⟨d,.move x,ty,pos,af,none⟩::os) K e st=AL P L ds KP os K (e.putO d (e.ev x)) st:=propext zVD
def zNw(x:dq):AL P L ds KP (⟨d,.assign x,ty,pos,af,none⟩::os) K e st=AL P L ds KP os K (e.putO d (e.ev x)) st:=propext zVD
def zI2(a:BinOp)(t:dg)(x y:dq)(b:dg):AL P L ds KP (⟨d,.binOp a t x y b,ty,pos,af,none⟩::os) K e st=zB1 P a t (zGu y) (e.ev x) (e.ev y) λv=>AL P L ds KP os K (e.putO d v) st:=propext zVD
def zJ1(t:dg)(x:dq)(f:Nat):AL P L ds KP (⟨d,.fieldAddr t x f,ty,pos,af,none⟩::os) K e st=xR P t (e.ev x) f λv=>AL P L ds KP os K (e.putO d v) st:=propext zVD
def zJ7(t:dg)(x i:dq):AL P L ds KP (⟨d,.indexAddr t x i,ty,pos,af,none⟩::os) K e st=xp P t (e.ev x) (e.ev i) λv=>AL P L ds KP os K (e.putO d v) st:=propext zVD
def zLB(x:dq):AL P L ds KP (⟨d,.nilCheck x,ty,pos,af,none⟩::os) K e st=qn (e.ev x) λv=>AL P L ds KP os K (e.putO d v) st:=propext zVD
def zCv(t:dg)(m k y:dq):AL P L ds KP (⟨d,.mapUpdate t m k y,ty,pos,af,none⟩::os) K e st=qd P st t (e.ev m) (e.ev k) (e.ev y) λa=>AL P L ds KP os K (e.putO d .any) a:=propext zVD
def zG2(t:dg):AL P L ds KP (⟨d,.makeMap t none,ty,pos,af,none⟩::os) K e st=(true=true/\zHB st λv a=>AL P L ds KP os K (e.putO d v) a):=propext zVD
def zQE(t:dg)(ps:db (Nat×dq)):AL P L ds KP (⟨d,.build t ps.toArray,ty,pos,af,none⟩::os) K e st=zCM P t (ps.map λp=>(p.1,e.ev p.2)) λv=>AL P L ds KP os K (e.putO d v) st:=propext zVD
def zEu{t:dg}{ps:db (Nat×V)}{cs cs':db V}(a:zD9 P t=true)(b:xU P t=some cs)(c:zBh (zCA P t) cs ps=some cs'){K:V->Prop}(f:K (.agg cs')):zCM P t ps K:=.inl ⟨a,by rw[b];simp only[c];exact f⟩
def zAA(t:dg)(x i:dq)(c:dd):AL P L ds KP (⟨d,.lookup t x i c,ty,pos,af,none⟩::os) K e st=zAO P st t (e.ev x) (e.ev i) c λv=>AL P L ds KP os K (e.putO d v) st:=propext zVD
end
end
end Go.Al
namespace Go.Proofs.YtnamdpbcpnnhaaaGreatDoor
section
open Go.Al Go.Den Go.RowKit
attribute [local congr] xP xi x7 qP yX xL yN yO xQ xn xE xx xN xG yI yT xD x9 xy yh xj xO yi yo xH xF yn xI xM yl qR qB qA xh xg xm xK ym yk
def zCa{s:S}{l:db dw}{i:Int}{xs:db MT}{u e c:dc}{d:db V}{r:db Res}(h:VKs CC s [parK] ((l,i,xs,u,e),c) d r) :
 ∃a b cap fp m,d=[.at (.pointer (some ⟨a,0,none⟩))]/\Al.look s.box a=some ([.lst (zx (l.map (CC.encV TI.tok))) (l.map (CC.encV TI.tok)),.at (.int .i64 i),.at (.slice (some ⟨b,0,none⟩) xs.length cap),.at (.map m)],4) /\
  zE s.ob b=some (.sc (xs.map trMC) cap,fp)/\r=[.inr a,.ob b]:=by
 simp only[VKs,VK]at h;obtain⟨v,vs',n,o,rfl,rfl,⟨a,vs,f,rfl,g,j,rfl⟩,rfl,rfl⟩:=h;obtain⟨p,q,t,w,rfl,rfl,⟨rfl,rfl⟩,x,y,z,A,rfl,rfl,⟨rfl,rfl⟩,B,C,D,E,rfl,rfl,⟨b,cap,fp,rfl,k,rfl⟩,F,G,H,I,rfl,rfl,⟨⟨m,rfl⟩,rfl⟩,rfl,rfl⟩:=j;exact⟨a,b,cap,fp,m,rfl,g,k,rfl⟩
def zCs{s:S}{l:db dw}{i:Int}{xs:db MT}{u d c:dc}{a b cap n:Nat}{fp:db Nat}{m:da Nat}(e:n=xs.length)(f:Al.look s.box a=some ([.lst (zx (l.map (CC.encV TI.tok))) (l.map (CC.encV TI.tok)),.at (.int .i64 i),.at (.slice (some ⟨b,0,none⟩) n cap),.at (.map m)],4))
 (g:zE s.ob b=some (.sc (xs.map trMC) cap,fp)):VKs CC s [parK] ((l,i,xs,u,d),c) [.at (.pointer (some ⟨a,0,none⟩))] [.inr a,.ob b]:=by
 subst e;simp only[VKs,VK];exact⟨_,_,_,[],rfl,rfl,⟨a,_,[.ob b],rfl,f,⟨_,_,[],[.ob b],rfl,rfl,⟨rfl,rfl⟩,_,_,[],[.ob b],rfl,rfl,⟨rfl,rfl⟩,_,_,[.ob b],[],rfl,rfl,⟨b,cap,fp,rfl,g,rfl⟩,_,_,[],[],rfl,rfl,⟨⟨m,rfl⟩,rfl⟩,rfl,rfl⟩,rfl⟩,rfl,rfl⟩
abbrev pol59:Pol:=⟨λ_=>false,λd=>d==11,λ_=>false,λ_=>false,[],λ_=>[]⟩
def c59(a:da MT×dc):MM dc:=λ_ s=>match a.1 with
 |some m=>if s.2.length<1000000 then some (some ((),s.1,s.2++[m]))else none
 |none=>none
abbrev _root_.c9:=@And.intro
def _root_.cu:=c9 @zB @zI
def _root_.cg:=c9 @zU (c9 @zS (c9 @zc (c9 @zV @zR)))
def _root_.cw:=c9 @zN @cg
def _root_.cx:=c9 @cu @cw
def _root_.cv:=c9 @zk @zu
def _root_.cz:=c9 @zl @yL
def _root_.cB:=c9 @yB @cz
def _root_.cG:=c9 @cv @cB
def _root_.ch:=c9 @zH @zL
def _root_.cr:=c9 @zF @ch
def _root_.ct:=c9 @zQ @cr
def _root_.cy:=c9 @zW @ct
def _root_.c6:=c9 @qM @qU
def _root_.ci:=c9 @z6 @zr
def _root_.cj:=c9 @zi @zq
def _root_.cI:=c9 @ci @cj
def _root_.c5:=c9 @jd @qo
set_option maxRecDepth 100000 in
def ok59:CQ 59 (cM [.mpo] [] c59):=by
 refine zFx λl i xs a o r st vx va r1 r2 G E Y=>?_;obtain⟨a,ua⟩:=a;cases a with
 |none=>cases r
 |some c=>
 simp only[c59]at r;split at r
 rotate_left
 .cases r
 rename_i R;injection r with r
 subst r;obtain⟨f,b,cap,fp,m,rfl,k1,k2,rfl⟩:=zCa G;simp only[VKs,VK]at E;obtain⟨va,vs',q1,q2,rfl,rfl,⟨bm,H,rfl,Z,rfl⟩,rfl,rfl⟩:=E;have u:b≠bm:=by intro e;subst e;simp at Y
 have F:=(yS st ([.inr f,.ob b]++([.ob bm]++[])) f).1 dQ;have s:=(yP st ([.inr f,.ob b]++([.ob bm]++[])) b).1 dQ;have t:=(yP st ([.inr f,.ob b]++([.ob bm]++[])) bm).1 dQ;rw[k1]at F;rw[k2]at s;rw[Z]at t;generalize subS st ([.inr f,.ob b]++([.ob bm]++[]))=s0 at F s t ⊢;refine zEa (φ:=∃bs,fp=b::bs/\(b::bs).Nodup/\bs.length=xs.length/\bs.length<=cap/\H=[bm]/\bm∉bs/\f≠b/\f∉bs/\f≠bm) (λB g w hi=>?_) ?_
 .obtain⟨bs,v,p2,p3,p4,_⟩:=hi.unpack s;have I:=(hi.ex.ob bm _ _ t).1.1;subst I;have J:=hi.boxFr F;subst v;refine⟨bs,rfl,p2,by simpa using p3,p4,rfl,λhm=>u (hi.ex.obd b _ _ bm _ _ bm s t (by simp[hm]) dQ),?_,?_,?_⟩
  .intro e;exact J.2 b _ _ s d5
  .intro e;exact J.2 b _ _ s d5
  .intro e;exact J.2 bm _ _ t d5
 rintro⟨bs,rfl,z,K,S,rfl,A,k,aa,ab⟩;refine zGg (s':=kv s0 b bs (xs.map trMC) cap) (λB g w hi=>by
  obtain⟨ac,v,_,_,_,I⟩:=hi.unpack s;injection v with _ v
  subst v;exact I) ?_
 have L:Al.look (kv s0 b bs (xs.map trMC) cap).box f=some ([.lst (zx (l.map (CC.encV TI.tok))) (l.map (CC.encV TI.tok)),.at (.int .i64 i),.at (.slice (some ⟨b,0,none⟩) xs.length cap),.at (.map m)],4):=by
  show Al.look (lay s0.box b _) f=_;rw[zO,if_neg (zU9 k)];exact F
 have T:Al.look (kv s0 b bs (xs.map trMC) cap).box b=some (mcs bs,cap):=by
  show Al.look (lay s0.box b _) b=_;rw[zO,if_pos rfl]
 have U:Mps (kv s0 b bs (xs.map trMC) cap).ob bs (xs.map trMC):=zEc _ (zUm.1 z).2 (by simpa using K);have W:zE (kv s0 b bs (xs.map trMC) cap).ob bm=some (.mp (trMC c),[bm]):=by
  rw[zDk,if_neg (zU9 u),t];cases e:zE (mps bs (xs.map trMC)) bm with
  |none=>rfl
  |some p=>
   exfalso;have:∀(bs:db Nat)(ys:db MC),bm∉bs->zE (mps bs ys) bm=none:=by
    intro bs
    induction bs with
    |nil=>intro ys _;rfl
    |cons b bs M=>
     intro ys h;cases ys with
     |nil=>rfl
     |cons y ys=>
      simp only[zUG,not_or]at h;simp only[mps,zK,if_neg (zU9 h.1)];exact M ys h.2
   rw[this bs _ A]at e;cases e
 generalize kv s0 b bs (xs.map trMC) cap=s1 at L T U W ⊢;refine zDl ?_;refine xS Tryz.func59 rfl Tryz.ntmps59 Tryz.results59 (by show 2<=14;decide) λB=>?_;have ad:f≠b:=k;simp only[zUO,zUQ,qJ,Nat.reduceAdd]
 (repeat (first|refine zh ?_|(refine zd rfl ?_;try simp only[cx,reduceIte])|refine zT ?_|((first|refine zf pol59 ks59 _ rfl rfl ?_|refine zZ pol59 mixed ks59 _ rfl rfl dO dO ?_);simp only[↓cG,↓jI,↓zCt,↓zGI,cy,c6,zw,cI,zFM,zC1,zCE,zHO,zJF,kC,zFr,zFV,zN8,zCu,zVm,zUr,zVz,Go.Al.untag_at,zUC,zUL,zUR,zU2,zVg,z7,yA,zM,V.isOne,V.size,V.flat,zUd,zUs,zUD,zUF,zUf,zUX,zUS,zUl,zUT,zUc,zUU,zUP,zVu,zUM,zUK,zUt,Nat.reduceAdd,Nat.reduceEqDiff,Nat.reduceLeDiff,reduceCtorEq,zUN,zUY,zUq,zO,yR,zKs,zHq,zp,Nat.reduceBEq,c5,zTI,zero63,zEk,zGC,zDG,zHy,zEi,ks59,L,T])))
 have ae:maxLen=9223372036854775807:=rfl;refine⟨⟨dM,dM⟩,dM,dM,by simp only[mcs,zUZ];omega,λj q C hcap'=>?_⟩;have N:¬j=f:=λe=>by rw[e,if_neg (zU9 k),L]at C;cases C
 have m2:¬f=j:=λe=>N e.symm;have O:¬b=f:=zU9 k;simp only[xo,spl,zUO,zUQ,zU2,zM,V.isOne,V.flat,zUd,zUs,zUD,zUF,zUf,zUX,zUS,zUl,zUU,zUP,zUK,zUt,Nat.reduceAdd,Nat.reduceLeDiff,zUY,zEk,zDG,N,O];have P:List.take (xs.length*1) (mcs bs)++[V.at (Value.map (some bm))]=mcs (bs++[bm]):=by
  rw[zU5 (by simp only[mcs,zUZ];omega)];simp[mcs]
 rw[P,Nat.mul_one];have Q:(bs++[bm]).Nodup:=by
  refine zUe.2 ⟨(zUm.1 z).2,dQ,λx hx y X e=>?_⟩;simp only[zUJ]at X;subst e;subst X;exact A hx
 have D:Mps s1.ob (bs++[bm]) (xs.map trMC++[trMC c]):=by
  have:∀(bs:db Nat)(ys:db MC),Mps s1.ob bs ys->Mps s1.ob (bs++[bm]) (ys++[trMC c]):=by
   intro bs
   induction bs with
   |nil=>intro ys h;rw[show ys=[]from h];exact⟨_,[],rfl,W,rfl⟩
   |cons b bs M=>
    rintro _ ⟨d,ds,rfl,G,E⟩;exact⟨d,_,rfl,G,M _ E⟩
  exact this _ _ U
 show∃s2,_;refine⟨zFP _ j (bs++[bm]) (xs.map trMC++[trMC c]) q,λB g w hi=>hi.pack ?_ Q D,[],[.inr f,.ob j],[],zCs (n:=xs.length+1) (fp:=j::(bs++[bm])) (b:=j) (cap:=q) (m:=m) dQ ?_ ?_,⟨rfl,rfl⟩,dQ,rfl⟩
 .show Al.look (lay (lay (wipe s1.box b) j _) f _) j=_;rw[zO,if_neg m2,zO,if_pos rfl]
 .show Al.look (wipe (lay (lay (wipe s1.box b) j _) f _) j) f=_;rw[yR,if_neg N,zO,if_pos rfl]
 .rw[zBn,if_pos rfl];simp
def zIU{j:Nat}:∀(bs:db Nat)(ys:db MC),j∉bs->zE (mps bs ys) j=none
 |[],_,_=>rfl
 |_::_,[],_=>rfl
 |b::bs,y::ys,h=>by
  simp only[zUG,not_or]at h;simp only[mps,zK,if_neg (zU9 h.1)];exact zIU bs ys h.2
def zNI{P:di}{f:dt}{args:db V}{Q:Outc->S->Prop}{a:S}{c b cap:Nat}{fp:db Nat}{cs:db V}{k:Nat}{xs:db MC}(r:Al.look a.box c=some (cs,k))(p:zE a.ob b=some (.sc xs cap,fp))
 (h:∀bs d,(b::bs).Nodup->bs.length=xs.length->bs.length<=cap->c≠b->c∉bs->Al.look d.box c=some (cs,k)->Al.look d.box b=some (mcs bs,cap)->Mps d.ob bs xs->(∀j,j≠b->j∉bs->zE d.ob j=zE a.ob j) ->
  FnC P f args d λoc s=>∃t,(∀B g w,Inv B g s w->Inv B g t w)/\Q oc t):FnC P f args a Q:=by
 refine zEa (φ:=∃bs,fp=b::bs/\(b::bs).Nodup/\bs.length=xs.length/\bs.length<=cap/\c≠b/\c∉bs) (λB g w hi=>?_) ?_
 .obtain⟨bs,i,v,x,y,_⟩:=hi.unpack p;have u:=hi.boxFr r;subst i;refine⟨bs,rfl,v,x,y,?_,?_⟩
  .intro e;exact u.2 b _ _ p d5
  .intro e;exact u.2 b _ _ p d5
 rintro⟨bs,rfl,l,m,n,o,q⟩;refine zGg (s':=kv a b bs xs cap) (λB g w hi=>by
  obtain⟨z,i,_,_,_,A⟩:=hi.unpack p;injection i with _ i
  subst i;exact A) ?_
 refine zDl (h bs _ l m n o q ?_ ?_ ?_ ?_)
 .show Al.look (lay a.box b _) c=_;rw[zO,if_neg (zU9 o)];exact r
 .show Al.look (lay a.box b _) b=_;rw[zO,if_pos rfl]
 .exact zEc _ (zUm.1 l).2 m
 .intro j C D;rw[zDk,if_neg C,zIU bs _ D];rfl
def yU(P:di)(d:BinOp)(t:dg)(c:dd)(k e:dm)(a b:Int)(K:V->Prop):zB1 P d t c (.at (.int k a)) (.at (.int e b)) K=aBin P d t (.at (.int k a)) (.at (.int e b)) K:=rfl
def zJZ(P:di)(d:BinOp)(t:dg)(c:dd)(a b:dk)(K:V->Prop):zB1 P d t c (.at (.string a)) (.at (.string b)) K=aBin P d t (.at (.string a)) (.at (.string b)) K:=rfl
abbrev polN:Pol:=⟨λ_=>false,λ_=>false,λ_=>false,λ_=>false,[],λ_=>[]⟩
def Inv.trunc{B:Nat}{g:Gh}{s:S}{w:de}(hi:Al.Inv B g s w)(b m:Nat){cs:db V}{k:Nat}(f:Al.look s.box b=some (cs,k)):Al.Inv B g ⟨lay s.box b (cs.take m,k),s.tg,s.nx,s.ob⟩ w:=by
 obtain⟨o,p,A,j,arr,el,us,q,r,l,u⟩:=hi.box b cs k f;have a:zM cs:=by unfold zM;rw[zUb];exact j
 have h:=yc g w cs us l;rw[xZ a]at h;have:=hi.addBox (b:=b) (arr:=arr) (el:=el) (cs:=cs.take m) (us:=us.take m) o p q d4
  (λc v=>j c (zVG v)) (xV a l m).1 (by
   rw[<-u,zWd,zVH]) (λt x d y=>by
    obtain⟨e,z,i⟩:=d;obtain⟨C,D,E,F,n,G⟩:=hi.own t x b e z i y;rw[f]at n;cases n) (hi.boxFr f).1 (hi.boxFr f).2
 rw[r]at this;exact this
def Mps.take{a:db (Nat×OV×db Nat)}:∀{bs:db Nat}{xs:db MC}(n:Nat),Mps a bs xs->Mps a (bs.take n) (xs.take n)
 |[],_,n,h=>by rw[show _=[]from h];simp[Mps]
 |b::bs,_,0,_=>by simp[Mps]
 |b::bs,_,n+1,⟨c,cs,rfl,d,e⟩=>⟨c,_,dQ,d,Mps.take n e⟩
def Mps.at{e:db (Nat×OV×db Nat)}:∀{bs:db Nat}{xs:db MC}{n j:Nat}{c:MC},Mps e bs xs->bs[n]?=some j->xs[n]?=some c->zE e j=some (.mp c,[j])
 |[],_,n,j,c,_,h,_=>by simp at h
 |b::bs,_,0,j,c,⟨d,ds,rfl,f,g⟩,h,a=>by
  simp at h a;subst h;subst a;exact f
 |b::bs,_,n+1,j,c,⟨d,ds,rfl,f,g⟩,h,a=>Mps.at g eX eF
def zM4{xs:db MT}{n:Nat}{c:MT}(a:n+1=xs.length)(h:xs.getLast?=some c):xs[n]?=some c:=by
 rw[List.getLast?_eq_getElem?]at h;rw[<-h];congr 1;omega
def c61(_:dc):MM (da MT×dc):=λ_ s=>if s.2.length<1000000 then match s.2.getLast? with
 |some m=>some (some ((some m,()),s.1,s.2.dropLast))
 |none=>none else none
def _root_.cH:=c9 @yb @cG
def _root_.cA:=c9 @zb @cy
def _root_.cC:=c9 @zB @cA
def _root_.cO:=c9 @cC @cI
def _root_.cR:=c9 @zw @cO
def _root_.cl:=c9 @yj @yU
def _root_.cF:=c9 @zm @yK
def _root_.cS:=c9 @cl @cF
def _root_.c7:=c9 @zBz @c5
set_option maxRecDepth 100000 in
def ok61:CQ 61 (cM [] [.mpo] c61):=by
 refine zFx λl i xs a o q st X va Y Z A y hn=>?_;simp only[c61]at q;split at q
 rotate_left
 .cases q
 rename_i I;cases z:xs.getLast? with
 |none=>rw[z]at q;cases q
 |some c=>
 rw[z]at q;injection q with q
 subst q;obtain⟨h,b,cap,fp,m,rfl,k1,k2,rfl⟩:=zCa A;simp only[VKs]at y;obtain⟨rfl,rfl⟩:=y;have C:=(yS st ([.inr h,.ob b]++[]) h).1 dQ;have D:=(yP st ([.inr h,.ob b]++[]) b).1 dQ;rw[k1]at C;rw[k2]at D;generalize subS st ([.inr h,.ob b]++[])=s0 at C D ⊢;refine zNI C D λbs d s E J t N K L M l4=>?_;rw[zUZ]at E;have O:0<xs.length:=by cases xs<;>simp at z ⊢
 refine xS Tryz.func61 rfl Tryz.ntmps61 Tryz.results61 (by show 1<=31;decide) λB=>?_;have u:¬b=h:=zU9 t;simp only[zUO,zUQ,zUR,qJ,Nat.reduceAdd];obtain⟨n,F⟩:∃n,n+1=xs.length:=⟨xs.length-1,dM⟩;have r:IntKind.i64.wrap ((xs.length:Int)-1)=(n:Int):=by rw[IntWalk.i64_in _ dM];omega
 have P:0+((n:Int).toNat)*1=n:=dM
 obtain⟨p,f⟩:∃p,bs[n]?=some p:=⟨bs[n]' dM,dQ⟩;have Q:z7 Tryz.prog 63 (mcs bs) n:=⟨jd,by rw[qo];simp only[mcs,zUZ];omega,λ_=>qo⟩;have G:(mcs bs).getD n .any=.at (.map (some p)):=by
  rw[zUV];simp[mcs,f]
 (repeat (first|refine zh ?_|(refine zd rfl ?_;try simp only[cx,reduceIte])|refine zT ?_|((first|refine zf polN ks61 _ rfl rfl ?_|refine zZ polN mixed ks61 _ rfl rfl dO dO ?_);simp only[↓cH,↓qK,↓xe,↓zDf,cR,cS,zDV,zBq,jL,ke,zUr,zU2,z7,yA,zUD,zUF,zUf,zUX,zUS,zUl,zUT,zUc,zWH,zUU,zUP,zVu,zUM,zUK,zVx,zUt,Nat.reduceAdd,Nat.reduceEqDiff,Nat.reduceLeDiff,reduceCtorEq,zUN,zUY,zUq,c7,zEk,zGC,zDG,zHy,zEi,ks61,K,L,r,P,G])))
 refine⟨⟨dM,dM⟩,by simp only[mcs,zUZ];omega,?_⟩
 (repeat (first|refine zh ?_|(refine zd rfl ?_;try simp only[cx,reduceIte])|refine zT ?_|((first|refine zf polN ks61 _ rfl rfl ?_|refine zZ polN mixed ks61 _ rfl rfl dO dO ?_);simp only[↓cG,↓qK,↓jI,↓zRM,↓zDf,cR,c6,cS,zDV,zBq,xo,spl,zVm,zUr,zUO,zUQ,zU2,z7,yA,zM,V.isOne,V.flat,zUd,zUs,zUD,zUF,zUf,zUX,zUS,zUl,zUT,zUc,zUU,zUP,zVu,zUM,zUK,zUt,Nat.reduceAdd,Nat.reduceEqDiff,Nat.reduceLeDiff,reduceCtorEq,zUN,zUY,zUq,zJz,zLC,zWq,jd,zEk,zGC,zDG,zHy,zEi,ks61,K,r,zU3])))
 refine⟨⟨dM,dM⟩,?_⟩
 (repeat (first|refine zh ?_|(refine zd rfl ?_;try simp only[cx,reduceIte])|refine zT ?_|((first|refine zf polN ks61 _ rfl rfl ?_|refine zZ polN mixed ks61 _ rfl rfl dO dO ?_);simp only[↓cv,↓yb,cC,zUM,zUK,Nat.reduceEqDiff,ks61])))
 refine⟨rfl,?_⟩;have v:p∉bs.take n:=λR=>by
  have A:=(zUm.1 s).2;obtain⟨j,S,e⟩:=List.getElem_of_mem R;have T:j<n:=by rw[zVH]at S;omega
  rw[List.getElem_take]at e;have y:bs[j]?=some p:=by rw[<-e];simp
  have h3:=(List.getElem?_inj (i:=j) (j:=n) dM A).1 (y.trans f.symm);omega
 have U:=Mps.at M f (c:=trMC c) (by rw[zUy,zM4 F z];rfl);have x:b≠p:=λe=>(zUm.1 s).1 (by rw[e];exact zVe f);have H:(mcs bs).take n=mcs (bs.take n):=by simp[mcs]
 have W:∀(cs:db V×Nat){B:Nat}{g:Gh}{w:de},Al.Inv B g ⟨lay d.box h cs,d.tg,d.nx,d.ob⟩ w->Al.Inv B g ⟨lay (lay d.box h cs) b (mcs (bs.take n),cap),d.tg,d.nx,d.ob⟩ w:=λcs B g w hi=>by
  have:=Inv.trunc hi b n (cs:=mcs bs) (k:=cap) (by show Al.look (lay d.box h _) b=_;rw[zO,if_neg t];exact L);rw[H]at this;exact this
 refine⟨zFP ⟨lay (lay d.box h _) b (mcs (bs.take n),cap),d.tg,d.nx,d.ob⟩ b (bs.take n) ((xs.map trMC).take n) cap,λB g w hi=>Inv.pack (W _ hi) ?_ ((zUm.1 s).2.sublist (List.take_sublist n bs)) (Mps.take n M),[_],[.inr h,.ob b],[.ob p],zCs (n:=n) (fp:=b::bs.take n) (b:=b) (cap:=cap) (m:=m) d4 ?_ ?_,⟨_,[],[.ob p],[],rfl,rfl,⟨p,[p],rfl,?_,rfl⟩,rfl,rfl⟩,by simp[x],rfl⟩
 .show Al.look (lay (lay d.box h _) b _) b=_;rw[zO,if_pos rfl]
 .show Al.look (wipe (lay (lay d.box h _) b _) b) h=_;rw[yR,if_neg u,zO,if_neg u,zO,if_pos rfl]
 .rw[zBn,if_pos rfl];congr 2;congr 1;rw[List.dropLast_eq_take,zWT];congr 1;omega
 .rw[zBn,if_neg x,if_neg v];exact U
def qF:MT->Str->da Int
 |[],_=>none
 |(k,v)::r,s=>if s=k then some v else qF r s
def yd:MT->Str->Int->MT
 |[],s,v=>[(s,v)]
 |(k,u)::r,s,v=>if s=k then(s,v)::r else(k,u)::yd r s v
def zPX(s k:Str):((⟨s.toArray⟩:dk)==⟨k.toArray⟩)=decide (s=k):=by
 by_cases h:s=k
 .subst h;rw[zNE];simp
 .cases e:((⟨s.toArray⟩:dk)==⟨k.toArray⟩)with
  |false=>simp[h]
  |true=>
   have a:=zU1 (λx:dk=>x.data.toList) (ba_eq e);exact absurd a h
def zMv:∀(m:MT)(s:Str),mget (trMC m) ⟨s.toArray⟩=(qF m s).map λz=>.at (.int .i64 z)
 |[],_=>rfl
 |(k,v)::r,s=>by
  show(if((⟨s.toArray⟩:dk)==⟨k.toArray⟩)=true then some _ else mget (trMC r) ⟨s.toArray⟩)=_;rw[zPX,zMv r s];by_cases h:s=k<;>simp[qF,h]
def zIv:∀(m:MT)(s:Str)(z:Int),mput (trMC m) ⟨s.toArray⟩ (.at (.int .i64 z))=trMC (yd m s z)
 |[],_,_=>rfl
 |(k,v)::r,s,z=>by
  show(if((⟨s.toArray⟩:dk)==⟨k.toArray⟩)=true then _ else _::mput (trMC r) ⟨s.toArray⟩ (.at (.int .i64 z)))=_;rw[zPX,zIv r s z];by_cases h:s=k<;>simp[yd,h,trMC]
def zGS{P:di}{L:Pol}{ds:db (da Nat)}{KP:db dj->S->Prop}{K:Env->S->Prop}{e:Env}{st:S}{d:da Nat}{f:dg}{a:String}{g:dv Edge}{c:db dr}(t:dg)(m k y:dq) :
 AL P L ds KP (⟨d,.mapUpdate t m k y,f,a,g,none⟩::c) K e st=qd P st t (e.ev m) (e.ev k) (e.ev y) λb=>AL P L ds KP c K (e.putO d .any) b:=rfl
def zJW(a b:dk)(K:V->Prop):aStr .eql a b K=K (.at (.bool (a.toList==b.toList))):=rfl
def zGv{P:di}{L:Pol}{ds:db (da Nat)}{KP:db dj->S->Prop}{K:Env->S->Prop}{e:Env}{st:S}{d:da Nat}{c:dg}{a:String}{f:dv Edge}{b:db dr}(t:dg)(x:dq) :
 AL P L ds KP (⟨d,.makeInterface t x,c,a,f,none⟩::b) K e st=zE5 P t (e.ev x) λv=>AL P L ds KP b K (e.putO d v) st:=rfl
def zQR{P:di}{L:Pol}{ds:db (da Nat)}{KP:db dj->S->Prop}{K:Env->S->Prop}{e:Env}{st:S}{d:da Nat}{b:dg}{a:String}{f:dv Edge}{g:db dr}(x:dq) :
 AL P L ds KP (⟨d,.panic x,b,a,f,none⟩::g) K e st=zIW (e.ev x) λc=>KP c st:=rfl
def c58(a:Str×dd×dc):MM dc:=λ_ s=>if a.1=[]then some (some ((),s))else if s.2.length<1000000 then match s.2.getLast? with
 |some m=>some (some ((),s.1,s.2.dropLast++[yd m a.1 (if a.2.1=true then 2 else 1)]))
 |none=>none else none
def _root_.cP:=c9 @qK @cv
set_option maxRecDepth 100000 in
def ok58:CQ 58 (cM [.str,.bool] [] c58):=by
 refine zFx λl i xs a o k st vx va r1 r2 E A hn=>?_;obtain⟨f,J,ua⟩:=a;change Str at f;change dd at J;obtain⟨r,b,cap,fp,m,rfl,k1,k2,rfl⟩:=zCa E;simp only[VKs,VK]at A;obtain⟨v1,w1,N,q2,rfl,rfl,⟨rfl,rfl⟩,v2,w2,q3,O,rfl,rfl,⟨rfl,rfl⟩,rfl,rfl⟩:=A;have C:trT CC ⟨id,id,id,id⟩ (.str f:T UU)=.at (.string ⟨f.toArray⟩):=rfl;rw[C];simp only[zUR]at hn ⊢;have K:=(yS st [.inr r,.ob b] r).1 dQ;have L:=(yP st [.inr r,.ob b] b).1 dQ;rw[k1]at K;rw[k2]at L;generalize subS st [.inr r,.ob b]=s0 at K L ⊢;simp only[c58]at k;by_cases s:f=[]
 .rw[if_pos s]at k;injection k with k
  subst k;refine xS Tryz.func58 rfl Tryz.ntmps58 Tryz.results58 (by show 3<=24;decide) λB=>?_;simp only[zUO,zUQ,zUR,qJ,Nat.reduceAdd];have D:((⟨f.toArray⟩:dk).toList==(⟨#[]⟩:dk).toList)=true:=by rw[s];exact zVg _
  (repeat (first|refine zh ?_|(refine zd rfl ?_;try simp only[cx,reduceIte])|refine zT ?_|((first|refine zf polN ks58 _ rfl rfl ?_|refine zZ polN mixed ks58 _ rfl rfl dO dO ?_);simp only[↓cP,cC,zm,zEE,zKj,zUM,zUK,Nat.reduceEqDiff,reduceCtorEq,ks58,zJZ,zJW,D])))
  refine x8 rfl (λ_=>?_) (λh=>dU)
  (repeat (first|refine zh ?_|(refine zd rfl ?_;try simp only[cx,reduceIte])|refine zT ?_|((first|refine zf polN ks58 _ rfl rfl ?_|refine zZ polN mixed ks58 _ rfl rfl dO dO ?_);simp only[])))
  unfold yx;exact⟨[],[.inr r,.ob b],[],zCs rfl K L,⟨rfl,rfl⟩,dQ,rfl⟩
 .rw[if_neg s]at k;split at k
  rotate_left
  .cases k
  rename_i ab;cases M:xs.getLast? with
  |none=>rw[M]at k;cases k
  |some c=>
  rw[M]at k;injection k with k
  subst k;have D:((⟨f.toArray⟩:dk).toList==(⟨#[]⟩:dk).toList)=false:=by
   have E:(⟨f.toArray⟩:dk).toList=f:=j7 f;have A:(⟨#[]⟩:dk).toList=[]:=j7 [];rw[E,A];cases f<;>first|exact absurd rfl s|rfl
  refine zNI K L λbs F t P ac Q ad R U l3 l4=>?_;rw[zUZ]at P;have ae:0<xs.length:=by cases xs<;>simp at M ⊢
  refine xS Tryz.func58 rfl Tryz.ntmps58 Tryz.results58 (by show 3<=24;decide) λB=>?_;have W:¬b=r:=zU9 Q;simp only[zUO,zUQ,zUR,qJ,Nat.reduceAdd];obtain⟨n,G⟩:∃n,n+1=xs.length:=⟨xs.length-1,dM⟩;have u:IntKind.i64.wrap ((xs.length:Int)-1)=(n:Int):=by rw[IntWalk.i64_in _ dM];omega
  have z1:0+((n:Int).toNat)*1=n:=dM
  obtain⟨v,p⟩:∃v,bs[n]?=some v:=⟨bs[n]' dM,dQ⟩;have af:z7 Tryz.prog 63 (mcs bs) n:=⟨jd,by rw[qo];simp only[mcs,zUZ];omega,λ_=>qo⟩;have H:(mcs bs).getD n .any=.at (.map (some v)):=by
   rw[zUV];simp[mcs,p]
  have hc:=Mps.at l3 p (c:=trMC c) (by rw[zUy,zM4 G M];rfl);have x:∀(z:Int)(q:S),q.box=F.box->q.tg=F.tg->q.nx=F.nx->q.ob=(v,.mp (mput (trMC c) ⟨f.toArray⟩ (.at (.int .i64 z))),[v])::F.ob->z=(if J=true then 2 else 1) ->
   ∃s3,(∀(B:Nat)(g:Gh)(w:de),Al.Inv B g q w->Al.Inv B g s3 w)/\jQ CC syn [parK] [] [V.at (Value.pointer (some { block:=r,off:=0 }))] (Option.map (λy=>(((l,y.snd.fst,y.snd.snd,(),()),()),y.fst)) (some ((),i,xs.dropLast++[yd c f (if J=true then 2 else 1)]))) (Outc.ret (finV [])) s3:=by
   intro z q N q2 q3 O q5;have hM:Mps q.ob bs ((xs.dropLast++[yd c f z]).map trMC):=by
    have X:∀(bs:db Nat)(ys:db MC)(n:Nat),bs.Nodup->Mps F.ob bs ys->bs[n]?=some v->n+1=ys.length->Mps q.ob bs (ys.dropLast++[trMC (yd c f z)]):=by
     intro bs
     induction bs with
     |nil=>intro ys n _ _ h;simp at h
     |cons j bs ih=>
      rintro _ n t ⟨d,ds,rfl,E,A⟩ Y Z;obtain⟨h5,h6⟩:=zUm.1 t;cases n with
      |zero=>
       have h7:ds=[]:=by cases ds<;>simp at Z ⊢
       subst h7;simp at Y;subst Y;refine⟨_,[],rfl,?_,?_⟩
       .rw[O,zK,if_pos rfl,zIv]
       .have:=A.length;have h8:bs=[]:=by cases bs<;>simp at this ⊢
        subst h8;rfl
      |succ n=>
       have h7:ds≠[]:=by rintro rfl;simp at Z
       have I:bs[n]?=some v:=by simpa using Y
       have aa:¬v=j:=λe=>h5 (by rw[<-e];exact zVe I);refine⟨d,ds.dropLast++[trMC (yd c f z)],by rw[List.dropLast_cons_of_ne_nil h7];rfl,?_,ih ds n h6 A I (by simpa using Z)⟩;rw[O,zK,if_neg aa];exact E
    have:=X bs (xs.map trMC) n (zUm.1 t).2 l3 p (by simpa using G);rw[zVa,List.map_dropLast];exact this
   subst q5;refine⟨zFP q b bs ((xs.dropLast++[yd c f (if J=true then 2 else 1)]).map trMC) cap,λB g w hi=>Inv.pack hi (by rw[N];exact U) (zUm.1 t).2 hM,[],[.inr r,.ob b],[],zCs (n:=xs.length) (fp:=b::bs) (b:=b) (cap:=cap) (m:=m) d4 ?_ ?_,⟨rfl,rfl⟩,dQ,rfl⟩
   .show Al.look (wipe q.box b) r=_;rw[yR,if_neg W,N];exact R
   .rw[zBn,if_pos rfl]
  (repeat (first|refine zh ?_|(refine zd rfl ?_;try simp only[cx,reduceIte])|refine zT ?_|((first|refine zf polN ks58 _ rfl rfl ?_|refine zZ polN mixed ks58 _ rfl rfl dO dO ?_);simp only[↓cP,cC,zm,zEE,zKj,zUM,zUK,Nat.reduceEqDiff,reduceCtorEq,ks58,zJZ,zJW,D])))
  refine x8 rfl (λh=>dU) (λ_=>?_)
  (repeat (first|refine zh ?_|(refine zd rfl ?_;try simp only[cx,reduceIte])|refine zT ?_|((first|refine zf polN ks58 _ rfl rfl ?_|refine zZ polN mixed ks58 _ rfl rfl dO dO ?_);simp only[↓cv,↓yb,cC,cF,zUM,zUK,Nat.reduceEqDiff,reduceCtorEq,ks58])))
  refine x8 rfl (λht=>?_) (λht=>?_)
  .subst ht
   (repeat (first|refine zh ?_|(refine zd rfl ?_;try simp only[cx,reduceIte])|refine zT ?_|((first|refine zf polN ks58 _ rfl rfl ?_|refine zZ polN mixed ks58 _ rfl rfl dO dO ?_);simp only[↓cH,↓qK,↓xe,↓zDf,cR,cS,zDV,zBq,jL,ke,zUr,zUC,zUL,zU2,z7,yA,zUD,zUF,zUf,zUX,zUS,zUl,zUT,zUc,zWH,zUU,zUP,zVu,zUM,zUK,zVx,zUt,Nat.reduceAdd,Nat.reduceEqDiff,Nat.reduceLeDiff,reduceCtorEq,zUN,zUY,zUq,c7,zEk,zGC,zDG,zHy,zEi,ks58,R,U,u,H,zU3,zGS,Nat.mul_one])))
   refine⟨⟨dM,dM⟩,by simp only[mcs,zUZ];omega,?_⟩;unfold qd;rw[show mapT Tryz.prog 63=some 3 from dO];simp only;rw[hc];exact⟨rfl,x 2 _ rfl rfl rfl rfl rfl⟩
  .subst ht
   (repeat (first|refine zh ?_|(refine zd rfl ?_;try simp only[cx,reduceIte])|refine zT ?_|((first|refine zf polN ks58 _ rfl rfl ?_|refine zZ polN mixed ks58 _ rfl rfl dO dO ?_);simp only[↓cG,↓qK,↓xe,↓zDf,cy,cS,zDV,zBq,zw,cI,jL,ke,zUr,zUC,zUL,zU2,z7,yA,zUD,zUF,zUf,zUX,zUS,zUl,zUT,zUc,zWH,zUU,zUP,zVu,zUM,zUK,zVx,zUt,Nat.reduceAdd,Nat.reduceEqDiff,Nat.reduceLeDiff,reduceCtorEq,zUN,zUY,zUq,c7,zEk,zGC,zDG,zHy,zEi,ks58,R,U,u,H,zU3,zGS,Nat.mul_one])))
   refine⟨⟨dM,dM⟩,by simp only[mcs,zUZ];omega,?_⟩;unfold qd;rw[show mapT Tryz.prog 63=some 3 from dO];simp only;rw[hc];exact⟨rfl,x 1 _ rfl rfl rfl rfl rfl⟩
def ok77:CQ 77 zC3:=by
 intro x a R g K r f;obtain⟨b,p⟩:=a;change dd at b;replace f:cond b (K () ()) g=some r:=f;have c:∀(s:S),FnC Tryz.prog 77 [.at (.bool b)] s (jQ CC syn ([]:LK) ([]:LK) [] (if b=true then some ((),())else none)):=by
  intro s;refine xS Tryz.func77 rfl Tryz.ntmps77 Tryz.results77 (by show 1<=6;decide) λB=>?_;simp only[zUO,zUQ,zUR,qJ,Nat.reduceAdd]
  (repeat (first|refine zh ?_|(refine zd rfl ?_;try simp only[cx,reduceIte])|refine zT ?_|((first|refine zf polN ks77 _ rfl rfl ?_|refine zZ polN mixed ks77 _ rfl rfl dO dO ?_);simp only[↓cv,↓zIE,cC,zET,zUM,zUK,Nat.reduceEqDiff,reduceCtorEq,ks77])))
  refine x8 rfl (λh=>?_) (λh=>?_)
  .have i:b=false:=by cases b<;>simp at h ⊢
   subst i
   (repeat (first|refine zh ?_|(refine zd rfl ?_;try simp only[cx,reduceIte])|refine zT ?_|((first|refine zf polN ks77 _ rfl rfl ?_|refine zZ polN mixed ks77 _ rfl rfl dO dO ?_);simp only[↓zHH,cy,zUC,zUL,zUM,zUK,Nat.reduceEqDiff,zUN,ks77,zGv,zQR])))
   refine .inl ⟨dO,?_⟩;rw[show xU Tryz.prog 61=some []by kernel_rfl];exact⟨dO,rfl⟩
  .have i:b=true:=by cases b<;>simp at h ⊢
   subst i;refine zAE ?_;exact⟨[],[],[],⟨rfl,rfl⟩,⟨rfl,rfl⟩,dQ,rfl⟩
 cases b with
 |true=>
  refine⟨some ((),()),f,λs j va k l d e m=>?_⟩;simp only[VKs,VK]at d e;obtain⟨rfl,rfl⟩:=d;obtain⟨v,w,n,o,rfl,rfl,⟨rfl,rfl⟩,rfl,rfl⟩:=e;exact c _
 |false=>
  refine⟨none,f,λs j va k l d e m=>?_⟩;simp only[VKs,VK]at d e;obtain⟨rfl,rfl⟩:=d;obtain⟨v,w,n,o,rfl,rfl,⟨rfl,rfl⟩,rfl,rfl⟩:=e;exact c _
def ok41:CoX 41 ⟨as41,rs41,λx=>some (Nd.mk x.1 0 x.2.1,())⟩:=con41 0
abbrev zGZ:Pol:=⟨λf=>f==41,λ_=>false,λ_=>false,λ_=>false,[],λ_=>[]⟩
def _root_.cU:=c9 @zAm @zBy
def _root_.cQ:=c9 @yV @ct
def _root_.cZ:=c9 @zk @jI
set_option maxRecDepth 100000 in
def ok38:CrX 38 zA8:=by
 intro x R K r A;obtain⟨⟨d,u⟩,k,H⟩:=x;change db Nd at d;change Int at k;refine⟨(Nd.mk k 0 d,()),A,λs va q t y=>?_⟩;simp only[VKs,VK]at t;obtain⟨v,w,I,J,rfl,rfl,⟨i,cs,L,rfl,C,⟨M,N,O,P,rfl,rfl,⟨n,rfl,D,E,rfl⟩,rfl,rfl⟩,rfl⟩,Q,S,T,U,rfl,rfl,⟨rfl,rfl⟩,rfl,rfl⟩:=t;refine⟨[za (Nd.mk k 0 d)],λs'=>⟨_,[],[],[],rfl,rfl,⟨rfl,rfl⟩,rfl,rfl⟩,?_⟩;have m:=(yS s [.inr i,.inl n] i).1 dQ;rw[C]at m;show FnC Tryz.prog 38 _ (subS s [.inr i,.inl n]) λoc s'=>oc=.ret (finV [za (Nd.mk k 0 d)])/\s'=subS s [.inr i,.inl n];generalize subS s [.inr i,.inl n]=s0 at m ⊢;have F:jS Tryz.prog 41 [.at (.int .i64 k),.lst (zx (d.map (CC.encV TI.node))) (d.map (CC.encV TI.node))] (za (Nd.mk k 0 d)):=by
  have h:=ok41 (k,d,()) (Nd.mk k 0 d,()) rfl [.at (.int .i64 k),.lst (zx (d.map (CC.encV TI.node))) (d.map (CC.encV TI.node))] ⟨_,_,rfl,rfl,⟨_,_,rfl,rfl,rfl⟩⟩;have e:finV ((qV CC rs41 (λ_=>false) 0 (Nd.mk k 0 d,())).map (trT CC ⟨id,id,id,id⟩))=za (Nd.mk k 0 d):=CCok.enc _ TI.node (Nd.mk k 0 d);exact e▸h
 refine zDl ?_;refine xS Tryz.func38 rfl Tryz.ntmps38 Tryz.results38 (by show 2<=11;decide) λB=>?_;simp only[zUO,zUQ,zUR,qJ,Nat.reduceAdd]
 (repeat (first|refine zh ?_|(refine zd rfl ?_;try simp only[cx,reduceIte])|refine zT ?_|((first|refine zf zGZ ks38 _ rfl rfl ?_|refine zZ zGZ mixed ks38 _ rfl rfl dO dO ?_);simp only[↓zk,↓zLp,zB,cr,zb,zW,zJd,zG1,zUM,zUK,Nat.reduceEqDiff,reduceCtorEq,zHf,ks38])))
 refine⟨rfl,λb o=>?_⟩;have l:¬b=i:=λe=>by rw[e,m]at o;cases o
 have z:¬i=b:=λe=>l e.symm
 (repeat (first|refine zh ?_|(refine zd rfl ?_;try simp only[cx,reduceIte])|refine zT ?_|((first|refine zf zGZ ks38 _ rfl rfl ?_|refine zZ zGZ mixed ks38 _ rfl rfl dO dO ?_);simp only[↓zu,↓cB,cR,yy,zUr,zUC,zUL,zU2,z7,yA,zUD,zUF,zUf,zUS,zVC,zUT,zUU,zUP,zUM,zUK,zUt,Nat.reduceAdd,Nat.reduceEqDiff,reduceCtorEq,zUN,zUY,zVE,zUB,zUq,zO,cU,kh,zTA,ks38,m,l])))
 (refine zK5 F rfl dO (by simp only[zUC,zUL,ct,zUM,zUK,Nat.reduceEqDiff,reduceCtorEq,Go.Al.untag_at,zPw]) (by simp only[zUC,zUL,zUd,zUs,cQ,zUM,zUK,Nat.reduceEqDiff,reduceCtorEq,zGB,zUP]) ?_;simp only[↓cZ,ct,c6,xo,spl,zUQ,zM,V.flat,zUD,zUF,zUl,zUU,zUM,zUK,zUt,Nat.reduceAdd,Nat.reduceEqDiff,reduceCtorEq,zUY,zO,ku,jr])
 simp only[qv,sl];refine⟨rfl,rfl,zUB _,?_⟩
 (repeat (first|refine zh ?_|(refine zd rfl ?_;try simp only[cx,reduceIte])|refine zT ?_|((first|refine zf zGZ ks38 _ rfl rfl ?_|refine zZ zGZ mixed ks38 _ rfl rfl dO dO ?_);simp only[])))
 unfold yx;rw[show Env.get [(4,V.at (Value.pointer (some ⟨b,0,none⟩)))] 4=V.at (Value.pointer (some ⟨b,0,none⟩))from rfl,z6,zO,if_pos rfl,zr];refine⟨⟨ku,by rw[jr];exact zUB _,λh=>by rw[zBk]at h;cases h⟩,?_⟩;have p:∀a b c:V,yA Tryz.prog 29 [a,b,c] 0=.agg [a,b,c]:=λa b c=>by
  unfold yA;rw[if_pos zBk,jr];rfl
 simp only[zUD,zUF,zUX,zUR,List.drop_nil,zUY,Nat.reduceAdd,p];refine⟨rfl,?_⟩;unfold yx;refine⟨s0,λB g w hi=>hi.weaken ⟨λj c f=>?_,λ_ G=>G,λy=>y,λj f=>?_,zUB _,λ_ _ h=>h⟩,?_,rfl⟩
 .have:¬b=j:=λe=>by rw[<-e,o]at f;cases f
  show Al.look (lay (lay s0.box b _) b _) j=_;rw[zO,if_neg this,zO,if_neg this];exact f
 .replace f:Al.look (lay (lay s0.box b _) b _) j=none:=f;rw[zO]at f;split at f
  .cases f
  .rename_i h;rw[zO,if_neg h]at f;exact f
 .simp only[finV,V.untag,zUC,zUL,zBO];rfl
end
end Go.Proofs.YtnamdpbcpnnhaaaGreatDoor
namespace Go.Al
section
open Go.RowKit
def inFP(st:S)(j:Nat):Prop:=(∃c,look st.box j=some c)\/∃b o fp,zE st.ob b=some (o,fp)/\j∈fp
def Inv.good{B:Nat}{g:Gh}{st:S}{w:de}(hi:Inv B g st w){j:Nat}(h:inFP st j):B<=j/\j<w.heap.size/\g.wm j=0/\(∀t∈st.tg,∀d,g.tb t=some (some (j,d))->False)/\g.fr j=false:=by
 rcases h with⟨⟨cs,k⟩,h⟩|⟨b,o,fp,h,c⟩
 .obtain⟨e,f,_,_,arr,el,us,a,_⟩:=hi.box j cs k h;refine⟨e,(zUH.1 a).1,f,λt i d l=>?_,?_⟩
  .obtain⟨m,n,p⟩:=d;have:=(hi.own t i j m n p l).2.2.2.2.1;rw[h]at this;cases this
  .cases q:g.fr j with
   |false=>rfl
   |true=>have:=(hi.ex.frz j q).2.1;rw[h]at this;cases this
 .obtain⟨_,_,a⟩:=hi.ex.ob b o fp h;obtain⟨r,s,u,_,v,x⟩:=a j c;exact⟨r,s,u,v,x⟩
def Inv.reob{B:Nat}{g:Gh}{st:S}{w:de}(hi:Inv B g st w){a:db (Nat×db V×Nat)}{d:db (Nat×OV×db Nat)}
 (f:∀j,inFP ⟨a,st.tg,st.nx,d⟩ j->inFP st j)
 (i:∀b cs k,look a b=some (cs,k)->look st.box b=some (cs,k)\/(cs.length<=k/\(∀c∈cs,c.isOne=true)/\∃arr el us,w.heap[b]?=some (.cells arr el (0,0))/\arr.size=k/\RCs g w cs us/\arr.toList.take cs.length=us))
 (p:∀b o fp,zE d b=some (o,fp)->OMem g w b o fp/\b∈fp/\∀j∈fp,look a j=none)
 (E:∀b o fp y o' l j,zE d b=some (o,fp)->zE d y=some (o',l)->j∈fp->j∈l->b=y):Inv B g ⟨a,st.tg,st.nx,d⟩ w:=by
 refine⟨hi.base,λb cs k h=>?_,hi.tag,λt z b cap n sz h=>?_,hi.dist,hi.nodup,hi.fresh,hi.names,λb A=>?_,λb o fp h=>?_,E,hi.ex.ft⟩
 .rcases i b cs k h with m|⟨m,q,r⟩
  .exact hi.box b cs k m
  .obtain⟨s,_,u,_⟩:=hi.good (f b (.inl ⟨_,h⟩));exact⟨s,u,m,q,r⟩
 .obtain⟨v,C,x,F,K,G⟩:=hi.own t z b cap n sz h;refine⟨v,C,x,F,?_,G⟩;cases e:look a b with
  |none=>rfl
  |some c=>exact((hi.good (f b (.inl ⟨_,e⟩))).2.2.2.1 t z _ h).elim
 .obtain⟨v,C,x⟩:=hi.ex.frz b A;refine⟨v,?_,x⟩;cases e:look a b with
  |none=>rfl
  |some c=>have:=(hi.good (f b (.inl ⟨_,e⟩))).2.2.2.2;rw[A]at this;cases this
 .obtain⟨m,q,r⟩:=p b o fp h;refine⟨m,q,λj D=>?_⟩;obtain⟨s,H,u,I,J⟩:=hi.good (f j (.inr ⟨b,o,fp,h,D⟩));exact⟨s,H,u,r j D,I,J⟩
abbrev pO(o:da Nat):dh:=.pointer (o.map λj=>⟨j,0,none⟩)
def lcs(a b:Nat)(nx:da Nat):db V:=[.at (.map (some a)),.at (.map (some b)),.at (pO nx)]
def zSU{g:Gh}{w:de}(a b:Nat)(nx:da Nat):RCs g w (lcs a b nx) [.map (some a),.map (some b),pO nx]:=by
 simp only[lcs,RCs];exact⟨[_],_,rfl,by simp[RC,one],[_],_,rfl,by simp[RC,one],[_],_,rfl,by simp[RC,one],rfl⟩
def lcs_us{g:Gh}{w:de}{a b:Nat}{nx:da Nat}{us:db dh}(h:RCs g w (lcs a b nx) us):us=[.map (some a),.map (some b),pO nx]:=by
 simp only[lcs,RCs,RC]at h;obtain⟨_,_,rfl,⟨rfl,_⟩,_,_,rfl,⟨rfl,_⟩,_,_,rfl,⟨rfl,_⟩,rfl⟩:=h;rfl
def lvR(r:db (MC×MC))(nx:da Nat)(fp:db Nat):db (Nat×OV×db Nat):=match r,nx with
 |_::_,some n=>[(n,.lv r,fp)]
 |_,_=>[]
def j8(a:db (Nat×OV×db Nat))(p:Nat->dd):db (Nat×OV×db Nat):=a.filter λx=>p x.1
def qc(a:db (Nat×OV×db Nat))(p:Nat->dd)(b:Nat):zE (j8 a p) b=if p b=true then zE a b else none:=kg p a b
def openLv(st:S)(b a c:Nat)(x:MC×MC)(r:db (MC×MC))(nx:da Nat)(fp:db Nat):S:=
 ⟨lay st.box b (lcs a c nx,3),st.tg,st.nx,(a,.mp x.1,[a])::(c,.mp x.2,[c])::(lvR r nx fp++j8 st.ob λk=>!(k==b))⟩
def zLW{r:db (MC×MC)}{nx:da Nat}{fp:db Nat}{k:Nat}{o:OV}{f:db Nat}(h:zE (lvR r nx fp) k=some (o,f)):nx=some k/\o=.lv r/\f=fp/\r≠[]:=by
 unfold lvR at h;split at h
 .rename_i y a n;rw[zK]at h;split at h
  .rename_i e;injection h with h
   obtain⟨rfl,rfl⟩:=zVf h;exact⟨by rw[e],rfl,rfl,dQ⟩
  .cases h
 .cases h
def LMem.nil_or{g:Gh}{w:de}{r:db (MC×MC)}{nx:da Nat}{fp:db Nat}(h:LMem g w r nx fp):(r=[]/\nx=none/\fp=[])\/∃n,nx=some n/\r≠[]/\n∈fp:=by
 cases r with
 |nil=>exact .inl ⟨rfl,h.1,h.2⟩
 |cons x r=>
  obtain⟨b,e,f,a,el,c,d,rfl,_⟩:=h;exact .inr ⟨b,d,dQ,dQ⟩
def Inv.openG{B:Nat}{g:Gh}{st:S}{w:de}(hi:Inv B g st w){b i l:Nat}{nx:da Nat}{el:dg}{x:MC×MC}{r:db (MC×MC)}{a:db Nat}{Q:OV}(A:zE st.ob b=some (Q,b::i::l::a))(J:(b::i::l::a).Nodup)
 (R:w.heap[b]?=some (.cells #[.map (some i),.map (some l),pO nx] el (0,0))) (T:MMem g w i x.1) (U:MMem g w l x.2) (K:r≠[]->LMem g w r nx a):Inv B g (Al.openLv st b i l x r nx a) w:=by
 obtain⟨_,h2,V⟩:=hi.ex.ob b _ _ A;simp only[zUm,zUG,not_or]at J;obtain⟨⟨W,X,Y⟩,⟨L,M⟩,N,Z⟩:=J;have u:∀k o f,zE st.ob k=some (o,f)->k≠b->∀j∈f,j∉b::i::l::a:=λk o f hk v j d E=>v (hi.ex.obd k o f b _ _ j hk A d E);have m:∀{k o f},zE (Al.openLv st b i l x r nx a).ob k=some (o,f)->(k=i/\o=.mp x.1/\f=[i])\/(k=l/\o=.mp x.2/\f=[l])\/(nx=some k/\o=.lv r/\f=a/\r≠[])\/(zE st.ob k=some (o,f)/\k≠b):=λ{k o f} h=>by
  replace h:zE ((i,.mp x.1,[i])::(l,.mp x.2,[l])::(lvR r nx a++j8 st.ob λk=>!(k==b))) k=some (o,f):=h;rw[zK]at h;split at h
  .rename_i e;injection h with h;obtain⟨rfl,rfl⟩:=zVf h;exact .inl ⟨e.symm,rfl,rfl⟩
  .rw[zK]at h;split at h
   .rename_i e;injection h with h;obtain⟨rfl,rfl⟩:=zVf h;exact .inr (.inl ⟨e.symm,rfl,rfl⟩)
   .rw[kx]at h;cases e:zE (lvR r nx a) k with
    |some p=>
     rw[e]at h;obtain⟨O,f2⟩:=p;injection h with h
     obtain⟨rfl,rfl⟩:=zVf h;exact .inr (.inr (.inl (zLW e)))
    |none=>
     rw[e,qc]at h;replace h:(if(!(k==b))=true then zE st.ob k else none)=some (o,f):=h;split at h
     .rename_i y;exact .inr (.inr (.inr ⟨h,by simpa using y⟩))
     .cases h
 have z:∀j c,look (Al.openLv st b i l x r nx a).box j=some c->(j=b/\c=(lcs i l nx,3))\/(look st.box j=some c/\j≠b):=λj c h=>by
  replace h:look (lay st.box b (lcs i l nx,3)) j=some c:=h;rw[zO]at h;split at h
  .rename_i e;injection h with h;exact .inl ⟨e.symm,h.symm⟩
  .rename_i e;exact .inr ⟨h,λy=>e y.symm⟩
 have F:∀j∈i::l::a,j≠b:=λj d e=>by
  subst e;simp only[zUG]at d;rcases d with e|e|e
  .exact W e
  .exact X e
  .exact Y e
 have t:∀j∈i::l::a,look (Al.openLv st b i l x r nx a).box j=none:=λj d=>by
  cases e:look (Al.openLv st b i l x r nx a).box j with
  |none=>rfl
  |some c=>
   rcases z j c e with⟨rfl,_⟩|⟨y,_⟩
   .exact absurd rfl (F j d)
   .have:=(V j (zUW _ d)).2.2.2.1;rw[y]at this;cases this
 refine hi.reob (λj d=>?_) (λk cs c h=>?_) (λk o f h=>?_) (λk1 o1 f1 k2 O f2 j G y q s=>?_)
 .rcases d with⟨c,h⟩|⟨k,o,f,h,d⟩
  .rcases z j c h with⟨rfl,_⟩|⟨h,_⟩
   .exact .inr ⟨_,_,_,A,dQ⟩
   .exact .inl ⟨_,h⟩
  .rcases m h with⟨_,_,rfl⟩|⟨_,_,rfl⟩|⟨_,_,rfl,_⟩|⟨h,_⟩
   .simp only[zUJ]at d;subst d;exact .inr ⟨_,_,_,A,dQ⟩
   .simp only[zUJ]at d;subst d;exact .inr ⟨_,_,_,A,dQ⟩
   .exact .inr ⟨_,_,_,A,by simp[d]⟩
   .exact .inr ⟨_,_,_,h,d⟩
 .rcases z k _ h with⟨rfl,e⟩|⟨h,_⟩
  .obtain⟨rfl,rfl⟩:=zVf e;exact .inr ⟨zUB _,by intro c P;simp only[lcs,zUG,zU4,zVL]at P;rcases P with rfl|rfl|rfl<;>rfl,_,_,_,R,rfl,zSU i l nx,rfl⟩
  .exact .inl h
 .rcases m h with⟨rfl,rfl,rfl⟩|⟨rfl,rfl,rfl⟩|⟨e,rfl,rfl,D⟩|⟨h,v⟩
  .exact⟨⟨rfl,T⟩,dQ,λj d=>by simp only[zUJ]at d;subst d;exact t _ dQ⟩
  .exact⟨⟨rfl,U⟩,dQ,λj d=>by simp only[zUJ]at d;subst d;exact t _ dQ⟩
  .subst e;refine⟨⟨D,Z,K D⟩,?_,λj d=>t j (by simp[d])⟩;rcases(K D).nil_or with⟨e,_⟩|⟨n,e,_,h⟩
   .exact absurd e D
   .injection e with e;subst e;exact h
  .obtain⟨q1,q2,q3⟩:=hi.ex.ob k o f h;refine⟨q1,q2,λj d=>?_⟩;cases e:look (Al.openLv st b i l x r nx a).box j with
   |none=>exact e
   |some c=>
    rcases z j c e with⟨G,_⟩|⟨y,_⟩
    .exact absurd (by rw[G];simp) (u k o f h v j d)
    .have:=(q3 j d).2.2.2.1;rw[y]at this;cases this
 .have own:∀{k o f},zE st.ob k=some (o,f)->k≠b->j∈f->j∈i::l::a->False:=λh v d E=>u _ _ _ h v j d (zUW _ E);rcases m G with⟨rfl,_,rfl⟩|⟨rfl,_,rfl⟩|⟨C,_,rfl,_⟩|⟨C,H⟩<;>rcases m y with⟨rfl,_,rfl⟩|⟨rfl,_,rfl⟩|⟨b1,_,rfl,_⟩|⟨b1,I⟩
  .rfl
  .simp only[zUJ]at q s;exact absurd (q.symm.trans s) L
  .simp only[zUJ]at q;subst q;exact absurd s M
  .simp only[zUJ]at q;subst q;exact(own b1 I s dQ).elim
  .simp only[zUJ]at q s;exact absurd (s.symm.trans q) L
  .rfl
  .simp only[zUJ]at q;subst q;exact absurd s N
  .simp only[zUJ]at q;subst q;exact(own b1 I s dQ).elim
  .simp only[zUJ]at s;subst s;exact absurd q M
  .simp only[zUJ]at s;subst s;exact absurd q N
  .rw[C]at b1;injection b1
  .exact(own b1 I s eO).elim
  .simp only[zUJ]at s;subst s;exact(own C H q dQ).elim
  .simp only[zUJ]at s;subst s;exact(own C H q dQ).elim
  .exact(own C H q (by simp[s])).elim
  .exact hi.ex.obd k1 o1 f1 k2 O f2 j C b1 q s
def Inv.openLv{B:Nat}{g:Gh}{st:S}{w:de}(hi:Inv B g st w){b:Nat}{x:MC×MC}{r:db (MC×MC)}{fp:db Nat}(f:zE st.ob b=some (.lv (x::r),fp)) :
 ∃c d nx a,fp=b::c::d::a/\fp.Nodup/\((r=[]/\nx=none/\a=[])\/∃n,nx=some n/\r≠[]/\n∈a)/\Inv B g (Al.openLv st b c d x r nx a) w:=by
 obtain⟨⟨_,h,m,c,d,nx,el,a,e,rfl,j,k,l,i⟩,o,p⟩:=hi.ex.ob b _ _ f;injection e with e
 subst e;exact⟨c,d,nx,a,rfl,h,i.nil_or,hi.openG f h j k l λ_=>i⟩
def Inv.open1{B:Nat}{g:Gh}{st:S}{w:de}(hi:Inv B g st w){b:Nat}{x:MC×MC}{fp:db Nat}(d:zE st.ob b=some (.l1 x,fp)) :
 ∃a c nx,fp=[b,a,c]/\fp.Nodup/\Inv B g (Al.openLv st b a c x [] nx []) w:=by
 obtain⟨⟨a,c,nx,el,rfl,f,h,i,j⟩,_,_⟩:=hi.ex.ob b _ _ d;exact⟨a,c,nx,rfl,f,hi.openG d f h i j λe=>absurd rfl e⟩
def closeOb(st:S)(b:Nat)(o:OV)(fp ds:db Nat):S:=⟨wipe st.box b,st.tg,st.nx,(b,o,fp)::j8 st.ob λk=>!(ds.contains k)⟩
def zOR(l:db (Nat×db V×Nat))(b j:Nat):look (wipe l b) j=if b=j then none else look l j:=yR l b j
def Inv.closeOb{B:Nat}{g:Gh}{st:S}{w:de}(hi:Inv B g st w){b:Nat}{o:OV}{fp ds:db Nat}{c:db V×Nat}(E:look st.box b=some c)
 (H:∀d∈ds,∃o f,zE st.ob d=some (o,f)/\∀j∈f,j∈fp) (n:∀j∈fp,j=b\/∃d∈ds,∃o f,zE st.ob d=some (o,f)/\j∈f) (u:b∈fp) (v:OMem g w b o fp):Inv B g (Al.closeOb st b o fp ds) w:=by
 have r:∀{k o f},zE st.ob k=some (o,f)->b∉f:=λ{k o f} h i=>by
  have:=((hi.ex.ob k o f h).2.2 b i).2.2.2.1;rw[E]at this;cases this
 have a:∀{k o' f},zE (Al.closeOb st b o fp ds).ob k=some (o',f)->(k=b/\o'=o/\f=fp)\/(zE st.ob k=some (o',f)/\k∉ds/\k≠b):=λ{k o' f} h=>by
  replace h:zE ((b,o,fp)::j8 st.ob λk=>!(ds.contains k)) k=some (o',f):=h;rw[zK]at h;split at h
  .rename_i e;injection h with h;obtain⟨rfl,rfl⟩:=zVf h;exact .inl ⟨e.symm,rfl,rfl⟩
  .rename_i e;rw[qc]at h;split at h
   .rename_i p;refine .inr ⟨h,?_,λx=>e x.symm⟩;simpa using p
   .cases h
 have l:∀j c,look (Al.closeOb st b o fp ds).box j=some c->look st.box j=some c/\j≠b:=λj c h=>by
  replace h:look (wipe st.box b) j=some c:=h;rw[zOR]at h;split at h
  .cases h
  .rename_i e;exact⟨h,λp=>e p.symm⟩
 have m:∀{k o' f j},zE st.ob k=some (o',f)->k∉ds->j∈f->j∈fp->False:=λ{k o' f j} h F i v=>by
  rcases n j v with rfl|⟨d,y,q,f2,s,t⟩
  .exact r h i
  .have:=hi.ex.obd k o' f d q f2 j h s i t;subst this;exact F y
 refine hi.reob (λj i=>?_) (λk cs c h=>.inl (l k _ h).1) (λk o' f h=>?_) (λk1 I f1 k2 q f2 j z p A C=>?_)
 .rcases i with⟨c,h⟩|⟨k,o',f,h,i⟩
  .exact .inl ⟨c,(l j c h).1⟩
  .rcases a h with⟨_,_,rfl⟩|⟨h,_⟩
   .rcases n j i with rfl|⟨d,y,q,f2,s,t⟩
    .exact .inl ⟨_,E⟩
    .exact .inr ⟨d,q,f2,s,t⟩
   .exact .inr ⟨_,_,_,h,i⟩
 .rcases a h with⟨rfl,rfl,rfl⟩|⟨h,F,J⟩
  .refine⟨v,u,λj i=>?_⟩;cases e:look (Al.closeOb st k o' f ds).box j with
   |none=>exact e
   |some D=>
    obtain⟨z,p⟩:=l j D e;rcases n j i with x|⟨d,y,q,f2,s,t⟩
    .exact absurd x p
    .have:=((hi.ex.ob d q f2 s).2.2 j t).2.2.2.1;rw[z]at this;cases this
  .obtain⟨K,L,M⟩:=hi.ex.ob k o' f h;refine⟨K,L,λj i=>?_⟩;cases e:look (Al.closeOb st b o fp ds).box j with
   |none=>exact e
   |some D=>
    have:=(M j i).2.2.2.1;rw[(l j D e).1]at this;cases this
 .rcases a z with⟨rfl,_,rfl⟩|⟨G,N,_⟩<;>rcases a p with⟨rfl,_,rfl⟩|⟨b1,O,_⟩
  .rfl
  .exact(m b1 O C A).elim
  .exact(m G N A C).elim
  .exact hi.ex.obd k1 I f1 k2 q f2 j G b1 A C
def Inv.boxLv{B:Nat}{g:Gh}{st:S}{w:de}(hi:Inv B g st w){b a c:Nat}{nx:da Nat}(f:look st.box b=some (lcs a c nx,3)):∃el,w.heap[b]?=some (.cells #[.map (some a),.map (some c),pO nx] el (0,0)):=by
 obtain⟨_,_,_,_,arr,el,us,h,i,j,k⟩:=hi.box b _ _ f;have d:=lcs_us j;refine⟨el,?_⟩;have e:arr=#[.map (some a),.map (some c),pO nx]:=by
  apply zVk;rw[<-zVb (l:=arr.toList),show arr.toList.length=(lcs a c nx).length by rw[zVS,i];rfl,k,d]
 rw[h,e]
def zKO{B:Nat}{g:Gh}{st:S}{w:de}(hi:Inv B g st w){d:Nat}{c:MC}{f:db Nat}(h:zE st.ob d=some (.mp c,f)):f=[d]/\MMem g w d c:=(hi.ex.ob d _ _ h).1
def Inv.closeLv{B:Nat}{g:Gh}{st:S}{w:de}(hi:Inv B g st w){b l m:Nat}{nx:da Nat}{x:MC×MC}{r:db (MC×MC)}{f1 f2 fp:db Nat}(u:look st.box b=some (lcs l m nx,3))(q:zE st.ob l=some (.mp x.1,f1))(s:zE st.ob m=some (.mp x.2,f2))(v:l≠m)
 (c:(r=[]/\nx=none/\fp=[])\/∃n,nx=some n/\zE st.ob n=some (.lv r,fp)):Inv B g (Al.closeOb st b (.lv (x::r)) (b::l::m::fp) (l::m::nx.toList)) w:=by
 obtain⟨rfl,y⟩:=zKO hi q;obtain⟨rfl,z⟩:=zKO hi s;obtain⟨el,A⟩:=hi.boxLv u;have i:∀{k o f},zE st.ob k=some (o,f)->b∉f:=λ{k o f} h a=>by
  have:=((hi.ex.ob k o f h).2.2 b a).2.2.2.1;rw[u]at this;cases this
 have b1:b≠l:=λe=>i q d5;have C:b≠m:=λe=>i s d5;have D:LMem g w r nx fp/\fp.Nodup/\(∀j∈fp,j≠b/\j≠l/\j≠m/\∃n,nx=some n/\zE st.ob n=some (.lv r,fp)):=by
  rcases c with⟨rfl,rfl,rfl⟩|⟨n,rfl,c⟩
  .exact⟨⟨rfl,rfl⟩,zUp,λj a=>eZ⟩
  .obtain⟨⟨_,E,F⟩,_,_⟩:=hi.ex.ob n _ _ c;refine⟨F,E,λj a=>⟨λe=>i c (e▸a),λe=>?_,λe=>?_,n,rfl,c⟩⟩
   .have:=hi.ex.obd n _ _ l _ _ j c q a d5;subst this;rw[q]at c;injection c with c;cases c
   .have:=hi.ex.obd n _ _ m _ _ j c s a d5;subst this;rw[s]at c;injection c with c;cases c
 obtain⟨G,H,t⟩:=D;refine hi.closeOb u (λd p=>?_) (λj a=>?_) dQ ⟨dQ,?_,b,l,m,nx,el,fp,rfl,rfl,A,y,z,G⟩
 .simp only[zUG,Option.mem_toList]at p;rcases p with rfl|rfl|p
  .exact⟨_,_,q,λj a=>by simp only[zUJ]at a;simp[a]⟩
  .exact⟨_,_,s,λj a=>by simp only[zUJ]at a;simp[a]⟩
  .rcases c with⟨_,e,_⟩|⟨n,e,c⟩
   .rw[e]at p;cases p
   .rw[e]at p;injection p with p;subst p;exact⟨_,_,c,λj a=>by simp[a]⟩
 .simp only[zUG]at a;rcases a with rfl|rfl|rfl|a
  .exact .inl rfl
  .exact .inr ⟨_,dQ,_,_,q,dQ⟩
  .exact .inr ⟨_,dQ,_,_,s,dQ⟩
  .obtain⟨_,_,_,n,e,h⟩:=t j a;exact .inr ⟨n,by simp[e],_,_,h,a⟩
 .simp only[zUm,zUG,not_or];exact⟨⟨b1,C,λh=>(t b h).1 rfl⟩,⟨v,λh=>(t l h).2.1 rfl⟩,λh=>(t m h).2.2.1 rfl,H⟩
def Inv.close1{B:Nat}{g:Gh}{st:S}{w:de}(hi:Inv B g st w){b i l:Nat}{nx:da Nat}{x:MC×MC}{f1 f2:db Nat}(p:look st.box b=some (lcs i l nx,3))(m:zE st.ob i=some (.mp x.1,f1))(n:zE st.ob l=some (.mp x.2,f2))(q:i≠l) :
 Inv B g (Al.closeOb st b (.l1 x) [b,i,l] [i,l]) w:=by
 obtain⟨rfl,s⟩:=zKO hi m;obtain⟨rfl,t⟩:=zKO hi n;obtain⟨el,u⟩:=hi.boxLv p;have c:∀{k o f},zE st.ob k=some (o,f)->b∉f:=λ{k o f} h a=>by
  have:=((hi.ex.ob k o f h).2.2 b a).2.2.2.1;rw[p]at this;cases this
 have b1:b≠i:=λe=>c m d5;have v:b≠l:=λe=>c n d5;refine hi.closeOb p (λd r=>?_) (λj a=>?_) dQ ⟨i,l,nx,el,rfl,by simp[b1,v,q],u,s,t⟩
 .simp only[zUG,zU4,zVL]at r;rcases r with rfl|rfl
  .exact⟨_,_,m,λj a=>by simp only[zUJ]at a;simp[a]⟩
  .exact⟨_,_,n,λj a=>by simp only[zUJ]at a;simp[a]⟩
 .simp only[zUG,zU4,zVL]at a;rcases a with rfl|rfl|rfl
  .exact .inl rfl
  .exact .inr ⟨_,dQ,_,_,m,dQ⟩
  .exact .inr ⟨_,dQ,_,_,n,dQ⟩
end
end Go.Al
namespace Go.Proofs.YtnamdpbcpnnhaaaGreatDoor
section
open Go.Al Go.Den Go.RowKit
attribute [local congr] xP xi x7 qP yX xL yN yO xQ xn xE xx xN xG yI yT xD x9 xy yh xj xO yi yo xH xF yn xI xM yl qR qB qA xh xg xm xK ym yk
abbrev tkV(l:db dw):V:=.lst (zx (l.map (CC.encV TI.tok))) (l.map (CC.encV TI.tok))
abbrev ptV(b:Nat):V:=.at (.pointer (some ⟨b,0,none⟩))
def tk_at{l:db dw}{i:Int}(b:0<=i)(c:i<l.length):(l.map (CC.encV TI.tok)).getD i.toNat .any=.agg [.at (.int .i64 (l.getD i.toNat tokD).kind),.at (.string ⟨(l.getD i.toNat tokD).text.toArray⟩),.at (.int .i64 (l.getD i.toNat tokD).file),.at (.int .i64 (l.getD i.toNat tokD).ffrom),.at (.int .i64 (l.getD i.toNat tokD).fto),.at (.bool (l.getD i.toNat tokD).blank)]:=by
 have a:i.toNat<l.length:=dM
 rw[zUV,show(l.map (CC.encV TI.tok))[i.toNat]?=(l[i.toNat]?).map (CC.encV TI.tok)from zUy,zUV,zUj a];rfl
set_option maxRecDepth 100000 in
def zFb{l:db dw}{f g j k m:V}{c:Nat}{i:Int}{s:S}(h:Al.look s.box c=some ([tkV l,f,g,j,k,m],6))(d:0<=i)(e:i<l.length) :
 FnC Tryz.prog 46 [ptV c,.at (.int .i64 i)] s λoc s'=>oc=.ret (.at (.string ⟨(l.getD i.toNat tokD).text.toArray⟩))/\s'=s:=by
 have a:=tk_at d e;have b:(l.map (CC.encV TI.tok)).length=l.length:=zUZ _;generalize l.getD i.toNat tokD=tk at a ⊢;refine xS Tryz.func46 rfl Tryz.ntmps46 Tryz.results46 (by show 2<=13;decide) λB=>?_;simp only[zUO,zUQ,zUR,qJ,Nat.reduceAdd]
 (repeat (first|refine zh ?_|(refine zd rfl ?_;try simp only[cx,reduceIte])|refine zT ?_|((first|refine zf polN ks46 _ rfl rfl ?_|refine zZ polN mixed ks46 _ rfl rfl dO dO ?_);simp only[↓cH,↓xe,cR,zm,zEE,jl,kQ,zAs,qY,jM,zUr,zU2,fits,z7,yA,zM,V.isOne,V.isAgg,V.size,jh,zUd,zUs,zUD,zUF,zUf,zUX,zUS,zUl,zUT,zUc,zUU,zUP,zUM,zUK,zUt,Nat.reduceAdd,Nat.reduceEqDiff,Nat.reduceLeDiff,reduceCtorEq,zUN,zUY,zVE,zUq,zIJ,zIN,zF9,zLa,zLV,zIm,zNp,zMI,zJA,zJD,zNZ,ks46,h,a])))
 refine⟨⟨d,by rw[b];exact e⟩,?_⟩
 (repeat (first|refine zh ?_|(refine zd rfl ?_;try simp only[cx,reduceIte])|refine zT ?_|((first|refine zf polN ks46 _ rfl rfl ?_|refine zZ polN mixed ks46 _ rfl rfl dO dO ?_);simp only[])))
 simp only[yx];exact⟨rfl,rfl,trivial⟩
def bdV(x:dy):V:=.agg [.at (.int .i64 x.space),.at (.int .i64 x.fto)]
abbrev bdC(a:db dy):db V:=zp (a.map bdV)
def zE6:∀a:db dy,(bdC a).length=a.length*2
 |[]=>rfl
 |x::r=>by
  have:=zE6 r;simp only[bdC,zUC,zp,bdV,V.flat,zUI,zUD,zUF]at this ⊢;omega
def zNP:∀(a:db dy)(n:Nat)(y:dy),n<a.length->bdC (a.set n y)=(bdC a).take (n*2)++([.at (.int .i64 y.space),.at (.int .i64 y.fto)]++(bdC a).drop (n*2+2))
 |[],n,y,h=>dU
 |x::r,0,y,h=>rfl
 |x::r,n+1,y,h=>by
  have b:=zNP r n y eX;simp only[bdC,List.set_cons_succ,zUC,zp]at b ⊢;rw[b,Nat.succ_mul,show n*2+2+2=(n*2+2)+2 from rfl];rfl
set_option maxRecDepth 100000 in
def zEe{a:db dy}{l m n o p:V}{c bo cap:Nat}{i d b:Int}{s:S}(h:Al.look s.box c=some ([l,.at (.slice (some ⟨bo,0,none⟩) a.length cap),m,n,o,p],6))(q:Al.look s.box bo=some (bdC a,cap*2))
 (f:bo≠c) (r:0<=i) (t:i<a.length) (v:a.length<=cap) (u:IntKind.i64.wrap (b-1)=b-1) :
 FnC Tryz.prog 127 [ptV c,.at (.int .i64 i),.at (.int .i64 d),.at (.int .i64 b)] s λoc s'=>oc=.ret (.tup [])/\s'=⟨lay s.box bo (bdC (a.set i.toNat ⟨d,b-1⟩),cap*2),s.tg,s.nx,s.ob⟩:=by
 refine xS Tryz.func127 rfl Tryz.ntmps127 Tryz.results127 (by show 4<=18;decide) λB=>?_;simp only[zUO,zUQ,zUR,qJ,Nat.reduceAdd];have k:¬c=bo:=λe=>f e.symm
 (repeat (first|refine zh ?_|(refine zd rfl ?_;try simp only[cx,reduceIte])|refine zT ?_|((first|refine zf polN zOJ _ rfl rfl ?_|refine zZ polN mixed zOJ _ rfl rfl dO dO ?_);simp only[↓cG,↓qK,↓xe,↓jI,↓zHH,cy,c6,cS,zDV,zw,cI,xo,jL,ke,spl,zUr,zUC,zUL,zU2,z7,yA,zM,V.flat,zUD,zUF,zUf,zUX,zUS,zUl,zUT,zUc,zUU,zUP,zUM,zUK,zUt,Nat.reduceAdd,Nat.reduceEqDiff,Nat.reduceLeDiff,reduceCtorEq,zUN,zUY,zUq,hasT44,aggT44,zSw,elT44,hasT47,zSl,zTv,zOJ,h,q,u])))
 refine zEu (cs:=[.at (.int .i64 0),.at (.int .i64 0)]) (cs':=[.at (.int .i64 d),.at (.int .i64 (b-1))]) dO dO dO ?_;have g:=zE6 a;have j:i.toNat*2+2<=a.length*2:=dM
 refine⟨⟨r,t⟩,rfl,rfl,by rw[g];exact j,rfl,?_⟩;rw[zNP a i.toNat _ dM];show(⟨lay s.box bo ((List.take (i.toNat*2) _++[.at (.int .i64 d),.at (.int .i64 (b-1))])++List.drop (i.toNat*2+2) _,cap*2),s.tg,s.nx,s.ob⟩:S)=_;rw[zVB]
def _root_.cY:=c9 @kp @zAf
def _root_.c8:=c9 @jv @zA2
set_option maxRecDepth 100000 in
def ok47x{l m n p q:V}{f:Nat}{o:da Nat}{s:S}(h:Al.look s.box f=some ([l,m,.at (pO o),n,p,q],6)) :
 FnC Tryz.prog 47 [ptV f] s λoc s'=>oc=.ret (.tup [])/\∃b a c,Al.look s.box b=none/\zE s.ob a=none/\zE s.ob c=none/\c≠a/\s'=⟨lay (lay s.box b (lcs a c o,3)) f ([l,m,ptV b,n,p,q],6),s.tg,s.nx,(c,.mp [],[c])::(a,.mp [],[a])::s.ob⟩:=by
 refine xS Tryz.func47 rfl Tryz.ntmps47 Tryz.results47 (by show 1<=14;decide) λB=>?_;simp only[zUO,zUQ,zUR,qJ,Nat.reduceAdd];refine zf polN ks47 _ rfl rfl ?_;simp only[↓zG2,↓zQE,↓zFI,zk];refine⟨trivial,λa j=>⟨trivial,λc d=>?_⟩⟩;have g:c≠a:=λe=>by
  subst e;rw[zK,if_pos rfl]at d;cases d
 refine zEu (cs:=[.at (.map none),.at (.map none)]) (cs':=[.at (.map (some a)),.at (.map (some c))]) dO dO dO ?_;simp only[↓cZ,↓cB,↓zK1,↓zHH,cy,c6,zw,cI,zUr,zUC,zUL,zU2,z7,yA,V.flat,zUD,zUF,zUf,zUX,zUS,zUl,zUT,zUc,zUU,zUP,zUM,zUK,zUt,Nat.reduceAdd,Nat.reduceEqDiff,Nat.reduceLeDiff,reduceCtorEq,zUN,zUY,zUq,cY,c8,ks47,h];refine zEu (cs:=[.at (.map none),.at (.map none),.at (.pointer none)]) (cs':=lcs a c o) dO dO dO ?_;refine⟨rfl,λb k=>?_⟩;have i:¬b=f:=λe=>by rw[e,h]at k;cases k
 have r:¬f=b:=λe=>i e.symm;simp only[xo,spl,zUO,zUQ,zU2,zM,V.isOne,V.flat,zUd,zUs,zUD,zUF,zUf,zUX,zUS,zUl,zUU,zUP,zUK,zUt,Nat.reduceAdd,Nat.reduceLeDiff,zUY,zO,kp,jv,h,i];exact⟨rfl,b,a,c,k,j,by rw[zK,if_neg (λe=>g e.symm)]at d;exact d,g,rfl⟩
set_option maxRecDepth 100000 in
def ok104x{d f g i j:V}{a b m n:Nat}{o:da Nat}{s:S}(h:Al.look s.box a=some ([d,f,ptV b,g,i,j],6))(k:Al.look s.box b=some (lcs m n o,3))(c:b≠a) :
 FnC Tryz.prog 104 [ptV a] s λoc s'=>oc=.ret (ptV b)/\s'=⟨lay s.box a ([d,f,.at (pO o),g,i,j],6),s.tg,s.nx,s.ob⟩:=by
 refine xS Tryz.func104 rfl Tryz.ntmps104 Tryz.results104 (by show 1<=16;decide) λB=>?_;simp only[zUO,zUQ,zUR,qJ,Nat.reduceAdd];have l:¬a=b:=λe=>c e.symm;unfold lcs at k
 (repeat (first|refine zh ?_|(refine zd rfl ?_;try simp only[cx,reduceIte])|refine zT ?_|((first|refine zf polN zN2 _ rfl rfl ?_|refine zZ polN mixed zN2 _ rfl rfl dO dO ?_);simp only[↓cH,↓jI,cR,c6,zm,zDK,xo,spl,zUr,zUO,zUQ,zU2,z7,yA,zM,V.isOne,V.flat,zUd,zUs,zUD,zUF,zUf,zUX,zUS,zUl,zVC,zUT,zUc,zUU,zUP,zUM,zUK,zUt,Nat.reduceAdd,Nat.reduceEqDiff,Nat.reduceLeDiff,reduceCtorEq,zUN,zUY,zUB,zUq,cY,c8,zDd,zN2,h,k])))
 simp only[yx];exact⟨rfl,rfl,trivial⟩
end
section
open Go.Al Go.Den Go.RowKit Go.Shelf
attribute [local go_sem] Oper.semAt_some
def jk(n k:Nat):db (Fin n):=(List.finRange n).reverse.take k
def zC4(n k m:Nat)(h:m+k+1=n):jk n (k+1)=jk n k++[⟨m,dM⟩]:=by
 unfold jk;rw[zVT d4];congr 2;rw[List.getElem_reverse];apply Fin.ext;simp;omega
def zFj(n k:Nat)(h:k<=n):(jk n k).length=k:=by simp[jk,h]
def KpB(a b n:Nat)(A B:de):Prop:=(∀v,A.cell? ⟨a,0,none⟩=some v->B.cell? ⟨a,0,none⟩=some v)/\∀j v,j<n->A.cell? ⟨b,j,none⟩=some v->B.cell? ⟨b,j,none⟩=some v
def KpB.refl(a b n:Nat)(A:de):KpB a b n A A:=⟨λ_ h=>h,λ_ _ _ h=>h⟩
def KpB.trans{a b n:Nat}{A B C:de}(h:KpB a b n A B)(k:KpB a b n B C):KpB a b n A C:=⟨λv e=>k.1 v (h.1 v e),λj v c e=>k.2 j v c (h.2 j v c e)⟩
def KpB.put{d b n:Nat}(W:de)(l:Nat)(o o':Obj)(f:W.heap[l]?=some o)(g:o.isCells=false):KpB d b n W (W.putObj l o'):=by
 have a:∀b j v,W.cell? ⟨b,j,none⟩=some v->(W.putObj l o').cell? ⟨b,j,none⟩=some v:=λb j v e=>by
  refine(World.cell?_of_block (World.putObj_heap_other ?_)).trans e;intro c;have c:b=l:=c;subst c;unfold World.cell? at e;simp only[f]at e;cases o<;>first|(cases g;done)|(cases e;done)|(simp at e;done)
 exact⟨λv e=>a _ _ _ e,λj v _ e=>a _ _ _ e⟩
set_option maxRecDepth 100000 in
def zRh(F:dH)(n:Nat)(h8:F.fn 129)(hro:F.round=none)(hn:1<=n)(l Bs b cap:Nat)(bs:db Nat)(hreach:bs.length<1000000)(J Jx:db (Fin bs.length)->de->Prop)
 (hY:∀pre x W,J pre W->pre.length<bs.length->YieldAt F (n-1) Tryz.prog l #[.int .i64 (x.1:Int),.map (some (bs[x.1]?.getD 0))] W λe W'=>
  (e=.returned (.bool true)/\J (pre++[x]) W'/\KpB Bs b bs.length W W')\/(e=.returned (.bool false)/\Jx (pre++[x]) W'))
 (W:de) (hBs:W.cell? ⟨Bs,0,none⟩=some (.slice (some ⟨b,0,none⟩) bs.length cap)) (hc:∀j,j<bs.length->W.cell? ⟨b,j,none⟩=some (.map (some (bs[j]?.getD 0)))) (h0:J [] W) :
 CallsIn F n Tryz.prog 129 #[.func (.yield l) #[] #[],.pointer (some ⟨Bs,0,none⟩)] W λe W'=>(∃v,e=.returned v) /\
  ((∃ys,ys=jk bs.length bs.length/\J ys W')\/(∃pre,(∃k,k<=bs.length/\pre=jk bs.length k)/\Jx pre W')):=by
 refine callsIn_of_wp Tryz.func129 rfl h8 ?_ hro;simp only[Tryz.ntmps129,zVO,zUD,zUF,Nat.reduceAdd,Nat.reduceSub,zVM,zVN,zVZ,zVR,zUQ,zUO];have hsub:IntKind.i64.wrap ((bs.length:Int)-1)=(bs.length:Int)-1:=IntWalk.i64_in _ dM;gi_wp2
 gi_loopw [3] (λi wr=>∃k:Nat,k<=bs.length/\i=.int .i64 ((bs.length:Int)-1-k)/\J (jk bs.length k) wr/\KpB Bs b bs.length W wr)
  (λi _=>(intOf i+1).toNat)
 case atStart=>exact⟨0,zVI _,dQ,h0,KpB.refl _ _ _ _⟩
 case round=>
  obtain⟨k,hk,rfl,hJs,hnx⟩:=hrel;have hBs':=hnx.1 _ hBs;by_cases hlt:k<bs.length
  .obtain⟨m,hm⟩:∃m:Nat,m+k+1=bs.length:=⟨bs.length-1-k,dM⟩;have hcx:=hnx.2 m _ dM (hc m dM);have ei:(bs.length:Int)-1-(k:Int)=(m:Int):=dM
   rw[ei];obtain⟨fn,tmps,assign,body,hy,hR⟩:=hY _ ⟨m,dM⟩ wr hJs (by rw[zFj _ _ hk];exact hlt);dsimp only at hy;have hlt2:(m:Int)<(bs.length:Int):=dM
   have hge2:¬((m:Int)<0):=dM
   gi_wp2;refine hR.mono ?_;have hm':m=bs.length-1-k:=dM
   rintro e W3 (⟨rfl,hJ3,hk3⟩|⟨rfl,hJx3⟩)
   .have hsub3:IntKind.i64.wrap ((m:Int)-1)=(m:Int)-1:=IntWalk.i64_in _ dM;gi_wp2;go_roundw
    case rel=>exact⟨k+1,dM,by congr 1;omega,by rw[zC4 _ _ _ hm];exact hJ3,hnx.trans hk3⟩
    case measure=>simp[intOf];omega
   .gi_wp2;refine bodyPost_ret (results_none rfl _ _ _) rfl ?_;exact⟨⟨_,rfl⟩,.inr ⟨_,⟨k+1,dM,(zC4 _ _ _ hm).symm⟩,hJx3⟩⟩
  .obtain rfl:k=bs.length:=dM
   gi_wp2;go_end0;exact⟨⟨_,rfl⟩,.inl ⟨_,rfl,hJs⟩⟩
def zTn(F:dH)(n:Nat)(c:F.fn 109)(b:F.round=none)(a:da Addr)(len cap:Nat)(w:de) :
 CallsIn F n Tryz.prog 109 #[.slice a len cap] w λe w'=>e=.returned (.func (.func 129) #[] #[.pointer (some ⟨w.heap.size,0,none⟩)])/\w'=w.alloc (.cells #[.slice a len cap] 64):=by
 refine callsIn_of_wp Tryz.func109 rfl c ?_ b;simp only[Tryz.ntmps109,zVO,zUD,zUF,Nat.reduceAdd,Nat.reduceSub,zVM,zVN,zVZ,zVR,zUQ,zUO];gi_wp2;go_ret;exact⟨rfl,rfl⟩
def zNl(F:dH)(n:Nat)(g:F.fn 129)(d:F.round=none)(h:1<=n)(c b cap:Nat)(bs:db Nat)(a:bs.length<1000000)(w:de)(i:c<w.heap.size)(m:b<w.heap.size)
 (o:w.cell? ⟨c,0,none⟩=some (.slice (some ⟨b,0,none⟩) bs.length cap)) (q:∀j,j<bs.length->w.cell? ⟨b,j,none⟩=some (.map (some (bs[j]?.getD 0)))) :
 SeqStopsK F n Tryz.prog 129 #[.pointer (some ⟨c,0,none⟩)] (λx:Fin bs.length=>#[Value.int .i64 (x.1:Int),Value.map (some (bs[x.1]?.getD 0))]) (KpB c b bs.length) (λys=>ys=jk bs.length bs.length)
  (λe=>∃k,k<=bs.length/\e=jk bs.length k) bs.length w:=λl J r W f _ _ s t=>
 zRh F n g d h l c b cap bs a J r s W ((f.cell (p:=⟨c,0,none⟩) i).trans o) (λj u=>(f.cell (p:=⟨b,j,none⟩) m).trans (q j u)) t
end
section
open Go.Al Go.Den Go.RowKit Go.Shelf
attribute [local go_sem] Oper.semAt_some
attribute [local congr] xP xi x7 qP yX xL yN yO xQ xn xE xx xN xG yI yT xD x9 xy yh xj xO yi yo xH xF yn xI xM yl qR qB qA xh xg xm xK ym yk
def zAY(a:Str):db MT->dd
 |[]=>false
 |m::r=>match qF m a with
  |some n=>if n≠0 then n==2 else zAY a r
  |none=>zAY a r
noncomputable def c76(b:Int×dc->MM (dd×dc))(a:Int×dc):MM (dd×dc):=λl s=>
 match b a l s with
 |some (some y)=>if y.2=s/\s.2.length<1000000/\(y.1.1=true->0<=s.1/\0<=a.1/\s.1+a.1<l.length/\l.length<1000000)then
  some (some ((y.1.1&&zAY (l.getD (s.1+a.1).toNat tokD).text s.2.reverse,()),s))else none
 |_=>none
def cM_use{P:di}{f:Nat}{aa rs:LK}{m:zA aa->MM (zA rs)}(h:dI CC P syn f (cM aa rs m)){l:db dw}{i:Int}{xs:db MT}{a:zA aa}{y:zA rs×PSt}(g:m a l (i,xs)=some (some y)){s:S}{b va:db V}{c d:db Res}
 (j:VKs CC s [parK] ((l,i,xs,(),()),()) b c) (k:VKs CC s aa a va d) (n:(c++d).Nodup):FnC P f (b++va) (subS s (c++d)) (jQ CC syn [parK] rs b (some (((l,y.2.1,y.2.2,(),()),()),y.1))):=by
 obtain⟨oc,k1,k2⟩:=h ((l,i,xs,(),()),()) a (R:=(zA ([parK]:LK)×zA rs)) none (λu v=>some (u,v)) (((l,y.2.1,y.2.2,(),()),()),y.1) (by
  have e:fM m ((l,i,xs,(),()),()) a (none:da (zA ([parK]:LK)×zA rs)) (λu v=>some (u,v))=some (((l,y.2.1,y.2.2,(),()),()),y.1):=by simp only[fM,g];rfl
  exact e)
 cases oc with
 |none=>cases k1
 |some o=>
  injection k1 with k1
  have:=k2 s b va c d j k n;rw[show o=(((l,y.2.1,y.2.2,(),()),()),y.1)from k1]at this;exact this
def Inv.refr{B:Nat}{c:Nat->Nat}{a:Nat->da (da (Nat×Nat×Nat×Nat))}{f1 f2:Fr}{st:S}{w:de}(h:Al.Inv B ⟨c,a,f1⟩ st w)
 (p:∀b,f2 b=true->b<w.heap.size/\Al.look st.box b=none/\∀t∈st.tg,∀d,a t=some (some (b,d))->False) (q:∀b o fp,zE st.ob b=some (o,fp)->∀j∈fp,f2 j=false) (r:f2.t=f1.t):Al.Inv B ⟨c,a,f2⟩ st w:=by
 have m:dD ⟨c,a,f1⟩ w ⟨c,a,f2⟩ w:=⟨λ_=>zUB _,λ_ _ e=>e,λ_ _ _=>rfl⟩;refine⟨h.base,λb cs k f=>?_,h.tag,h.own,h.dist,h.nodup,h.fresh,h.names,p,λb o fp f=>?_,h.ex.obd,λt s=>h.ex.ft t (by show f1.t t=true;rw[<-r];exact s)⟩
 .obtain⟨g,i,l,u,arr,el,us,v,x,y,z⟩:=h.box b cs k f;exact⟨g,i,l,u,arr,el,us,v,x,yE m _ _ y,z⟩
 .obtain⟨g,i,l⟩:=h.ex.ob b o fp f;refine⟨g.local m (λ_ _=>rfl),i,λj n=>?_⟩;obtain⟨A,C,D,E,F,G⟩:=l j n;exact⟨A,C,D,E,F,q b o fp f j n⟩
def Inv.but{B:Nat}{g:Gh}{st:S}{w w':de}(h:Al.Inv B g st w)(k:Nat)(E:Al.look st.box k=none)(F:∀t∈st.tg,∀d,g.tb t=some (some (k,d))->False)(G:∀b o fp,zE st.ob b=some (o,fp)->k∉fp)(H:g.wm k=0)
 (q:w.heap.size<=w'.heap.size) (r:∀j,j<w.heap.size->j≠k->w'.heap[j]?=w.heap[j]?):Al.Inv B g st w'/\dD g w g w':=by
 have x:dD g w g w':=⟨λ_=>zUB _,λ_ _ e=>e,λb o A=>by
  refine World.cell?_of_block (r b ?_ ?_)
  .rcases zUx b w.heap.size with m|m
   .exact m
   .rw[h.fresh b m]at A;omega
  .intro e;subst e;rw[H]at A;omega⟩
 have C:∀{b:Nat}{o:Obj},w.heap[b]?=some o->b<w.heap.size:=λm=>(zUH.1 m).1;refine⟨⟨zU0 h.base q,λb cs I a=>?_,h.tag,λt D b cap n sz p=>?_,h.dist,h.nodup,λb a=>h.fresh b (zU0 q a),h.names,λb J=>?_,λb o fp a=>?_,h.ex.obd,h.ex.ft⟩,x⟩
 .obtain⟨c,f,l,y,arr,el,us,s,u,z,K⟩:=h.box b cs I a;have i:b≠k:=λe=>by subst e;rw[E]at a;cases a
  exact⟨c,f,l,y,arr,el,us,(r b (C s) i).trans s,u,yE x _ _ z,K⟩
 .obtain⟨c,f,l,y,s,arr,el,u,z⟩:=h.own t D b cap n sz p;have i:b≠k:=λe=>by subst e;exact F t D _ p
  exact⟨c,f,l,y,s,arr,el,(r b (C u) i).trans u,z⟩
 .obtain⟨c,f⟩:=h.ex.frz b J;exact⟨zUo c q,f⟩
 .obtain⟨c,f,l⟩:=h.ex.ob b o fp a;refine⟨c.local x (λj v=>r j (l j v).2.1 (λe=>by subst e;exact G b o fp a v)),f,λj v=>?_⟩;obtain⟨L,M,N⟩:=l j v;exact⟨L,zUo M q,N⟩
def zPJ{P:di}{f:dt}{args:db V}{F:S}{Q:Outc->S->Prop}(H:FnC P f args F Q){B:Nat}{g:Gh}{w l:de}(hi:Al.Inv B g F w)(O:GlobOk B g.wm w){vs:db dh}(hv:RVs g w args vs)(y:dC w.heap.size w l) :
 Calls P f vs.toArray l λe u=>∃G x,dB B g w G u/\Al.Inv B G x u/\l.heap.size<=u.heap.size/\(∀j,w.heap.size<=j->j<l.heap.size->u.heap[j]?=l.heap[j]?/\Al.look x.box j=none/\G.wm j=0/\(∀t∈x.tg,∀d,G.tb t=some (some (j,d))->False)/\(∀b o fp,zE x.ob b=some (o,fp)->j∉fp)) /\
  match e with
  |.returned v=>∃r,RV G u r v/\Q (.ret r) x
  |.panicked c=>Q (.pan c) x
  |.outgrown=>False:=by
 obtain⟨C,D,i⟩:=g;have I:dD ⟨C,D,i⟩ w ⟨C,D,i⟩ l:=⟨λ_=>zUB _,λ_ _ e=>e,λb o N=>by
  refine World.cell?_of_block (y.block b ?_);rcases zUx b w.heap.size with J|J
  .exact J
  .rw[hi.fresh b J]at N;omega⟩
 have X:∀{b:Nat}{o:Obj},w.heap[b]?=some o->b<w.heap.size:=λJ=>(zUH.1 J).1;have K:Al.Inv B ⟨C,D,i⟩ F l:=hi.grow I y.size (λb h=>y.block b h) (λ_ _=>rfl) (λb h=>hi.fresh b (zU0 y.size h)) rfl rfl;obtain⟨a,m⟩:∃a:Fr,a=⟨λb=>i b||(decide (w.heap.size<=b)&&decide (b<l.heap.size)),i.t⟩:=⟨_,rfl⟩;have q:∀b,a b=true↔(i b=true\/(w.heap.size<=b/\b<l.heap.size)):=λb=>by
  rw[m];show(i b||_)=true↔_;simp
 have R:Al.Inv B ⟨C,D,a⟩ F l:=by
  refine Inv.refr K (λb h=>?_) (λb o fp h j L=>?_) (by rw[m])
  .rcases(q b).1 h with h|⟨h,h'⟩
   .exact K.ex.frz b h
   .refine⟨h',?_,λt ht d hd=>?_⟩
    .cases e:Al.look F.box b with
     |none=>rfl
     |some c=>
      obtain⟨cs,k⟩:=c;obtain⟨_,_,_,_,arr,el,us,E,_⟩:=hi.box b cs k e;have:=X E;omega
    .obtain⟨d1,d2,d3⟩:=d;obtain⟨_,_,_,_,_,arr,el,E,_⟩:=hi.own t ht b d1 d2 d3 hd;have:=X E;omega
  .cases e:a j with
   |false=>rfl
   |true=>
    obtain⟨Y,Z,q3⟩:=hi.ex.ob b o fp h;obtain⟨r1,r2,r3,r4,r5,r6⟩:=q3 j L;rcases(q j).1 e with h|⟨h,_⟩
    .rw[show i j=false from r6]at h;cases h
    .omega
 refine(H B ⟨C,D,a⟩ l vs R (O.below (Below.mono y hi.base) (λ_=>zUB _)) (hv.later (g':=⟨C,D,a⟩) ⟨I.wm,I.tb,I.cell⟩)).mono ?_;rintro e u ⟨⟨z,A,n⟩,x,s,M,T⟩;have e4:n=a:=s.fr;subst e4;have U:dD ⟨z,A,n⟩ u ⟨z,A,i⟩ u:=⟨λ_=>zUB _,λ_ _ e=>e,λ_ _ _=>rfl⟩;have p:∀b,i b=true->n b=true:=λb h=>(q b).2 (.inl h);refine⟨⟨z,A,i⟩,x,⟨⟨λb=>s.later.wm b,λt d e=>s.later.tb t d e,λb o N=>(s.later.cell b o N).trans (I.cell b o N)⟩,(Below.mono y hi.base).trans s.below,λb h=>?_,λb h=>s.wmB b h,rfl⟩,
  Inv.refr M (λb h=>M.ex.frz b (p b h)) (λb o fp h j L=>?_) (by rw[m]),s.below.size,λj E h6=>?_,?_⟩
 .obtain⟨k1,k2⟩:=s.fz b (p b h);exact⟨k1.trans (y.block b (hi.ex.frz b h).1),k2⟩
 .cases e:i j with
  |false=>rfl
  |true=>
   have:=((M.ex.ob b o fp h).2.2 j L).2.2.2.2.2;rw[show n j=true from p j e]at this;cases this
 .have W:=(q j).2 (.inr ⟨E,h6⟩);obtain⟨k1,k2⟩:=s.fz j W;obtain⟨k3,k4,k5⟩:=M.ex.frz j W;refine⟨k1,k4,k2.trans (hi.fresh j E),k5,λb o fp h L=>?_⟩;have:=((M.ex.ob b o fp h).2.2 j L).2.2.2.2.2;rw[show n j=true from W]at this;cases this
 .cases e with
  |returned v=>obtain⟨r,Y,Z⟩:=T;exact⟨r,Y.later U,Z⟩
  |panicked c=>exact T
  |outgrown=>exact T
def Inv.but'{B:Nat}{g:Gh}{st:S}{w w':de}(h:Al.Inv B g st w)(K:Nat->Prop)(v:∀k,K k->Al.look st.box k=none/\(∀t∈st.tg,∀d,g.tb t=some (some (k,d))->False)/\g.wm k=0)
 (q:w.heap.size<=w'.heap.size) (x:∀j,j<w.heap.size->¬K j->w'.heap[j]?=w.heap[j]?) (r:dD g w g w'->∀b o fp,zE st.ob b=some (o,fp)->OMem g w' b o fp):Al.Inv B g st w'/\dD g w g w':=by
 have y:dD g w g w':=⟨λ_=>zUB _,λ_ _ e=>e,λb o r=>by
  refine World.cell?_of_block (x b ?_ ?_)
  .rcases zUx b w.heap.size with l|l
   .exact l
   .rw[h.fresh b l]at r;omega
  .intro e;rw[(v b e).2.2]at r;omega⟩
 have C:∀{b:Nat}{o:Obj},w.heap[b]?=some o->b<w.heap.size:=λl=>(zUH.1 l).1;refine⟨⟨zU0 h.base q,λb cs E a=>?_,h.tag,λt D b cap n sz m=>?_,h.dist,h.nodup,λb a=>h.fresh b (zU0 q a),h.names,λb F=>?_,λb o fp a=>?_,h.ex.obd,h.ex.ft⟩,y⟩
 .obtain⟨i,c,p,z,arr,el,us,s,u,A,G⟩:=h.box b cs E a;have f:¬K b:=λe=>by have:=(v b e).1;rw[this]at a;cases a
  exact⟨i,c,p,z,arr,el,us,(x b (C s) f).trans s,u,yE y _ _ A,G⟩
 .obtain⟨i,c,p,z,s,arr,el,u,A⟩:=h.own t D b cap n sz m;have f:¬K b:=λe=>(v b e).2.1 t D _ m;exact⟨i,c,p,z,s,arr,el,(x b (C u) f).trans u,A⟩
 .obtain⟨i,c⟩:=h.ex.frz b F;exact⟨zUo i q,c⟩
 .obtain⟨i,c,p⟩:=h.ex.ob b o fp a;refine⟨r y b o fp a,c,λj H=>?_⟩;obtain⟨I,J,L⟩:=p j H;exact⟨I,zUo J q,L⟩
def zCI{g:Gh}{w:de}:∀{c:MT}{es:db MapEntry},MapR g w (trMC c) es->∀g' w',MapR g' w' (trMC c) es
 |[],_,h,_,_=>h
 |(k,z)::r,_,⟨e,a,d,f,i,j⟩,g',w'=>by
  refine⟨e,a,d,f,?_,zCI j g' w'⟩;obtain⟨us,b,l⟩:=i;simp only[RC]at b;exact⟨us,by simp only[RC];exact b,l⟩
def zDc{P:di}{c:Func}{p:Nat}{t:dg}{tmps:dv dh}{b:Nat}{r:dd}{w:de}(h:c.results=#[.cell p t])(e:tmps.getD p undef=.pointer (some ⟨b,0,none⟩))(f:fits P t (.at (.bool r)))(i:w.cell? ⟨b,0,none⟩=some (.bool r)) :
 (results c tmps).run P w=.ok (.bool r) w:=by
 have j:=zDY (g:=⟨λ_=>0,λ_=>none,Fr.no⟩) (w:=w) (b:=b) (o:=0) (ds:=[.bool r]) f (by simp[RC,one]) (λk u d=>by
  cases k with
  |zero=>simp at d;subst d;exact i
  |succ k=>simp at d)
 have l:(c.results.toList.mapM (zBI ({ tmps:=tmps,defers:=[] }:Act).tmps)).run P w=.ok [.bool r] w:=by
  rw[h];simp only[zWC,List.mapM_nil,Sem.run_bind,zBI,e,asAddr,Sem.run_pure,Result.andThen_ok,j];rfl
 exact zAQ (a:={ tmps:=tmps,defers:=[] }) l
def zJU{g:Gh}{w:de}{g':Gh}{w':de}:∀{bs:db Nat}{xs:db MT},MMems g w bs (xs.map trMC)->(∀j∈bs,w'.heap[j]?=w.heap[j]?)->MMems g' w' bs (xs.map trMC)
 |[],xs,h,_=>h
 |b::bs,[],⟨c,cs,d,_,_⟩,_=>by cases d
 |b::bs,x::xs,⟨c,cs,d,⟨arr,a,f,i⟩,k⟩,e=>by
  injection d with d l
  subst d;subst l;exact⟨_,_,rfl,⟨arr,a,(e b dQ).trans f,zCI i _ _⟩,zJU k λj m=>e j (by simp[m])⟩
def zHS{g:Gh}{w:de}{g':Gh}{w':de}:∀{bs:db Nat}{xs:db MT},bs.length=xs.length->(∀(i j:Nat)(c:MT),bs[i]?=some j->xs[i]?=some c->∃(arr:dv MapEntry)(a:Nat),w'.heap[j]?=some (Obj.map arr a)/\∀g w,MapR g w (trMC c) arr.toList)->MMems g' w' bs (xs.map trMC)
 |[],[],_,_=>rfl
 |[],_::_,h,_=>by simp at h
 |_::_,[],h,_=>by simp at h
 |b::bs,x::xs,h,d=>by
  obtain⟨arr,a,e,f⟩:=d 0 b x rfl rfl;exact⟨_,_,rfl,⟨arr,a,e,f _ _⟩,zHS (g:=g) (w:=w) eX λi j c k l=>d (i+1) j c (by simpa using k) (by simpa using l)⟩
def zJb{g:Gh}{w:de}:∀{bs:db Nat}{xs:db MT},MMems g w bs (xs.map trMC)->∀(i j:Nat)(c:MT),bs[i]?=some j->xs[i]?=some c->∃(arr:dv MapEntry)(a:Nat),w.heap[j]?=some (Obj.map arr a)/\∀g w,MapR g w (trMC c) arr.toList
 |[],_,_,_,_,_,h,_=>by simp at h
 |b::bs,[],⟨c,cs,e,_,_⟩,_,_,_,_,_=>fb
 |b::bs,x::xs,⟨c,cs,e,⟨arr,a,l,m⟩,n⟩,i,j,d,f,k=>by
  injection e with e o
  subst e;subst o;cases i with
  |zero=>simp at f k;subst f;subst k;exact⟨arr,a,l,zCI m⟩
  |succ i=>exact zJb n i j d (by simpa using f) (by simpa using k)
def zMX{W:de}{k:Nat}{v u:dh}{t:dg}{m:Nat×Nat}(h:W.heap[k]?=some (.cells #[v] t m)):(W.setCell ⟨k,0,none⟩ u).heap[k]?=some (.cells #[u] t m):=by
 obtain⟨a,b⟩:=zUH.1 h;show(W.heap.modify k _)[k]?=_;rw[zV4 fg,zV5,b];rfl
def zfM(a:Str)(m:MT):Int:=(qF m a).getD 0
def zFC(a:Str)(m:MT)(r:db MT):zAY a (m::r)=if zfM a m≠0 then zfM a m==2 else zAY a r:=by
 show(match qF m a with|some n=>if n≠0 then n==2 else zAY a r|none=>zAY a r)=_;unfold zfM;cases qF m a<;>simp
def zHs{a:Str}:∀{r:db MT},(∀m∈r,zfM a m=0)->zAY a r=false
 |[],_=>rfl
 |m::r,h=>by rw[zFC,if_neg (by simp[h m]),zHs λm b=>h m (by simp[b])]
def zJI{a:Str}{m:MT}{r:db MT}:∀{p:db MT},(∀m∈p,zfM a m=0)->zfM a m≠0->zAY a (p++m::r)=(zfM a m==2)
 |[],_,h=>by rw[zUQ,zFC,if_pos h]
 |q::p,b,h=>by rw[zUO,zFC,if_neg (by simp[b q]),zJI (λm c=>b m eP) h]
def zMM(xs:db MT)(n:Nat)(h:n=xs.length):xs.reverse=(List.finRange n).reverse.map λx=>xs[x.1]?.getD []:=by
 subst h;rw[List.map_reverse];congr 1;apply List.ext_getElem
 .simp
 .intro i a b;simp
def zDj{a:S}{d:Nat}{c:MT}{fp:db Nat}{s:Str}(e:zE a.ob d=some (.mp (trMC c),fp)){K:V->Prop}(b:K (.at (.int .i64 ((qF c s).getD 0)))):zAO Tryz.prog a 63 (.at (.map (some d))) (.at (.string ⟨s.toArray⟩)) false K:=by
 have f:mapT Tryz.prog 63=some 3:=dO
 have g:zAk Tryz.prog 3=some (.int .i64 0):=dO
 unfold zAO;simp only[f,g,e,zMv];refine⟨rfl,?_⟩;cases h:qF c s with
 |none=>rw[h]at b;exact b
 |some z=>rw[h]at b;exact b
def zC6:Nat->db Nat:=λ_=>[2,3,4,6,7,35]
def zE8{l n:Nat}{c:dE}{P:di}{Q:dA->Act->de->Prop}{a:Act}{w:de}(h:c.wpIn (fen (some l)) 0 P Q a w):c.wpIn (Fence.wide.inRound l) n P Q a w:=
 λb k cs d e _=>h b k cs d e (room_wide _)
structure IsI(W5 W:World)(bs:List Nat)(xs:List MT)(k2:Nat)(r:Bool):Prop where
 below:Below 0 W5 W
 blk:∀b,b<W5.heap.size->b∉bs->b≠k2->W.heap[b]?=W5.heap[b]?
 mp:∀(i j:Nat)(c:MT),bs[i]?=some j->xs[i]?=some c->∃(arr:Array MapEntry)(clock:Nat),W.heap[j]?=some (Obj.map arr clock)/\∀g w,MapR g w (trMC c) arr.toList
 res:∃t,W.heap[k2]?=some (.cells #[.bool r] t (0,0))
def IsI.set{f W:de}{bs:db Nat}{xs:db MT}{k2:Nat}{r:dd}(h:IsI f W bs xs k2 r)(l:k2∉bs)(d:dd):IsI f (W.setCell ⟨k2,0,none⟩ (.bool d)) bs xs k2 d:=by
 have a:∀j,j≠k2->(W.setCell ⟨k2,0,none⟩ (.bool d)).heap[j]?=W.heap[j]?:=λj m=>Below.heap_setCell _ _ _ j m;refine⟨h.below.setCell (p:=⟨k2,0,none⟩) (zVI _) _,λb n o g=>(a b g).trans (h.blk b n o g),λi j c k q=>?_,h.res.imp λt e=>zMX e⟩;obtain⟨arr,ck,s,u⟩:=h.mp i j c k q;exact⟨arr,ck,(a j (λe=>l (by rw[<-e];exact zVe k))).trans s,u⟩
def IsI.grown{f A C:de}{bs:db Nat}{xs:db MT}{k2:Nat}{r:dd}(h:IsI f A bs xs k2 r)(y:bs.length=xs.length)(q:∀j∈bs,j<f.heap.size)(s:k2<f.heap.size){g:da Nat}(p:A.grownBy C g)(u:∀k,g=some k->f.heap.size<=k/\∃o:Obj,A.heap[k]?=some o/\o.isCells=false):IsI f C bs xs k2 r:=by
 have v:=h.below.size;have a:∀b,b<f.heap.size->C.heap[b]?=A.heap[b]?:=λb m=>p.block b dM (λe=>by have:=(u b e.symm).1;omega);refine⟨h.below.trans (Below.grown (Below.refl 0 A) p (zVI _) (λk e=>zVI _)),λb m l n=>(a b m).trans (h.blk b m l n),λi j c l n=>?_,h.res.imp λt e=>(a k2 s).trans e⟩;obtain⟨arr,d,w,x⟩:=h.mp i j c l n;exact⟨arr,d,(a j (q j (zVe l))).trans w,x⟩
def zGD:dE->da dE
 |.seq a b=>(zGD a).or (zGD b)
 |.block _ c=>zGD c
 |.rangeFunc _ _ _ b=>some b
 |_=>none
def _root_.cm:=c9 @zFS (c9 @zFc @zDT)
set_option maxRecDepth 100000 in
def zUA(B t l e:Nat)(u:Nat)(i a:Int)(f:Nat)(v:da Nat)(es:db V)(bs:db Nat)(m:Nat)(xs:db MT)(c:MT)(g:Str)(tk:dw)(b:S)
 (n:0<=i+a) (o:i+a<(es.length:Int)) (h:IntKind.i64.wrap (i+a)=i+a)
 (j:es.getD (i+a).toNat .any=.agg [.at (.int .i64 tk.kind),.at (.string ⟨tk.text.toArray⟩),.at (.int .i64 tk.file),.at (.int .i64 tk.ffrom),.at (.int .i64 tk.fto),.at (.bool tk.blank)]) (k:g=tk.text)
 (q:Al.look b.box l=some ([.at (.bool false)],1)) (w:zE b.ob m=some (.mp (trMC c),[m])) (r:b.ob=mps bs (xs.map trMC)) :
 awp Tryz.prog ⟨B,⟨38,[]⟩,some t,[]⟩ ((zGD (jV Tryz.f76)).getD .skip) (λs e' s'=>(s=.normal/\(qF c g).getD 0=0/\Al.look s'.box l=some ([.at (.bool false)],1)/\s'.ob=mps bs (xs.map trMC))\/(s=.ret/\(qF c g).getD 0≠0/\Al.look s'.box l=some ([.at (.bool ((qF c g).getD 0==2))],1)/\s'.ob=mps bs (xs.map trMC)))
  [(2,.rptr (.rptr (.agg [.lst (zx es) es,.at (.int .i64 i),.at (.slice (some ⟨u,0,none⟩) e f),.at (.map v)]))),(3,.rptr (.at (.int .i64 a))),(4,.at (.pointer (some ⟨l,0,none⟩))),(6,.at (.map (some m)))] b:=by
 simp only[jV,Tryz.f76,zVl,zGD,Option.or_some,Option.some_or,Option.none_or,Option.or_none];refine zT ?_
 (repeat (first|refine zh ?_|(refine zd rfl ?_;try simp only[cx,reduceIte])|refine zT ?_|((first|refine zf polN zC6 _ rfl rfl ?_|refine zZ polN mixed zC6 _ rfl rfl dO dO ?_);simp only[↓zk,↓zFI,↓zNw,↓zI2,↓zJ1,↓zJ7,↓yL,↓zLB,cC,yy,zBv,cl,zB5,zCH,jl,kQ,zAs,qY,jM,zUr,zUC,zUL,zU2,fits,z7,yA,zM,V.isOne,V.isAgg,V.size,jh,zUd,zUs,zUD,zUF,zUf,zUX,zUS,zUl,zUT,zUc,zUU,zUP,zUM,zUK,zUt,Nat.reduceAdd,Nat.reduceEqDiff,Nat.reduceLeDiff,reduceCtorEq,zUN,zUY,zVE,zUq,cm,zIJ,zIN,zF9,zLa,zLV,zIm,zNp,zMI,zJA,zJD,hasT62,aggT62,zTG,zSm,zTl,zC6,h,j,zAA])))
 refine⟨⟨n,o⟩,zDj w ?_⟩;rw[<-k];generalize(qF c g).getD 0=z
 (repeat (first|refine zh ?_|(refine zd rfl ?_;try simp only[cx,reduceIte])|refine zT ?_|((first|refine zf polN zC6 _ rfl rfl ?_|refine zZ polN mixed zC6 _ rfl rfl dO dO ?_);simp only[↓zk,↓zFI,↓zI2,cC,cS,zRg,zUM,zUK,Nat.reduceEqDiff,zC6])))
 refine x8 rfl (λp=>?_) (λp=>?_)
 .have d:z≠0:=by simpa using p
  (repeat (first|refine zh ?_|(refine zd rfl ?_;try simp only[cx,reduceIte])|refine zT ?_|((first|refine zf polN zC6 _ rfl rfl ?_|refine zZ polN mixed zC6 _ rfl rfl dO dO ?_);simp only[↓cZ,↓zFI,↓zI2,cC,c6,cS,j9,xo,spl,zUQ,zUR,zU2,zM,V.isOne,V.flat,zUd,zUs,zUD,zUF,zUf,zUX,zUl,zUU,zUP,zUM,zUK,zUt,Nat.reduceEqDiff,zUY,zUB,zKU,zHh,zC6,q])))
  refine Or.inr ⟨trivial,d,?_,r⟩;simp[zO]
 .have d:z=0:=by simpa using p
  refine zAE ?_;exact .inl ⟨rfl,d,q,r⟩
set_option maxRecDepth 100000 in
def ok76(aW:Int×dc->MM (dd×dc))(bt:CQ 85 (cM [.int .i64] [.bool] aW)):CQ 76 (cM [.int .i64] [.bool] (c76 aW)):=by
 refine zFx λl i xs a o ho st vx va r1 r2 J M hn=>?_;obtain⟨E,ua⟩:=a;change Int at E;obtain⟨G,b,cap,fp,m,rfl,k1,k2,rfl⟩:=zCa J;have aX:=M;simp only[VKs,VK]at M;obtain⟨v1,w1,q1,q2,rfl,rfl,⟨rfl,rfl⟩,rfl,rfl⟩:=M;unfold c76 at ho;split at ho
 rotate_left
 .cases ho
 rename_i y hy;split at ho
 rotate_left
 .cases ho
 rename_i aF;obtain⟨bu,aY,bv⟩:=aF;injection ho with ho
 subst ho;have H:=cM_use bt hy J aX hn;rw[bu]at H;simp only[zUR]at H hn ⊢;have e1:=(yS st [.inr G,.ob b] G).1 dQ;have e2:=(yP st [.inr G,.ob b] b).1 dQ;rw[k1]at e1;rw[k2]at e2;generalize subS st [.inr G,.ob b]=s0 at e1 e2 H ⊢;clear k1 k2 J aX;intro B g w vs hi aZ hv;obtain⟨x1,x2,rfl⟩:∃x1 x2,vs=[x1,x2]:=by
  cases hv with
  |cons _ hv=>cases hv with
   |cons _ hv=>cases hv;exact⟨_,_,rfl⟩
 have bw:x1=.pointer (some ⟨G,0,none⟩):=by cases hv with|cons h _=>exact yG h
 have bx:x2=.int .i64 E:=by cases hv with|cons _ h=>cases h with|cons h _=>exact yG h
 subst bw;subst bx;refine(callsIn_wide (n:=6)).1 ?_;have hF:∀f,Fence.wide.fn f:=λ_=>trivial;refine callsIn_of_wp_marks Tryz.func76 rfl (hF _) ?_ rfl;simp only[Tryz.ntmps76,zVO,zUD,zUF,Nat.reduceAdd,Nat.reduceSub,zVM,zVN,zVZ,zVR,zUQ,zUO];obtain⟨W3,am⟩:∃W3,((w.alloc (.cells #[.pointer (some ⟨G,0,none⟩)] 62)).alloc (.cells #[.int .i64 E] 3)).alloc (.cells #[.bool false] 4)=W3:=⟨_,rfl⟩;have bZ:W3.heap.size=w.heap.size+3:=by rw[<-am];simp
 have a0:W3.heap[w.heap.size]?=some (.cells #[.pointer (some ⟨G,0,none⟩)] 62 (0,0)):=by
  rw[<-am,Below.heap_alloc _ _ _ d4,Below.heap_alloc _ _ _ dQ];exact World.alloc_heap_new w _
 have a1:W3.heap[w.heap.size+1]?=some (.cells #[.int .i64 E] 3 (0,0)):=by
  rw[<-am,Below.heap_alloc _ _ _ dQ];have:=World.alloc_heap_new (w.alloc (.cells #[.pointer (some ⟨G,0,none⟩)] 62)) (.cells #[.int .i64 E] 3);simpa using this
 have aG:W3.heap[w.heap.size+1+1]?=some (.cells #[.bool false] 4 (0,0)):=by
  rw[<-am];have:=World.alloc_heap_new ((w.alloc (.cells #[.pointer (some ⟨G,0,none⟩)] 62)).alloc (.cells #[.int .i64 E] 3)) (.cells #[.bool false] 4);simpa using this
 have b1:W3.cell? ⟨w.heap.size,0,none⟩=some (.pointer (some ⟨G,0,none⟩)):=by simp[World.cell?,a0]
 have b3:W3.cell? ⟨w.heap.size+1,0,none⟩=some (.int .i64 E):=by simp[World.cell?,a1]
 have b4:W3.cell? ⟨w.heap.size+1+1,0,none⟩=some (.bool false):=by simp[World.cell?,aG]
 have a3:dC w.heap.size w W3:=by rw[<-am];exact(((Below.refl _ w).alloc (zUB _) _).alloc dQ _).alloc d4 _
 have aq:CallsIn Fence.wide 5 Tryz.prog 85 #[.pointer (some ⟨G,0,none⟩),.int .i64 E] W3 λe z=>e=.returned (.bool y.1.1) /\
  ∃I O F s U m',dB B g w I z/\Al.Inv B I O z/\W3.heap.size<=z.heap.size /\
   (∀j,w.heap.size<=j->j<W3.heap.size->z.heap[j]?=W3.heap[j]?/\Al.look O.box j=none/\I.wm j=0/\(∀t∈O.tg,∀d,I.tb t=some (some (j,d))->False)/\(∀b o fp,zE O.ob b=some (o,fp)->j∉fp)) /\
   Al.look O.box G=some ([.lst (zx (l.map (CC.encV TI.tok))) (l.map (CC.encV TI.tok)),.at (.int .i64 i),.at (.slice (some ⟨F,0,none⟩) xs.length s),.at (.map m')],4)/\zE O.ob F=some (.sc (xs.map trMC) s,U):=by
  refine callsIn_wide.2 ((zPJ H hi aZ hv a3).mono ?_);rintro e z ⟨I,O,J,M,X,h4,h5⟩;cases e with
  |outgrown=>exact h5.elim
  |panicked c=>exact h5.elim
  |returned v=>
   obtain⟨r,h6,ws,q1,q2,h7,h8,_,rfl⟩:=h5;simp only[VKs,VK]at h8;obtain⟨v1,w1,q3,q4,rfl,rfl,⟨rfl,rfl⟩,rfl,rfl⟩:=h8;obtain⟨b5,F,s,U,m',e3,k1,k2,rfl⟩:=zCa h7;injection e3 with e3 _
   injection e3 with e3
   injection e3 with e3
   injection e3 with e3
   injection e3 with e3 _ _
   subst e3;exact⟨zU1 Ending.returned (yG h6),I,O,F,s,U,m',J,M,X,h4,k1,k2⟩
 have aH:∀k:Nat,(Fence.wide.depth.isSome=true->1<=k):=λk h=>dU
 have a4:∀(I:Gh)(O:S)(F s:Nat)(U:db Nat)(m':da Nat)(z:de),dB B g w I z->Al.Inv B I O z->W3.heap.size<=z.heap.size ->
  (∀j,w.heap.size<=j->j<W3.heap.size->z.heap[j]?=W3.heap[j]?/\Al.look O.box j=none/\I.wm j=0/\(∀t∈O.tg,∀d,I.tb t=some (some (j,d))->False)/\(∀b o fp,zE O.ob b=some (o,fp)->j∉fp)) ->
  Al.look O.box G=some ([.lst (zx (l.map (CC.encV TI.tok))) (l.map (CC.encV TI.tok)),.at (.int .i64 i),.at (.slice (some ⟨F,0,none⟩) xs.length s),.at (.map m')],4)->zE O.ob F=some (.sc (xs.map trMC) s,U) ->
  ∀(W':de)(r:dd),dC 0 z W'->(∀j,j<z.heap.size->j∉U.tail->j≠w.heap.size+1+1->W'.heap[j]?=z.heap[j]?)->MMems I W' U.tail (xs.map trMC) ->
  ∃g' R,dB B g w g' W'/\Al.Inv B g' R W'/\∃u,RV g' W' u (.bool r)/\jQ CC syn [parK] [.bool] [.at (.pointer (some ⟨G,0,none⟩))] (some (((l,i,xs,(),()),()),(r,()))) (.ret u) R:=by
  intro I O F s U m' z p1 p2 p3 p4 p5 p6 W' r q1 q2 q3;obtain⟨bs,rfl,ak,P,ax,_⟩:=p2.unpack p6;obtain⟨o1,o2,o3⟩:=p2.ex.ob _ _ _ p6;obtain⟨k1,k2,k3,k4,k5⟩:=p4 (w.heap.size+1+1) dM dM;have hK:∀k,(k∈bs\/k=w.heap.size+1+1)->Al.look O.box k=none/\(∀t∈O.tg,∀d,I.tb t=some (some (k,d))->False)/\I.wm k=0:=by
   rintro k (hk|rfl)
   .obtain⟨r1,r2,r3,r4,r5,r6⟩:=o3 k (by simp[hk]);exact⟨r4,r5,r3⟩
   .exact⟨k2,k4,k3⟩
  obtain⟨Y,hL⟩:=Inv.but' (w':=W') p2 (λk=>k∈bs\/k=w.heap.size+1+1) hK q1.size (λj Q hk=>by
   simp only[not_or]at hk;exact q2 j Q hk.1 hk.2) (λhl bb o fp hb=>by
   obtain⟨t1,t2,t3⟩:=p2.ex.ob bb o fp hb;by_cases e:bb=F
   .subst e;rw[p6]at hb;injection hb with hb
    obtain⟨rfl,rfl⟩:=zVf hb;obtain⟨a5,arr,el,u1,u2,u3,u4,u5,u6,u7⟩:=t1;injection u1 with _ u1
    subst u1;refine⟨bs,arr,el,rfl,u2,?_,u4,u5,u6,q3⟩;have au:=(zUm.1 ak).1;rw[q2 bb (o3 bb dQ).2.1 au (λe=>k5 _ _ _ p6 d5)];exact u3
   .refine t1.local hl λj Q=>?_;have bz:j∉bs:=λL=>e (p2.ex.obd bb o fp F _ _ j hb p6 Q eY);exact q2 j (t3 j Q).2.1 bz (λe=>k5 _ _ _ hb (by rw[<-e];exact Q)))
  have bA:dB B I z I W':=by
   refine⟨hL,⟨q1.os,q1.tape,q1.output,q1.size,λk hk=>?_⟩,λb hb=>⟨?_,rfl⟩,λ_ _=>rfl,rfl⟩
   .have hB:=hi.base;refine q2 k dM (λ(L:k∈bs)=>?_) dM;have:=(o3 k eY).1;omega
   .obtain⟨t1,t2,t3⟩:=p2.ex.frz b hb;refine q2 b t1 (λ(L:b∈bs)=>?_) (λe=>?_)
    .have:=(o3 b eY).2.2.2.2.2;rw[this]at hb;cases hb
    .have h7:g.fr b=true:=by rw[<-p1.fr];exact hb
     have:=(hi.ex.frz b h7).1;omega
  exact⟨I,O,p1.trans bA,Y,.at (.bool r),yY rfl,[.at (.bool r)],[.inr G,.ob F],[],zCs rfl p5 p6,⟨_,[],[],[],rfl,rfl,⟨rfl,rfl⟩,rfl,rfl⟩,dQ,rfl⟩
 have b6:∀r:dd,r=(y.1.1&&zAY (l.getD (i+E).toNat tokD).text xs.reverse)->(some (((l,i,xs,(),()),()),(r,())):da (zA ([parK]:LK)×zA ([.bool]:LK)))=(some ((y.1.1&&zAY (l.getD (i+E).toNat tokD).text xs.reverse,()),i,xs)).map λy=>(((l,y.2.1,y.2.2,(),()),()),y.1):=λr hr=>by subst hr;rfl
 cases aI:y.1.1 with
 |false=>
  rw[aI]at aq
  gi_wp2_with ((try refine⟨aH _,?_⟩);gi_at_call 85;fail)
  refine aq.mono ?_;rintro e z ⟨rfl,I,O,F,s,U,m',p1,p2,p3,p4,p5,p6⟩;have ac:=(p4 (w.heap.size+1+1) dM dM).1.trans aG;have a6:z.cell? ⟨w.heap.size+1+1,0,none⟩=some (.bool false):=by simp[World.cell?,ac]
  have b7:z.frozen? ⟨w.heap.size+1+1,0,none⟩=false:=by simp[World.frozen?,ac]
  gi_wp2;have bB:=World.cell?_setCell_same' z ⟨w.heap.size+1+1,0,none⟩ (.bool false) (by rw[a6];rfl);refine⟨_,zDc rfl rfl ⟨zKU,by rw[zHh];rfl,aggT4.symm⟩ bB,?_⟩;have Z:∀j,j≠w.heap.size+1+1->(z.setCell ⟨w.heap.size+1+1,0,none⟩ (.bool false)).heap[j]?=z.heap[j]?:=λj Q=>Below.heap_setCell _ _ _ j Q;obtain⟨bs,rfl,ak,P,ax,_⟩:=p2.unpack p6;obtain⟨⟨a5,arr,el,u1,u2,u3,u4,u5,u6,u7⟩,o2,o3⟩:=p2.ex.ob _ _ _ p6;injection u1 with _ u1
  subst u1;obtain⟨g',R,z1,z2,u,z3,z4⟩:=a4 I O F s _ m' z p1 p2 p3 p4 p5 p6 (z.setCell ⟨w.heap.size+1+1,0,none⟩ (.bool false)) false ((Below.refl 0 z).setCell (p:=⟨w.heap.size+1+1,0,none⟩) (zVI _) _) (λj _ _ Q=>Z j Q)
   (zJU u7 λj Q=>Z j (λe=>(p4 (w.heap.size+1+1) dM dM).2.2.2.2 _ _ _ p6 (by rw[<-e];exact zUW _ Q)))
  exact⟨g',R,z1,z2,u,z3,z4⟩
 |true=>
  rw[aI]at aq
  gi_wp2_with ((try refine⟨aH _,?_⟩);gi_at_call 85;fail)
  refine aq.mono ?_;rintro e z ⟨rfl,I,O,F,s,U,m',p1,p2,p3,p4,p5,p6⟩;obtain⟨u0,ad,a7,a8,b8,bC,a9,ba⟩:∃u0 ad a7,z.heap[G]?=some (.cells ad a7 (0,0))/\ad.size=4/\ad.toList=[u0,.int .i64 i,.slice (some ⟨F,0,none⟩) xs.length s,.map m']/\RC I z (.lst (zx (l.map (CC.encV TI.tok))) (l.map (CC.encV TI.tok))) [u0]/\G<z.heap.size:=by
   obtain⟨t1,t2,t3,t4,arr,el,us,t5,t6,t7,t8⟩:=p2.box _ _ _ p5;simp only[RCs]at t7;obtain⟨u1,u2,rfl,k1,u3,u4,rfl,k2,u5,u6,rfl,k3,u7,u8,rfl,k4,rfl⟩:=t7;have bD:=qh _ _ _ _ k1;obtain⟨u0,rfl⟩:∃u0,u1=[u0]:=by
    match u1,bD with
    |[u0],_=>exact⟨u0,rfl⟩
   simp only[RC]at k2 k3 k4;rw[k2.1,k3.1,k4.1]at t8;refine⟨u0,arr,el,t5,t6,?_,k1,(zUH.1 t5).1⟩;rw[zU5 e9]at t8;simpa using t8
  have aJ:ad=#[u0,.int .i64 i,.slice (some ⟨F,0,none⟩) xs.length s,.map m']:=by
   apply zVk;rw[bC]
  subst aJ;have ay:=(p4 w.heap.size dM dM).1.trans a0;have az:=(p4 (w.heap.size+1) dM dM).1.trans a1;have ac:=(p4 (w.heap.size+1+1) dM dM).1.trans aG;have b9:z.cell? ⟨w.heap.size,0,none⟩=some (.pointer (some ⟨G,0,none⟩)):=by simp[World.cell?,ay]
  have ca:z.cell? ⟨w.heap.size+1,0,none⟩=some (.int .i64 E):=by simp[World.cell?,az]
  have a6:z.cell? ⟨w.heap.size+1+1,0,none⟩=some (.bool false):=by simp[World.cell?,ac]
  have cb:z.cell? ⟨G,2,none⟩=some (.slice (some ⟨F,0,none⟩) xs.length s):=by simp[World.cell?,a8]
  gi_wp2_with ((try refine⟨aH _,?_⟩);gi_at_call 109;refine(zTn Fence.wide _ (hF _) rfl _ _ _ _).mono ?_;rintro e w' ⟨rfl,rfl⟩)
  obtain⟨bs,rfl,ak,P,ax,_⟩:=p2.unpack p6;rw[zUZ]at P;obtain⟨⟨a5,arr,el,u1,u2,u3,u4,u5,u6,u7⟩,o2,o3⟩:=p2.ex.ob _ _ _ p6;injection u1 with _ u1
  subst u1;obtain⟨W5,an⟩:∃W5,z.alloc (.cells #[.slice (some ⟨F,0,none⟩) xs.length s] 64)=W5:=⟨_,rfl⟩;rw[an];have bT:W5.heap.size=z.heap.size+1:=by rw[<-an];simp
  have T:∀j,j<z.heap.size->W5.heap[j]?=z.heap[j]?:=λj Q=>by rw[<-an];exact Below.heap_alloc _ _ _ Q
  have av:dC 0 z W5:=by rw[<-an];exact(Below.refl 0 z).alloc (zVI _) _
  have bc:W5.heap[z.heap.size]?=some (.cells #[.slice (some ⟨F,0,none⟩) xs.length s] 64 (0,0)):=by rw[<-an];exact World.alloc_heap_new z _
  have bE:W5.cell? ⟨z.heap.size,0,none⟩=some (.slice (some ⟨F,0,none⟩) bs.length s):=by rw[P];simp[World.cell?,bc]
  have aK:F<z.heap.size:=(o3 F dQ).2.1;have bF:∀j,j<bs.length->W5.cell? ⟨F,j,none⟩=some (.map (some (bs[j]?.getD 0))):=λj Q=>by
   have h7:=zU1 (λl:db dh=>l[j]?) u6;simp only[zU6,Q,zUM,zUy]at h7;simp only[World.cell?,T F aK,u3];rw[zVJ]at h7;simp only[h7];rw[zUj Q];rfl
  have ae:∀j∈bs,j<z.heap.size:=λj Q=>(o3 j (by simp[Q])).2.1;have bG:w.heap.size+1+1<z.heap.size:=dM
  have bH:IsI W5 W5 bs xs (w.heap.size+1+1) false:=⟨Below.refl _ _,λ_ _ _ _=>rfl,λi j c e1 e2=>by
   obtain⟨ar,ck,k1,k2⟩:=zJb u7 i j c e1 e2;exact⟨ar,ck,(T j (ae j (zVe e1))).trans k1,k2⟩,4,(T _ bG).trans ac⟩
  obtain⟨nm,ai⟩:∃nm,nm=(l.getD (i+E).toNat tokD).text:=⟨_,rfl⟩;obtain⟨bU,bV,bW,bX⟩:=bv aI;have aA:w.heap.size+1+1∉bs:=λL=>(p4 (w.heap.size+1+1) dM dM).2.2.2.2 _ _ _ p6 (zUW _ L);have aB:∀(W:de)(D:Nat)(r:dd),IsI W5 W bs xs (w.heap.size+1+1) r->W5.heap.size<=D->(W.putObj D (.deferred none)).cell? ⟨w.heap.size+1+1,0,none⟩=some (.bool r)/\∃g' R,dB B g w g' (W.putObj D (.deferred none))/\Al.Inv B g' R (W.putObj D (.deferred none))/\∃u,RV g' (W.putObj D (.deferred none)) u (.bool r)/\jQ CC syn [parK] [.bool] [.at (.pointer (some ⟨G,0,none⟩))] (some (((l,i,xs,(),()),()),(r,()))) (.ret u) R:=by
   intro W D r Y hD;obtain⟨tt,aa⟩:=Y.res;have Z:∀j,j≠D->(W.putObj D (.deferred none)).heap[j]?=W.heap[j]?:=λj Q=>World.putObj_heap_other Q;refine⟨by rw[show(W.putObj D (.deferred none)).cell? ⟨w.heap.size+1+1,0,none⟩=W.cell? ⟨w.heap.size+1+1,0,none⟩from World.cell?_of_block (Z _ (λe=>by replace e:w.heap.size+1+1=D:=e;omega))];simp[World.cell?,aa],?_⟩;refine a4 I O F s _ m' z p1 p2 p3 p4 p5 p6 _ r (av.trans (Y.below.trans ⟨rfl,rfl,rfl,by simp[World.putObj],λk hk=>absurd hk (Nat.not_lt_zero k)⟩)) (λj J M X=>?_) (zHS (g:=I) (w:=z) P λi' j c q1 q2=>?_)
   .rw[Z j dM,Y.blk j dM M X,T j J]
   .obtain⟨ar,ck,k1,k2⟩:=Y.mp i' j c q1 q2;have:=ae j (zVe q1);exact⟨ar,ck,(Z j dM).trans k1,k2⟩
  have enc:∀j∈bs,j<W5.heap.size:=λj Q=>by have:=ae j Q;omega
  refine wpIn_rangeFunc_ownG rfl dM (gf:=129) (lb:=#[.pointer (some ⟨z.heap.size,0,none⟩)]) fl (hF 129) (enters_of Tryz.func129 dO rfl)
   (zNl Fence.wide 5 (hF _) rfl dM z.heap.size F s bs dM W5 dM dM bE bF) (λh k=>h.trans k) (λW l o o' _ hl J _=>KpB.put W l o o' hl J) (Below.refl _ _) (λ_=>rfl)
   (λaf W=>IsI W5 W bs xs (w.heap.size+1+1) false/\∀x∈af,zfM nm (xs[x.1]?.getD [])=0)
   (λc af W=>c=.ret/\∃al N,af=al++[N]/\(∀x∈al,zfM nm (xs[x.1]?.getD [])=0)/\zfM nm (xs[N.1]?.getD [])≠0/\IsI W5 W bs xs (w.heap.size+1+1) (zfM nm (xs[N.1]?.getD [])==2))
   (λaf A C bI h hg hr=>⟨h.1.grown P enc dM hg (λk e=>by obtain⟨J,M⟩:=hr k e;exact⟨J,M⟩),h.2⟩)
   (λc af A C bI h hg hr=>by
    obtain⟨h0,al,N,J,M,X,h4⟩:=h;exact⟨h0,al,N,J,M,X,h4.grown P enc dM hg (λk e=>by obtain⟨J,M⟩:=hr k e;exact⟨J,M⟩)⟩)
   ⟨bH,dQ⟩
   (λx=>{ tmps:=#[.pointer (some ⟨G,0,none⟩),.int .i64 E,.pointer (some ⟨w.heap.size,0,none⟩),.pointer (some ⟨w.heap.size+1,0,none⟩),.pointer (some ⟨w.heap.size+1+1,0,none⟩),undef,.map (some (bs[x.1]?.getD 0)),undef,.pointer (some ⟨G,0,none⟩),.int .i64 E,.bool true,.bool false,.pointer (some ⟨G,0,none⟩),.pointer (some ⟨G,0,none⟩),.pointer (some ⟨G,2,none⟩),.slice (some ⟨F,0,none⟩) xs.length s,.func (.func 129) #[] #[.pointer (some ⟨z.heap.size,0,none⟩)],.int .i64 (x.1:Int),.map (some (bs[x.1]?.getD 0)),undef,undef,undef,undef,undef,undef,undef,undef,undef,undef,undef,undef,undef,undef,undef,undef,undef,undef,undef],defers:=[] })
   ?assign ?body ?done ?stop
  case assign=>
   intro l x W K hK;gi_wp2;exact hK
  case body=>
   rintro l' af x W ⟨Y,bd⟩ aY;have hx:=x.2;obtain⟨bj,aL⟩:∃bj,bs[x.1]?=some bj:=⟨bs[x.1],dQ⟩;obtain⟨c,hc⟩:∃c,xs[x.1]?=some c:=⟨xs[x.1]' dM,dQ⟩;have bY:bj∈bs:=zVe aL;have br:=Y.below.size;have be:G∉bs:=λL=>by
    have:=(o3 G eY).2.2.2.1;rw[this]at p5;cases p5
   have aM:G≠w.heap.size+1+1:=λe=>by
    have:=(p4 (w.heap.size+1+1) dM dM).2.1;rw[<-e,p5]at this;cases this
   have bJ:w.heap.size∉bs:=λL=>(p4 w.heap.size dM dM).2.2.2.2 _ _ _ p6 (zUW _ L);have bK:w.heap.size+1∉bs:=λL=>(p4 (w.heap.size+1) dM dM).2.2.2.2 _ _ _ p6 (zUW _ L);have aN:∀b,b<z.heap.size->b∉bs->b≠w.heap.size+1+1->W.heap[b]?=z.heap[b]?:=λb J M X=>(Y.blk b dM M X).trans (T b J);have aC:∀b,(b∈bs\/b=w.heap.size+1+1)->I.wm b=0:=by
    rintro b (h|rfl)
    .exact(o3 b fh).2.2.1
    .exact(p4 (w.heap.size+1+1) dM dM).2.2.1
   obtain⟨g5,ao⟩:∃g5:Gh,g5=⟨λb=>if b∈bs\/b=w.heap.size+1+1 then 0 else if b<W5.heap.size then max (I.wm b) (match W.heap[b]? with|some (.cells arr _ _)=>arr.size|_=>0)else 0,I.tb,⟨λb=>decide (b<W.heap.size)&&decide (b∉bs)&&decide (b≠w.heap.size+1+1),λ_=>false⟩⟩:=⟨_,rfl⟩;have ag:∀b,g5.wm b=if b∈bs\/b=w.heap.size+1+1 then 0 else if b<W5.heap.size then max (I.wm b) (match W.heap[b]? with|some (.cells arr _ _)=>arr.size|_=>0)else 0:=λb=>by rw[ao]
   have ap:∀b,g5.fr b=true↔b<W.heap.size/\b∉bs/\b≠w.heap.size+1+1:=λb=>by rw[ao];simp[and_assoc]
   have aD:∀b,I.wm b<=g5.wm b:=λb=>by
    rw[ag];split
    .rename_i h;rw[aC b h];exact zVI _
    .split
     .exact zWZ _ _
     .rename_i h;rw[p2.fresh b dM];exact zVI _
   have bL:dD I z g5 W:=⟨aD,λt d e=>by rw[ao];exact e,λb o ho=>by
    have bM:b<z.heap.size:=by
     rcases zUx b z.heap.size with h|h
     .exact h
     .rw[p2.fresh b h]at ho;omega
    have aO:¬(b∈bs\/b=w.heap.size+1+1):=λh=>by rw[aC b h]at ho;omega
    simp only[not_or]at aO;exact World.cell?_of_block (aN b bM aO.1 aO.2)⟩
   have aP:∀b (arr:dv dh) el m (ds:db dh),b<z.heap.size->b∉bs->b≠w.heap.size+1+1->z.heap[b]?=some (.cells arr el m)->arr.toList=ds->At g5 W b 0 ds:=λb arr el m ds J M X h4 h5 k u hk=>by
    have hh:W.heap[b]?=some (.cells arr el m):=(aN b J M X).trans h4;subst h5;rw[zVJ]at hk;have cc:=(zUH.1 hk).1;refine⟨by simp[World.cell?,hh,hk],?_⟩;rw[ag,if_neg (by simp only[not_or];exact⟨M,X⟩),if_pos dM,hh];simp only;omega
   have aQ:MMems g5 W bs (xs.map trMC):=zHS (g:=I) (w:=z) P Y.mp;have aE:Al.Inv B g5 ⟨[(w.heap.size+1+1,[.at (.bool false)],1)],[],O.nx,mps bs (xs.map trMC)⟩ W:=by
    have hB:=hi.base;have aR:∀b c,Al.look [(w.heap.size+1+1,[V.at (.bool false)],1)] b=some c->b=w.heap.size+1+1/\c=([V.at (.bool false)],1):=λb c h=>by
     by_cases e:w.heap.size+1+1=b
     .subst e;simp[Al.look]at h;exact⟨rfl,h.symm⟩
     .simp[Al.look,e]at h
    refine⟨dM,λb cs k h=>?_,λt ht=>fa,λt ht=>fa,λt ht=>fa,dQ,λb hb=>?_,λt ht=>by rw[ao];exact p2.names t ht,λb hb=>?_,λb o fp h=>?_,λb o fp b2 o2 cd j J M X h4=>?_,λt ht=>by rw[ao]at ht;cases ht⟩
    .obtain⟨rfl,e⟩:=aR b _ h;injection e with e1 e2
     subst e1;subst e2;obtain⟨tt,aa⟩:=Y.res;exact⟨dM,by rw[ag,if_pos (.inr rfl)],zUB _,by simp[V.isOne],_,_,[.bool false],aa,rfl,by simp[RCs,RC,one],rfl⟩
    .rw[ag];split
     .rfl
     .rw[if_neg dM]
    .obtain⟨q1,q2,q3⟩:=(ap b).1 hb;refine⟨q1,?_,λt ht=>fa⟩;cases e:Al.look [(w.heap.size+1+1,[V.at (.bool false)],1)] b with
     |none=>rfl
     |some c=>exact absurd (aR b c e).1 q3
    .obtain⟨d,rfl,rfl,L,hd⟩:=zEO aQ h;refine⟨⟨rfl,hd⟩,dQ,λj Q=>?_⟩;simp only[zUJ]at Q;subst Q;have q:=o3 j eY;refine⟨q.1,dM,by rw[ag,if_pos (.inl L)],?_,λt ht=>fa,?_⟩
     .cases e:Al.look [(w.heap.size+1+1,[V.at (.bool false)],1)] j with
      |none=>rfl
      |some c=>exact absurd ((aR j c e).1▸L) aA
     .cases e:g5.fr j with
      |false=>rfl
      |true=>exact absurd L ((ap j).1 e).2.1
    .obtain⟨_,_,rfl,_,_⟩:=zEO aQ J;obtain⟨_,_,rfl,_,_⟩:=zEO aQ M;simp only[zUJ]at X h4;exact X.symm.trans h4
   have aS:RC g5.bare W (.lst (zx (l.map (CC.encV TI.tok))) (l.map (CC.encV TI.tok))) [u0]:=by
    have:=zAz (zCC bL _ _ a9) rfl;rw[zBO]at this;exact this
   have bf:RC g5.bare W (.agg [.lst (zx (l.map (CC.encV TI.tok))) (l.map (CC.encV TI.tok)),.at (.int .i64 i),.at (.slice (some ⟨F,0,none⟩) xs.length s),.at (.map m')]) [u0,.int .i64 i,.slice (some ⟨F,0,none⟩) xs.length s,.map m']:=by
    simp only[RC,RCs];exact⟨[u0],_,rfl,aS,[_],_,rfl,⟨rfl,rfl⟩,[_],_,rfl,⟨rfl,rfl⟩,[_],_,rfl,⟨rfl,rfl⟩,rfl⟩
   have hE:∀k,RV g5 W (Env.get [(2,.rptr (.rptr (.agg [.lst (zx (l.map (CC.encV TI.tok))) (l.map (CC.encV TI.tok)),.at (.int .i64 i),.at (.slice (some ⟨F,0,none⟩) xs.length s),.at (.map m')]))),(3,.rptr (.at (.int .i64 E))),(4,.at (.pointer (some ⟨w.heap.size+1+1,0,none⟩))),(6,.at (.map (some bj)))] k)
    ((#[.pointer (some ⟨G,0,none⟩),.int .i64 E,.pointer (some ⟨w.heap.size,0,none⟩),.pointer (some ⟨w.heap.size+1,0,none⟩),.pointer (some ⟨w.heap.size+1+1,0,none⟩),undef,.map (some (bs[x.1]?.getD 0)),undef,.pointer (some ⟨G,0,none⟩),.int .i64 E,.bool true,.bool false,.pointer (some ⟨G,0,none⟩),.pointer (some ⟨G,0,none⟩),.pointer (some ⟨G,2,none⟩),.slice (some ⟨F,0,none⟩) xs.length s,.func (.func 129) #[] #[.pointer (some ⟨z.heap.size,0,none⟩)],.int .i64 (x.1:Int),.map (some (bs[x.1]?.getD 0)),undef,undef,undef,undef,undef,undef,undef,undef,undef,undef,undef,undef,undef,undef,undef,undef,undef,undef,undef]:dv dh).getD k undef):=by
    intro k1;by_cases e2:k1=2
    .subst e2;refine zA1 ?_ (aP _ _ _ _ [_] dM bJ dM ay rfl);simp only[RC];exact⟨G,0,_,rfl,bf,aP G _ _ _ _ ba be aM a8 rfl⟩
    .by_cases e3:k1=3
     .subst e3;refine zA1 ?_ (aP _ _ _ _ [_] dM bK dM az rfl);simp[RC,one]
     .by_cases e4:k1=4
      .subst e4;exact yY rfl
      .by_cases e6:k1=6
       .subst e6;rw[aL];exact yY rfl
       .have:Env.get [(2,.rptr (.rptr (.agg [.lst (zx (l.map (CC.encV TI.tok))) (l.map (CC.encV TI.tok)),.at (.int .i64 i),.at (.slice (some ⟨F,0,none⟩) xs.length s),.at (.map m')]))),(3,.rptr (.at (.int .i64 E))),(4,.at (.pointer (some ⟨w.heap.size+1+1,0,none⟩))),(6,.at (.map (some bj)))] k1=V.any:=by
         simp only[Env.get,zU9 e2,zU9 e3,zU9 e4,zU9 e6,zUK]
        rw[this];trivial
   have aT:GlobOk B g5.wm W:=by
    have hB:=hi.base;have bg:dC B w W:=by
     have au:∀k,k<B->k∉bs/\k≠w.heap.size+1+1:=λk hk=>⟨λL=>by have:=(o3 k eY).1;omega,dM⟩;refine⟨Y.below.os.trans (av.os.trans p1.below.os),Y.below.tape.trans (av.tape.trans p1.below.tape),Y.below.output.trans (av.output.trans p1.below.output),dM,λk hk=>?_⟩;exact(aN k dM (au k hk).1 (au k hk).2).trans (p1.below.block k hk)
    exact aZ.below bg λb=>zU0 (p1.later.wm b) (aD b)
   have bh:IntKind.i64.wrap (i+E)=i+E:=IntWalk.i64_in _ dM;obtain⟨tk,bi⟩:∃tk,l.getD (i+E).toNat tokD=tk:=⟨_,rfl⟩;have bk:(l.map (CC.encV TI.tok)).getD (i+E).toNat .any=.agg [.at (.int .i64 tk.kind),.at (.string ⟨tk.text.toArray⟩),.at (.int .i64 tk.file),.at (.int .i64 tk.ffrom),.at (.int .i64 tk.fto),.at (.bool tk.blank)]:=by
    have bN:(i+E).toNat<l.length:=dM
    rw[<-bi,zUV,show(l.map (CC.encV TI.tok))[(i+E).toNat]?=(l[(i+E).toNat]?).map (CC.encV TI.tok)from zUy,zUV,zUj bN];rfl
   rw[bi]at ai;have aU:Al.look [(w.heap.size+1+1,[V.at (.bool false)],1)] (w.heap.size+1+1)=some ([.at (.bool false)],1):=by simp[Al.look]
   have bO:zE (mps bs (xs.map trMC)) bj=some (.mp (trMC c),[bj]):=by
    have J:=zEc (bs:=bs) (xs:=xs.map trMC) [] (zUm.1 ak).2 (by simpa using P);rw[zUR]at J;exact Mps.at J aL (by rw[zUy,hc];rfl)
   obtain⟨ah,aj⟩:∃ah:S,ah=⟨[(w.heap.size+1+1,[.at (.bool false)],1)],[],O.nx,mps bs (xs.map trMC)⟩:=⟨_,rfl⟩;rw[<-aj]at aE;have l1:Al.look ah.box (w.heap.size+1+1)=some ([.at (.bool false)],1):=by rw[aj];exact aU
   have l2:zE ah.ob bj=some (.mp (trMC c),[bj]):=by rw[aj];exact bO
   have l3:ah.ob=mps bs (xs.map trMC):=by rw[aj]
   have hz:zfM nm (xs[x.1]?.getD [])=(qF c nm).getD 0:=by rw[hc];rfl
   refine zE8 (wpIn_mono ((?_:awp Tryz.prog ⟨B,⟨38,[]⟩,some l',[]⟩ _ (λex e' s'=>(ex=.normal/\(qF c nm).getD 0=0/\Al.look s'.box (w.heap.size+1+1)=some ([.at (.bool false)],1)/\s'.ob=mps bs (xs.map trMC))\/(ex=.ret/\(qF c nm).getD 0≠0/\Al.look s'.box (w.heap.size+1+1)=some ([.at (.bool ((qF c nm).getD 0==2))],1)/\s'.ob=mps bs (xs.map trMC))) _ ah) g5 _ W ⟨aE,hE,⟨rfl,λ_ hp=>(by cases hp)⟩,rfl,aT⟩) ?_)
   .exact zUA B l' _ _ _ i E _ _ _ bs bj xs c nm tk ah dM (by rw[show(l.map (CC.encV TI.tok)).length=l.length from zUZ _];omega) bh bk ai l1 l2 l3
   .rintro ex a2 w2 ⟨g',e',s',q1,q2,q3⟩;have ab:∀b,b<W.heap.size->b∉bs->b≠w.heap.size+1+1->w2.heap[b]?=W.heap[b]?:=λb J M X=>(q1.fz b ((ap b).2 ⟨J,M,X⟩)).1;have bP:s'.ob=mps bs (xs.map trMC):=by rcases q3 with⟨_,_,_,h⟩|⟨_,_,_,h⟩<;>exact h
    have aw:∀r,Al.look s'.box (w.heap.size+1+1)=some ([.at (.bool r)],1)->IsI W5 w2 bs xs (w.heap.size+1+1) r:=λr hr=>by
     refine⟨Y.below.trans (q1.below.mono (zVI _)),λb J M X=>(ab b dM M X).trans (Y.blk b J M X),λi' j d J M=>?_,?_⟩
     .have X:=zEc (bs:=bs) (xs:=xs.map trMC) [] (zUm.1 ak).2 (by simpa using P);rw[zUR,<-bP]at X;have h4:=Mps.at X J (c:=trMC d) (by rw[zUy,M];rfl);obtain⟨⟨_,arr,ck,h5,h6⟩,_⟩:=q2.inv.ex.ob _ _ _ h4;exact⟨arr,ck,h5,zCI h6⟩
     .obtain⟨t1,t2,t3,t4,arr,el,us,t5,t6,t7,t8⟩:=q2.inv.box _ _ _ hr;simp only[RCs,RC]at t7;obtain⟨u1,u2,rfl,⟨rfl,_⟩,rfl⟩:=t7;have bl:arr=#[.bool r]:=by
       apply zVk;rw[zU5 e9]at t8;simpa using t8
      exact⟨el,by rw[t5,bl]⟩
    have bm:KeepsFrom W5.heap.size W w2:=⟨q1.below.size,λk o hk hko hc=>by
     have bn:=(zUH.1 hko).1;exact(ab k bn (λL=>by have:=ae k L;omega) dM).trans hko⟩
    have bQ:KpB z.heap.size F bs.length W w2:=by
     have bo:F∉bs:=(zUm.1 ak).1;have bp:F≠w.heap.size+1+1:=λe=>(p4 (w.heap.size+1+1) dM dM).2.2.2.2 _ _ _ p6 d5;refine⟨λv hv=>(World.cell?_of_block (ab z.heap.size dM (λL=>by have:=ae _ L;omega) dM)).trans hv,λj v _ hv=>(World.cell?_of_block (ab F dM bo bp)).trans hv⟩
    rcases q3 with⟨rfl,k1,k2,_⟩|⟨rfl,k1,k2,_⟩
    .refine⟨bm,bQ,aw _ k2,λx' bR=>?_⟩;rcases zUa.1 bR with h|h
     .exact bd x' h
     .simp only[zUJ]at h;subst h;rw[hz];exact k1
    .exact⟨bm,rfl,af,x,rfl,bd,by rw[hz];exact k1,by rw[hz];exact aw _ k2⟩
  case done=>
   rintro D ys W hD rfl ⟨Y,hz⟩ hK;obtain⟨tt,aa⟩:=Y.res;have ce:W.cell? ⟨w.heap.size+1+1,0,none⟩=some (.bool false):=by simp[World.cell?,aa]
   have cf:W.frozen? ⟨w.heap.size+1+1,0,none⟩=false:=by simp[World.frozen?,aa]
   gi_wp2;have aw:=Y.set aA false;have bS:(W.setCell ⟨w.heap.size+1+1,0,none⟩ (.bool false)).heap[D]?=some (.deferred (some [])):=(Below.heap_setCell _ _ _ D (λe=>by replace e:D=w.heap.size+1+1:=e;omega)).trans hK;refine⟨dQ,.inl ⟨_,_,rfl,run_takeDeferred bS,?_⟩⟩;obtain⟨aV,g',R,z1,z2,u,z3,z4⟩:=aB _ D false aw hD;refine⟨_,zDc rfl rfl ⟨zKU,by rw[zHh];rfl,aggT4.symm⟩ aV,?_⟩;have hT:zAY (l.getD (i+E).toNat tokD).text xs.reverse=false:=by
    rw[<-ai,zMM xs bs.length P];refine zHs λm L=>?_;obtain⟨x,hx,rfl⟩:=zVA.1 L;exact hz x (by rw[jk,zU5 dQ];exact hx)
   rw[zUV]at hT;refine⟨g',z1,R,z2,u,z3,?_⟩;rw[hT];exact z4
  case stop=>
   rintro D c af W hD ⟨k,hk,bq⟩ ⟨rfl,al,N,e1,e2,e3,Y⟩ hK;gi_wp2;refine⟨dQ,.inl ⟨_,_,rfl,run_takeDeferred hK,?_⟩⟩;obtain⟨aV,g',R,z1,z2,u,z3,z4⟩:=aB _ D _ Y hD;refine⟨_,zDc rfl rfl ⟨zKU,by rw[zHh];rfl,aggT4.symm⟩ aV,?_⟩;have hT:zAY (l.getD (i+E).toNat tokD).text xs.reverse=(zfM nm (xs[N.1]?.getD [])==2):=by
    rw[<-ai,zMM xs bs.length P,<-zWV k ((List.finRange bs.length).reverse),show(List.finRange bs.length).reverse.take k=al++[N]from bq.symm.trans e1];rw[zVa,zVa,zVB];refine zJI (λm L=>?_) e3;obtain⟨x,hx,rfl⟩:=zVA.1 L;exact e2 x hx
   rw[zUV]at hT;refine⟨g',z1,R,z2,u,z3,?_⟩;rw[hT];exact z4
end
section
open Go.Al Go.Den Go.RowKit
attribute [local congr] xP xi x7 qP yX xL yN yO xQ xn xE xx xN xG yI yT xD x9 xy yh xj xO yi yo xH xF yn xI xM yl qR qB qA xh xg xm xK ym yk
abbrev mgZ(c:MT)(s:Str):Int:=(qF c s).getD 0
def zJQ(d:Str)(z:Int):∀c:MT,qF (yd c d z) d=some z
 |[]=>by simp[yd,qF]
 |(a,b)::c=>by
  unfold yd;split
  .rename_i h;simp[qF]
  .rename_i h;simp only[qF,if_neg h];exact zJQ d z c
def zK0{st:S}{a:Nat}{c:MT}{fp:db Nat}{s:Str}{z:Int}(b:zE st.ob a=some (.mp (trMC c),fp)){K:S->Prop}(d:K ⟨st.box,st.tg,st.nx,(a,.mp (trMC (yd c s z)),fp)::st.ob⟩):qd Tryz.prog st 63 (.at (.map (some a))) (.at (.string ⟨s.toArray⟩)) (.at (.int .i64 z)) K:=by
 unfold qd;rw[show mapT Tryz.prog 63=some 3 from dO];simp only[b];refine⟨rfl,?_⟩;rw[show(V.at (.int .i64 z)).untag=.at (.int .i64 z)from rfl,zIv];exact d
abbrev polW:Pol:=⟨λ_=>false,λ_=>false,λ_=>false,λf=>f==46,[],λ_=>[]⟩
set_option maxRecDepth 100000 in
def ok102x{l:db dw}{j:db dy}{E F G:V}{d bo cap b k z:Nat}{o:da Nat}{i:Int}{f:MT}{s:S}(h:Al.look s.box d=some ([tkV l,.at (.slice (some ⟨bo,0,none⟩) j.length cap),ptV b,E,F,G],6))(A:Al.look s.box bo=some (bdC j,cap*2))
 (H:Al.look s.box b=some (lcs k z o,3)) (t:zE s.ob k=some (.mp (trMC f),[k])) (u:bo≠d) (I:b≠d) (n:0<=i) (q:i<l.length) (C:i<j.length) (D:j.length<=cap) (M:l.length<1000000) {g:Str} (m:(l.getD i.toNat tokD).text=g) (N:0<=mgZ f g/\mgZ f g<1000000) :
 FnC Tryz.prog 102 [ptV d,.at (.int .i64 i)] s λoc s'=>oc=.ret (.tup [])/\s'=⟨lay s.box bo (bdC (j.set i.toNat ⟨1,(if mgZ f g=0 then i+1 else mgZ f g)-1⟩),cap*2),s.tg,s.nx,if mgZ f g=0 then(k,.mp (trMC (yd f g (i+1))),[k])::s.ob else s.ob⟩:=by
 refine xS Tryz.func102 rfl Tryz.ntmps102 Tryz.results102 (by show 2<=35;decide) λB=>?_;simp only[zUO,zUQ,zUR,qJ,Nat.reduceAdd];have J:¬d=bo:=λe=>u e.symm;have K:¬d=b:=λe=>I e.symm;have v:decide (i<0)=false:=by simp;omega
 have w:Al.look s.box b=some ([.at (.map (some k)),.at (.map (some z)),.at (pO o)],3):=H
 (repeat (first|refine zh ?_|(refine zd rfl ?_;try simp only[cx,reduceIte])|refine zT ?_|((first|refine zf polW kA _ rfl rfl ?_|refine zZ polW mixed kA _ rfl rfl dO dO ?_);simp only[↓cP,cC,cS,zLw,zUM,zUK,Nat.reduceEqDiff,reduceCtorEq,kA])))
 refine x8 rfl (λe=>by rw[v]at e;cases e) (λ_=>?_)
 (repeat (first|refine zh ?_|(refine zd rfl ?_;try simp only[cx,reduceIte])|refine zT ?_|((first|refine zf polW kA _ rfl rfl ?_|refine zZ polW mixed kA _ rfl rfl dO dO ?_);simp only[↓cH,cR,yy,zUr,Nat.reduceLT,zUC,zUL,zU2,z7,yA,zUD,zUF,zUf,zUX,zUS,zUl,zUT,zUc,zUU,zUP,zUM,zUK,zUt,Nat.reduceAdd,Nat.reduceEqDiff,Nat.reduceLeDiff,reduceCtorEq,zUN,zUY,zVE,zUq,c7,cY,c8,zEm,zDU,zLP,zDn,kA,h,w])))
 refine zBN [ptV d,.at (.int .i64 i)] (.at (.string ⟨(l.getD i.toNat tokD).text.toArray⟩)) rfl rfl dO d7 dZ (zFb h n q) ?_;rw[m];simp only[↓zk,↓qK,ct,cF,zUM,zUK,Nat.reduceEqDiff,reduceCtorEq,zAA];refine zDj t ?_;simp only[cl,j9];refine x8 rfl (λx=>?_) (λx=>?_)
 .have p:mgZ f g=0:=by simpa using x
  rw[if_pos p,if_pos p];have L:IntKind.i64.wrap (i+1)=i+1:=IntWalk.i64_in _ dM
  (repeat (first|refine zh ?_|(refine zd rfl ?_;try simp only[cx,reduceIte])|refine zT ?_|((first|refine zf polW kA _ rfl rfl ?_|refine zZ polW mixed kA _ rfl rfl dO dO ?_);simp only[↓zu,cC,yy,zUC,zUL,zUM,zUK,Nat.reduceEqDiff,reduceCtorEq,kA])))
  refine zBN [ptV d,.at (.int .i64 i)] (.at (.string ⟨(l.getD i.toNat tokD).text.toArray⟩)) rfl rfl dO d7 dZ (zFb h n q) ?_;rw[m];simp only[↓cP,ct,qM,cS,zB5,zUM,zUK,Nat.reduceEqDiff,reduceCtorEq,zCv,L];refine zK0 t ?_
  (repeat (first|refine zh ?_|(refine zd rfl ?_;try simp only[cx,reduceIte])|refine zT ?_|((first|refine zf polW kA _ rfl rfl ?_|refine zZ polW mixed kA _ rfl rfl dO dO ?_);simp only[↓zu,cy,zUC,zUL,zUM,zUK,Nat.reduceEqDiff,reduceCtorEq,kA])))
  refine zBN [ptV d,.at (.int .i64 i)] (.at (.string ⟨(l.getD i.toNat tokD).text.toArray⟩)) rfl rfl dO d7 dZ (zFb h n q) ?_;rw[m];simp only[ct,zUM,zUK,Nat.reduceEqDiff,reduceCtorEq,zAA];have y:zE ((k,OV.mp (trMC (yd f g (i+1))),[k])::s.ob) k=some (.mp (trMC (yd f g (i+1))),[k]):=by rw[zK,if_pos rfl]
  refine zDj y ?_;rw[zJQ];refine jZ [ptV d,.at (.int .i64 i),.at (.int .i64 1),.at (.int .i64 (i+1))] rfl rfl rfl dO d6 dW (zEe h A u n C D (IntWalk.i64_in _ dM)) (λr s a=>?_) (λc s a=>fo);obtain⟨a,rfl⟩:=a;injection a with a
  subst a;simp only[↓zk];exact⟨rfl,rfl⟩
 .have p:¬mgZ f g=0:=by simpa using x
  rw[if_neg p,if_neg p];refine zAE ?_
  (repeat (first|refine zh ?_|(refine zd rfl ?_;try simp only[cx,reduceIte])|refine zT ?_|((first|refine zf polW kA _ rfl rfl ?_|refine zZ polW mixed kA _ rfl rfl dO dO ?_);simp only[↓zu,cy,zUC,zUL,zUM,zUK,Nat.reduceEqDiff,reduceCtorEq,kA])))
  refine zBN [ptV d,.at (.int .i64 i)] (.at (.string ⟨(l.getD i.toNat tokD).text.toArray⟩)) rfl rfl dO d7 dZ (zFb h n q) ?_;rw[m];simp only[ct,zUM,zUK,Nat.reduceEqDiff,reduceCtorEq,zAA];refine zDj t ?_;refine jZ [ptV d,.at (.int .i64 i),.at (.int .i64 1),.at (.int .i64 (mgZ f g))] rfl rfl rfl dO d6 dW (zEe h A u n C D (IntWalk.i64_in _ dM)) (λr s a=>?_) (λc s a=>fo);obtain⟨a,rfl⟩:=a;injection a with a
  subst a;simp only[↓zk];exact⟨rfl,rfl⟩
def zGX(s:S):da Nat->db LT1->Prop
 |o,[]=>o=none
 |o,x::r=>∃b a c nx,o=some b/\Al.look s.box b=some (lcs a c nx,3)/\zE s.ob a=some (.mp (trMC x.1),[a])/\zE s.ob c=some (.mp (trMC x.2),[c])/\zGX s nx r
def kX(a:Str):db LT1->Int
 |[]=>0
 |x::r=>if mgZ x.1 a≠0 then mgZ x.1 a else kX a r
def zFK(a:Str):db LT1->Int
 |[]=>0
 |x::r=>if mgZ x.2 a≠0 then mgZ x.2 a else zFK a r
def finZ(z k:Int):Int:=if z≠0 then z else k
def zBQ{P:di}{a:BinOp}{t:dg}{c:dd}{p:da Addr}{K:V->Prop}:zB1 P a t c (.at (.pointer p)) (.at (.pointer none)) K=(zGQ P t=true/\kY a p.isNone true K):=rfl
def zHA{P:di}{L:Pol}{ds:db (da Nat)}{KP:db dj->S->Prop}{b:db dr}{K:Env->S->Prop}{e:Env}{st:S}{d:da Nat}{c:dg}{a:String}{f:dv Edge}(t:dg)(x:dq) :
 AL P L ds KP (⟨d,.load t x,c,a,f,none⟩::b) K e st=(ldK L x (e.ev x)/\qW P st t (e.ev x) λv=>AL P L ds KP b K (e.putO d v) st):=propext zVD
abbrev polK(b:Nat):Pol:=⟨λ_=>false,λ_=>false,λ_=>false,λf=>f==46,[(27,23)],λ_=>[b]⟩
def _root_.cn:=c9 @zC7 (c9 @zBR (c9 @zAv (c9 @kn @zBQ)))
set_option maxRecDepth 100000 in
def ok125x{l:db dw}{d:db dy}{G H I:V}{j bo cap:Nat}{o:da Nat}{xs:db LT1}{i:Int}{s:S}(h:Al.look s.box j=some ([tkV l,.at (.slice (some ⟨bo,0,none⟩) d.length cap),.at (pO o),G,H,I],6))(y:Al.look s.box bo=some (bdC d,cap*2))
 (J:zGX s o xs) (A:bo≠j) (n:0<=i) (K:i<l.length) (C:i<d.length) (D:d.length<=cap) {g:Str} (q:(l.getD i.toNat tokD).text=g) (E:0<=kX g xs/\kX g xs<1000000) :
 FnC Tryz.prog 125 [ptV j,.at (.int .i64 i)] s λoc s'=>oc=.ret (.tup [])/\s'=⟨lay s.box bo (bdC (d.set i.toNat ⟨1,kX g xs-1⟩),cap*2),s.tg,s.nx,s.ob⟩:=by
 refine xS Tryz.func125 rfl Tryz.ntmps125 Tryz.results125 (by show 2<=33;decide) λB=>?_;simp only[zUO,zUQ,zUR,qJ,Nat.reduceAdd];have k:zGQ Tryz.prog 77=true:=dO
 (repeat (first|refine zh ?_|(refine zd rfl ?_;try simp only[cx,reduceIte])|refine zT ?_|((first|refine zf polW jR _ rfl rfl ?_|refine zZ polW mixed jR _ rfl rfl dO dO ?_);simp only[↓cH,cR,cF,zUr,zU2,z7,yA,zUD,zUF,zUf,zUX,zUS,zUl,zUT,zUc,zUU,zUP,zUM,zUK,zUt,Nat.reduceAdd,Nat.reduceEqDiff,Nat.reduceLeDiff,reduceCtorEq,zUN,zUY,zUq,cY,c8,jR,h])))
 refine zLq (α:=da Nat×db LT1×Int) (λx=>zGX s x.1 x.2.1/\finZ x.2.2 (kX g x.2.1)=kX g xs) (λx=>x.2.1.length) (λx=>[(0,ptV j),(1,.at (.int .i64 i)),(4,.at (.int .i64 x.2.2)),(5,.at (pO x.1))]) (λ_=>s) (o,xs,0) ⟨J,by simp[finZ]⟩ (Env.sub_of _ _ eJ) (S.sub_refl _) ?_;rintro⟨L,ys,z⟩ ⟨F,t⟩;cases ys with
 |nil=>
  obtain rfl:L=none:=F;have e0:pO none=.pointer none:=rfl;dsimp only
  (repeat (first|refine zh ?_|(refine zd rfl ?_;try simp only[cx,reduceIte])|refine zT ?_|((first|refine zf polW jR _ rfl rfl ?_|refine zZ polW mixed jR _ rfl rfl dO dO ?_);simp only[↓zBU,↓cP,↓zDB,cC,cS,cn,zDK,j9,zUC,zUL,zVg,zUF,zUT,zUc,zUU,zUM,zUK,zUt,Nat.reduceEqDiff,reduceCtorEq,zUN,zGV,jR,e0,k,Option.isNone_none,zV7])))
  refine x8 rfl (λe=>fb) (λ_=>?_);have u:z=kX g xs:=by rw[<-t];unfold finZ kX;split<;>simp_all
  rw[<-u]at E ⊢;refine zBM ?_
  (repeat (first|refine zh ?_|(refine zd rfl ?_;try simp only[cx,reduceIte])|refine zT ?_|((first|refine zf polW jR _ rfl rfl ?_|refine zZ polW mixed jR _ rfl rfl dO dO ?_);simp only[↓zu,cy,zUC,zUL,zUM,zUK,Nat.reduceEqDiff,reduceCtorEq,jR])))
  refine jZ [ptV j,.at (.int .i64 i),.at (.int .i64 1),.at (.int .i64 z)] rfl rfl rfl dO d6 dW (zEe h y A n C D (IntWalk.i64_in _ dM)) (λr s a=>?_) (λc s a=>fo);obtain⟨a,rfl⟩:=a;injection a with a
  subst a;simp only[↓zk];exact⟨rfl,rfl⟩
 |cons x r=>
  obtain⟨b,M,N,nx,rfl,k1,k2,Q,O⟩:=F;have e0:pO (some b)=.pointer (some ⟨b,0,none⟩):=rfl;dsimp only;have m:Al.look s.box b=some ([.at (.map (some M)),.at (.map (some N)),.at (pO nx)],3):=k1
  (repeat (first|refine zh ?_|(refine zd rfl ?_;try simp only[cx,reduceIte])|refine zT ?_|((first|refine zf polW jR _ rfl rfl ?_|refine zZ polW mixed jR _ rfl rfl dO dO ?_);simp only[↓zBU,↓cP,↓zDB,cC,cS,cn,zDK,j9,zUC,zUL,zUD,zUT,zUc,zUU,zUM,zUK,zUt,Nat.reduceEqDiff,reduceCtorEq,zCQ,jR,e0,k,Option.isNone_some,zWE,beq_true])))
  refine x8 rfl (λv=>?_) (λv=>?_)
  .obtain rfl:z=0:=by simpa using v
   (repeat (first|refine zh ?_|(refine zd rfl ?_;try simp only[cx,reduceIte])|refine zT ?_|((first|refine zf (polK b) jR _ rfl rfl ?_|refine zZ (polK b) mixed jR _ rfl rfl dO dO ?_);simp only[↓zu,↓zl,↓yB,cu,yy,zBv,cA,zw,cj,Nat.reduceLT,zUC,zUL,zVg,zUU,zUM,zUK,zUt,Nat.reduceEqDiff,reduceCtorEq,zVE,zUq,c5,zEm,zDU,zLP,zDn,jR])))
   rw[zHA];refine⟨λp _ _ P o' f=>?_,?_⟩
   .have f:V.at (.pointer (some ⟨b,0,none⟩))=.at (.pointer (some ⟨P,o',none⟩)):=f;injection f with f
    injection f with f
    injection f with f
    injection f with f
    exact zUJ.2 f.symm
   simp only[↓zu,ct,ci,zUr,zU2,z7,yA,zUD,zUF,zUf,zUS,zUl,zUT,zUU,zUP,zUM,zUK,zUt,Nat.reduceAdd,Nat.reduceEqDiff,Nat.reduceLeDiff,reduceCtorEq,zUN,zUY,c7,m];refine zBN [ptV j,.at (.int .i64 i)] (.at (.string ⟨(l.getD i.toNat tokD).text.toArray⟩)) rfl rfl dO d7 dZ (zFb h n K) ?_;rw[q];simp only[↓zk,↓yb,ct,zUM,zUK,Nat.reduceEqDiff,reduceCtorEq,zAA];refine zDj k2 ?_
   (repeat (first|refine zh ?_|(refine zd rfl ?_;try simp only[cx,reduceIte])|refine zT ?_|((first|refine zf polW jR _ rfl rfl ?_|refine zZ polW mixed jR _ rfl rfl dO dO ?_);simp only[↓cH,cR,zUr,zU2,z7,yA,zUD,zUF,zUf,zUX,zUS,zVC,zUT,zUc,zUU,zUP,zUM,zUK,zUt,Nat.reduceAdd,Nat.reduceEqDiff,reduceCtorEq,zUN,zUY,zUB,zUq,cY,jv,zDd,jR,m])))
   refine⟨(nx,r,mgZ x.1 g),⟨O,?_⟩,zVn _,Env.sub_refl _,S.sub_refl _⟩;rw[<-t];simp only[finZ,kX,ne_eq,not_true_eq_false,zUK]
  .have w:z≠0:=by simpa using v
   have u:z=kX g xs:=by rw[<-t];unfold finZ;rw[if_pos w]
   rw[<-u]at E ⊢;refine zBM ?_
   (repeat (first|refine zh ?_|(refine zd rfl ?_;try simp only[cx,reduceIte])|refine zT ?_|((first|refine zf polW jR _ rfl rfl ?_|refine zZ polW mixed jR _ rfl rfl dO dO ?_);simp only[↓zu,cy,zUC,zUL,zUM,zUK,Nat.reduceEqDiff,reduceCtorEq,jR])))
   refine jZ [ptV j,.at (.int .i64 i),.at (.int .i64 1),.at (.int .i64 z)] rfl rfl rfl dO d6 dW (zEe h y A n C D (IntWalk.i64_in _ dM)) (λr s a=>?_) (λc s a=>fo);obtain⟨a,rfl⟩:=a;injection a with a
   subst a;simp only[↓zk];exact⟨rfl,rfl⟩
def tagZ(a:Str)(br:dd)(x:LT1)(r:db LT1):Int:=finZ (mgZ x.2 a) (if br=true then 0 else zFK a r)
set_option maxRecDepth 100000 in
def ok126x{l:db dw}{f:db dy}{N O P:V}{j bo cap b F p:Nat}{o:da Nat}{x:LT1}{xs:db LT1}{i:Int}{br:dd}{s:S}(h:Al.look s.box j=some ([tkV l,.at (.slice (some ⟨bo,0,none⟩) f.length cap),ptV b,N,O,P],6))(G:Al.look s.box bo=some (bdC f,cap*2))
 (R:Al.look s.box b=some (lcs F p o,3)) (H:zE s.ob p=some (.mp (trMC x.2),[p])) (T:zGX s o xs) (I:bo≠j) (v:0<=i) (U:i<l.length) (J:i<f.length) (K:f.length<=cap) (h4:l.length<1000000) {a:Str} (w:(l.getD i.toNat tokD).text=a) (W:0<=tagZ a br x xs/\tagZ a br x xs<1000000) :
 FnC Tryz.prog 126 [ptV j,.at (.int .i64 i),.at (.bool br)] s λoc s'=>oc=.ret (.tup [])/\s'=⟨lay s.box bo (bdC (f.set i.toNat ⟨2,(if tagZ a br x xs=0 then i+1 else tagZ a br x xs)-1⟩),cap*2),s.tg,s.nx,if tagZ a br x xs=0 then(p,.mp (trMC (yd x.2 a (i+1))),[p])::s.ob else s.ob⟩:=by
 refine xS Tryz.func126 rfl Tryz.ntmps126 Tryz.results126 (by show 3<=68;decide) λB=>?_;simp only[zUO,zUQ,zUR,qJ,Nat.reduceAdd];have g:zGQ Tryz.prog 77=true:=dO
 have m:Al.look s.box b=some ([.at (.map (some F)),.at (.map (some p)),.at (pO o)],3):=R
 (repeat (first|refine zh ?_|(refine zd rfl ?_;try simp only[cx,reduceIte])|refine zT ?_|((first|refine zf polW yu _ rfl rfl ?_|refine zZ polW mixed yu _ rfl rfl dO dO ?_);simp only[↓zu,cC,yy,zUC,zUL,zUM,zUK,Nat.reduceEqDiff,reduceCtorEq,yu])))
 refine zBN [ptV j,.at (.int .i64 i)] (.at (.string ⟨(l.getD i.toNat tokD).text.toArray⟩)) rfl rfl dO d7 dZ (zFb h v U) ?_;rw[w]
 (repeat (first|refine zh ?_|(refine zd rfl ?_;try simp only[cx,reduceIte])|refine zT ?_|((first|refine zf polW yu _ rfl rfl ?_|refine zZ polW mixed yu _ rfl rfl dO dO ?_);simp only[↓cH,cR,yy,zUr,Nat.reduceLT,zUC,zUL,zU2,z7,yA,zUD,zUF,zUf,zUX,zUS,zUl,zUT,zUc,zUU,zUP,zUM,zUK,zUt,Nat.reduceAdd,Nat.reduceEqDiff,Nat.reduceLeDiff,reduceCtorEq,zUN,zUY,zVE,zUq,c7,cY,c8,zEm,zDU,zHJ,zDn,yu,h,m,zAA])))
 refine zDj H ?_
 (repeat (first|refine zh ?_|(refine zd rfl ?_;try simp only[cx,reduceIte])|refine zT ?_|((first|refine zf polW yu _ rfl rfl ?_|refine zZ polW mixed yu _ rfl rfl dO dO ?_);simp only[↓cH,cR,zUr,zU2,z7,yA,zUD,zUF,zUf,zUX,zUS,zUl,zVC,zUT,zUc,zUU,zUP,zUM,zUK,zUt,Nat.reduceAdd,Nat.reduceEqDiff,Nat.reduceLeDiff,reduceCtorEq,zUN,zUY,zUB,zUq,cY,c8,zDd,yu,h,m])))
 refine zR2 (Q:=λL e' s'=>L=.exit 0/\e'.sub [(0,ptV j),(1,.at (.int .i64 i)),(6,.at (.string ⟨a.toArray⟩)),(7,.at (.int .i64 (tagZ a br x xs)))]/\s'.sub s) ?_ ?_
 .refine zLq (α:=da Nat×db LT1×Int) (λt=>zGX s t.1 t.2.1/\finZ t.2.2 (if br=true then 0 else zFK a t.2.1)=tagZ a br x xs) (λx=>x.2.1.length) (λx=>[(0,ptV j),(1,.at (.int .i64 i)),(2,.at (.bool br)),(6,.at (.string ⟨a.toArray⟩)),(7,.at (.int .i64 x.2.2)),(8,.at (pO x.1))]) (λ_=>s) (o,xs,mgZ x.2 a) ⟨T,rfl⟩ (Env.sub_of _ _ eJ) (S.sub_refl _) ?_;rintro⟨X,ys,z⟩ ⟨M,u⟩;cases ys with
  |nil=>
   obtain rfl:X=none:=M;have e0:pO none=.pointer none:=rfl;dsimp only
   (repeat (first|refine zh ?_|(refine zd rfl ?_;try simp only[cx,reduceIte])|refine zT ?_|((first|refine zf polW yu _ rfl rfl ?_|refine zZ polW mixed yu _ rfl rfl dO dO ?_);simp only[↓zBU,↓cP,↓zDB,↓zIE,cC,cS,cn,zDK,j9,zET,zUC,zUL,zVg,zUF,zUT,zUc,zUU,zUM,zUK,zUt,Nat.reduceEqDiff,reduceCtorEq,zUN,zGV,yu,e0,g,Option.isNone_none,zV7])))
   refine x8 rfl (λe=>fb) (λ_=>?_);have k:z=tagZ a br x xs:=by rw[<-u];unfold finZ zFK;split<;>simp_all
   refine zBM ?_;rw[<-k];exact⟨rfl,Env.sub_of _ _ eJ,S.sub_refl _⟩
  |cons y r=>
   obtain⟨b1,A,C,nx,rfl,k1,k2,Y,Z⟩:=M;have e0:pO (some b1)=.pointer (some ⟨b1,0,none⟩):=rfl;dsimp only;have q:Al.look s.box b1=some ([.at (.map (some A)),.at (.map (some C)),.at (pO nx)],3):=k1;by_cases n:z=0
   .subst n;cases br with
    |true=>
     (repeat (first|refine zh ?_|(refine zd rfl ?_;try simp only[cx,reduceIte])|refine zT ?_|((first|refine zf polW yu _ rfl rfl ?_|refine zZ polW mixed yu _ rfl rfl dO dO ?_);simp only[↓zBU,↓cP,↓zDB,↓zIE,cC,cS,cn,zDK,j9,zET,zUC,zUL,zVg,zUD,zUT,zUc,zUU,zUM,zUK,zUt,Nat.reduceEqDiff,reduceCtorEq,zCQ,yu,e0,g,Option.isNone_some,zV7,zWE,beq_true])))
     refine x8 rfl (λe=>fb) (λ_=>?_);refine zBM ?_;have k:(0:Int)=tagZ a true x xs:=by rw[<-u];rfl
     rw[<-k];exact⟨rfl,Env.sub_of _ _ eJ,S.sub_refl _⟩
    |false=>
     (repeat (first|refine zh ?_|(refine zd rfl ?_;try simp only[cx,reduceIte])|refine zT ?_|((first|refine zf polW yu _ rfl rfl ?_|refine zZ polW mixed yu _ rfl rfl dO dO ?_);simp only[↓zBU,↓cP,↓zDB,↓zIE,cC,cS,cn,zDK,j9,zET,zUC,zUL,zVg,zUD,zUT,zUc,zUU,zUM,zUK,zUt,Nat.reduceEqDiff,reduceCtorEq,zUN,zCQ,yu,e0,g,Option.isNone_some,zWE,beq_true])))
     refine x8 rfl (λ_=>?_) (λe=>fb)
     (repeat (first|refine zh ?_|(refine zd rfl ?_;try simp only[cx,reduceIte])|refine zT ?_|((first|refine zf polW yu _ rfl rfl ?_|refine zZ polW mixed yu _ rfl rfl dO dO ?_);simp only[↓cH,cu,yy,zBv,cA,zw,cI,zUr,Nat.reduceLT,zUC,zUL,zU2,z7,yA,zUD,zUF,zUf,zUX,zUS,zUl,zUT,zUc,zUU,zUP,zUM,zUK,zUt,Nat.reduceAdd,Nat.reduceEqDiff,Nat.reduceLeDiff,reduceCtorEq,zUN,zUY,zVE,zUq,c7,zEm,zDU,zHJ,zDn,yu,q,zAA])))
     refine zDj Y ?_
     (repeat (first|refine zh ?_|(refine zd rfl ?_;try simp only[cx,reduceIte])|refine zT ?_|((first|refine zf polW yu _ rfl rfl ?_|refine zZ polW mixed yu _ rfl rfl dO dO ?_);simp only[↓cH,cR,zUr,zU2,z7,yA,zUD,zUF,zUf,zUX,zUS,zVC,zUT,zUc,zUU,zUP,zUM,zUK,zUt,Nat.reduceAdd,Nat.reduceEqDiff,reduceCtorEq,zUN,zUY,zUB,zUq,cY,jv,zDd,yu,q])))
     refine⟨(nx,r,mgZ y.2 a),⟨Z,?_⟩,zVn _,Env.sub_refl _,S.sub_refl _⟩;rw[<-u];simp only[finZ,zFK,ne_eq,not_true_eq_false,zUK,zUN]
   .have D:(z==0)=false:=by simpa using n
    (repeat (first|refine zh ?_|(refine zd rfl ?_;try simp only[cx,reduceIte])|refine zT ?_|((first|refine zf polW yu _ rfl rfl ?_|refine zZ polW mixed yu _ rfl rfl dO dO ?_);simp only[↓zBU,↓cP,↓zDB,↓zIE,cC,cS,cn,zDK,j9,zET,zUC,zUL,zUD,zUT,zUc,zUU,zUM,zUK,zUt,Nat.reduceEqDiff,reduceCtorEq,zUN,zCQ,zGV,yu,e0,g,Option.isNone_some,zWE,beq_true,D])))
    refine x8 rfl (λe=>fb) (λ_=>?_);refine zBM ?_;have k:z=tagZ a br x xs:=by rw[<-u];unfold finZ;rw[if_pos n]
    rw[<-k];exact⟨rfl,Env.sub_of _ _ eJ,S.sub_refl _⟩
 .rintro L e' s' ⟨rfl,he,hs⟩;simp only[zN,zUM,zB];refine zOX he hs ?_;generalize tagZ a br x xs=z at W ⊢
  (repeat (first|refine zh ?_|(refine zd rfl ?_;try simp only[cx,reduceIte])|refine zT ?_|((first|refine zf polW yu _ rfl rfl ?_|refine zZ polW mixed yu _ rfl rfl dO dO ?_);simp only[↓cP,cC,cS,j9,zUM,zUK,Nat.reduceEqDiff,reduceCtorEq,yu])))
  refine x8 rfl (λE=>?_) (λE=>?_)
  .obtain rfl:z=0:=by simpa using E
   have hw:IntKind.i64.wrap (i+1)=i+1:=IntWalk.i64_in _ dM;rw[if_pos rfl,if_pos rfl]
   (repeat (first|refine zh ?_|(refine zd rfl ?_;try simp only[cx,reduceIte])|refine zT ?_|((first|refine zf polW yu _ rfl rfl ?_|refine zZ polW mixed yu _ rfl rfl dO dO ?_);simp only[↓cH,↓qK,cR,yy,qM,cS,zB5,zUr,Nat.reduceLT,zUC,zUL,zU2,zVg,z7,yA,zUD,zUF,zUf,zUX,zUS,zUl,zUT,zUc,zUU,zUP,zUM,zUK,zUt,Nat.reduceAdd,Nat.reduceEqDiff,Nat.reduceLeDiff,reduceCtorEq,zUN,zUY,zVE,zUq,c7,cY,c8,zEm,zDU,zHJ,zDn,yu,h,m,hw,zCv])))
   refine zK0 H ?_
   (repeat (first|refine zh ?_|(refine zd rfl ?_;try simp only[cx,reduceIte])|refine zT ?_|((first|refine zf polW yu _ rfl rfl ?_|refine zZ polW mixed yu _ rfl rfl dO dO ?_);simp only[↓zu,cy,zUC,zUL,zUM,zUK,Nat.reduceEqDiff,reduceCtorEq,yu])))
   refine jZ [ptV j,.at (.int .i64 i),.at (.int .i64 2),.at (.int .i64 (i+1))] rfl rfl rfl dO d6 dW (zEe h G I v J K (IntWalk.i64_in _ dM)) (λr s d=>?_) (λc s d=>(by cases d.1));obtain⟨d,rfl⟩:=d;injection d with d
   subst d;simp only[↓zk];exact⟨rfl,rfl⟩
  .have k:¬z=0:=by simpa using E
   rw[if_neg k,if_neg k];refine zAE ?_
   (repeat (first|refine zh ?_|(refine zd rfl ?_;try simp only[cx,reduceIte])|refine zT ?_|((first|refine zf polW yu _ rfl rfl ?_|refine zZ polW mixed yu _ rfl rfl dO dO ?_);simp only[↓zu,cy,zUC,zUL,zUM,zUK,Nat.reduceEqDiff,reduceCtorEq,yu])))
   refine jZ [ptV j,.at (.int .i64 i),.at (.int .i64 2),.at (.int .i64 z)] rfl rfl rfl dO d6 dW (zEe h G I v J K (IntWalk.i64_in _ dM)) (λr s d=>?_) (λc s d=>(by cases d.1));obtain⟨d,rfl⟩:=d;injection d with d
   subst d;simp only[↓zk];exact⟨rfl,rfl⟩
end
section
open Go.Al Go.Den Go.RowKit
abbrev trL(x:LT1):MC×MC:=(trMC x.1,trMC x.2)
def ChainF(s:S):db LT1->da Nat->db Nat->Prop
 |[],o,fp=>o=none/\fp=[]
 |x::r,o,fp=>∃b c d nx a,o=some b/\fp=b::c::d::a/\Al.look s.box b=some (lcs c d nx,3)/\zE s.ob c=some (.mp (trMC x.1),[c])/\zE s.ob d=some (.mp (trMC x.2),[d])/\ChainF s r nx a
def ChainF.chain{s:S}:∀{xs:db LT1}{o:da Nat}{fp:db Nat},ChainF s xs o fp->zGX s o xs
 |[],_,_,h=>h.1
 |_::_,_,_,⟨b,a,c,nx,d,e,_,f,g,i,j⟩=>⟨b,a,c,nx,e,f,g,i,j.chain⟩
structure Beside(fp:List Nat)(s s':S):Prop where
 box:∀j c,j∉fp->Al.look s.box j=some c->Al.look s'.box j=some c
 ob:∀j c,j∉fp->zE s.ob j=some c->zE s'.ob j=some c
 tg:s'.tg=s.tg
 nx:s'.nx=s.nx
def Beside.refl(fp:db Nat)(s:S):Beside fp s s:=⟨λ_ _ _ h=>h,λ_ _ _ h=>h,rfl,rfl⟩
def Beside.trans{fp:db Nat}{a b c:S}(h:Beside fp a b)(k:Beside fp b c):Beside fp a c:=
 ⟨λj x d e=>k.box j x d (h.box j x d e),λj x d e=>k.ob j x d (h.ob j x d e),k.tg.trans h.tg,k.nx.trans h.nx⟩
def Beside.mono{fp c:db Nat}{a b:S}(h:Beside fp a b)(f:∀j∈fp,j∈c):Beside c a b:=
 ⟨λj x d=>h.box j x λe=>d (f j e),λj x d=>h.ob j x λe=>d (f j e),h.tg,h.nx⟩
def ChainF.beside{s s':S}{fq:db Nat}(h:Beside fq s s'):∀{xs:db LT1}{o:da Nat}{fp:db Nat},ChainF s xs o fp->(∀j∈fp,j∉fq)->ChainF s' xs o fp
 |[],_,_,k,_=>k
 |_::_,_,_,⟨b,d,e,nx,c,f,g,i,l,m,n⟩,a=>by
  subst g;exact⟨b,d,e,nx,c,f,rfl,h.box _ _ (a b dQ) i,h.ob _ _ (a d dQ) l,h.ob _ _ (a e dQ) m,n.beside h λj p=>a j (by simp[p])⟩
def zJR:∀(xs:db LT1)(o:da Nat)(fp:db Nat)(s:S),ChainF s xs o fp->fp.Nodup ->
 ∃q,(∀B g w,Al.Inv B g s w->Al.Inv B g q w)/\((xs=[]/\o=none/\fp=[])\/∃b,o=some b/\xs≠[]/\b∈fp/\zE q.ob b=some (.lv (xs.map trL),fp))/\Beside fp s q
 |[],o,fp,s,h,_=>⟨s,λ_ _ _ h=>h,.inl ⟨rfl,h.1,h.2⟩,.refl _ _⟩
 |x::r,o,fp,s,h,d=>by
  obtain⟨b,k,l,nx,a,rfl,rfl,y,z,A,C⟩:=h;simp only[zUm,zUG,not_or]at d;obtain⟨⟨N,O,D⟩,⟨E,F⟩,G,H⟩:=d;obtain⟨m,k1,k2,p⟩:=zJR r nx a s C H;have I:=p.box b _ D y;have J:=p.ob k _ F z;have K:=p.ob l _ G A;have L:(r.map trL=[]/\nx=none/\a=[])\/∃n,nx=some n/\zE m.ob n=some (.lv (r.map trL),a):=by
   rcases k2 with⟨rfl,i,M⟩|⟨n,t,_,_,i⟩
   .exact .inl ⟨rfl,i,M⟩
   .exact .inr ⟨n,t,i⟩
  have u:∀n,nx=some n->n∈a:=by
   intro n d;rcases k2 with⟨_,i,_⟩|⟨P,t,_,i,_⟩
   .rw[i]at d;cases d
   .rw[t]at d;injection d with d;subst d;exact i
  refine⟨Al.closeOb m b (.lv (trL x::r.map trL)) (b::k::l::a) (k::l::nx.toList),λB g w hi=>(k1 B g w hi).closeLv (x:=trL x) (r:=r.map trL) I J K E L,.inr ⟨b,rfl,dQ,dQ,?_⟩,?_⟩
  .show zE ((b,_,_)::_) b=_;rw[zK,if_pos rfl];rfl
  .refine(p.mono λj f=>by simp[f]).trans ⟨λj c f v=>?_,λj c f v=>?_,rfl,rfl⟩
   .show Al.look (wipe m.box b) j=_;rw[yR,if_neg (λe=>f d5)];exact v
   .show zE ((b,_,_)::j8 m.ob _) j=_;rw[zK,if_neg (λe=>f d5),qc,if_pos ?_]
    .exact v
    .have:j∉k::l::nx.toList:=by
      simp only[zUG,Option.mem_toList,not_or];refine⟨λe=>f d5,λe=>f d5,λe=>f ?_⟩;have:=u j e;simp[this]
     simpa using this
def LMem.head{g:Gh}{w:de}{r:db (MC×MC)}{nx:da Nat}{fp:db Nat}(h:LMem g w r nx fp):nx=fp.head?:=by
 cases r with
 |nil=>obtain⟨rfl,rfl⟩:=h;rfl
 |cons x r=>obtain⟨b,d,e,a,el,c,rfl,rfl,_⟩:=h;rfl
def Inv.openLv2{B:Nat}{g:Gh}{st:S}{w:de}(hi:Al.Inv B g st w){b:Nat}{x:MC×MC}{r:db (MC×MC)}{fp:db Nat}(j:zE st.ob b=some (.lv (x::r),fp)) :
 ∃c d a,fp=b::c::d::a/\fp.Nodup/\(r=[]->a=[])/\(r≠[]->∃n,a.head?=some n)/\Al.Inv B g (Al.openLv st b c d x r a.head? a) w:=by
 obtain⟨⟨_,k,p,c,d,nx,el,a,h,rfl,l,m,o,f⟩,q,s⟩:=hi.ex.ob b _ _ j;injection h with h
 subst h;have:=LMem.head f;subst this;refine⟨c,d,a,rfl,k,λe=>?_,λe=>?_,hi.openG j k l m o λ_=>f⟩
 .subst e;exact f.2
 .rcases f.nil_or with⟨i,_⟩|⟨n,i,_⟩
  .exact absurd i e
  .exact⟨n,i⟩
def zLn{P:di}{f:dt}{args:db V}{Q:Outc->S->Prop}:∀(xs:db LT1)(b:Nat)(fp:db Nat)(s:S),xs≠[]->zE s.ob b=some (.lv (xs.map trL),fp) ->
 (∀s',ChainF s' xs (some b) fp->fp.Nodup->Beside fp s s'->FnC P f args s' Q)->FnC P f args s Q
 |[],_,_,_,h,_,_=>absurd rfl h
 |x::r,b,fp,s,_,O,H=>by
  refine zEa (φ:=∃d i a,fp=b::d::i::a/\fp.Nodup/\(r.map trL=[]->a=[])/\(r.map trL≠[]->∃n,a.head?=some n)) (λB g w hi=>?_) ?_
  .obtain⟨d,i,a,l,z,F,X,_⟩:=Inv.openLv2 hi O;exact⟨d,i,a,l,z,F,X⟩
  rintro⟨d,i,a,rfl,G,I,J⟩;have A:=G;simp only[zUm,zUG,not_or]at A;obtain⟨⟨n1,n2,Y⟩,⟨Z,R⟩,T,n7⟩:=A;refine zGg (s':=Al.openLv s b d i (trL x) (r.map trL) a.head? a) (λB g w hi=>?_) ?_
  .obtain⟨aa,ab,ac,l,_,_,_,h5⟩:=Inv.openLv2 hi O;injection l with _ l
   injection l with l K
   injection K with z F
   subst l;subst z;subst F;exact h5
  have m:(Al.openLv s b d i (trL x) (r.map trL) a.head? a).ob=(d,.mp (trMC x.1),[d])::(i,.mp (trMC x.2),[i])::(lvR (r.map trL) a.head? a++j8 s.ob λk=>!(k==b)):=rfl;have q:Beside (b::d::i::a) s (Al.openLv s b d i (trL x) (r.map trL) a.head? a):=by
   refine⟨λj c u L=>?_,λj c u L=>?_,rfl,rfl⟩
   .show Al.look (lay s.box b _) j=_;rw[zO,if_neg (λe=>u d5)];exact L
   .rw[m,zK,if_neg (λe=>u d5),zK,if_neg (λe=>u d5),kx];have M:zE (lvR (r.map trL) a.head? a) j=none:=by
     cases e:zE (lvR (r.map trL) a.head? a) j with
     |none=>rfl
     |some p=>
      obtain⟨o,f⟩:=p;obtain⟨C,_⟩:=zLW e;refine absurd ?_ u;have:j∈a:=by
       cases a with
       |nil=>cases C
       |cons y t=>injection C with C;simp[C]
      simp[this]
    rw[M,qc,if_pos (by simpa using λe=>u d5)];exact L
  have U:Al.look (Al.openLv s b d i (trL x) (r.map trL) a.head? a).box b=some (lcs d i a.head?,3):=by
   show Al.look (lay s.box b _) b=_;rw[zO,if_pos rfl]
  have l:zE (Al.openLv s b d i (trL x) (r.map trL) a.head? a).ob d=some (.mp (trMC x.1),[d]):=by rw[m,zK,if_pos rfl]
  have z:zE (Al.openLv s b d i (trL x) (r.map trL) a.head? a).ob i=some (.mp (trMC x.2),[i]):=by rw[m,zK,if_neg (λe=>Z e),zK,if_pos rfl]
  by_cases D:r=[]
  .subst D;have:=I rfl;subst this;exact H _ ⟨b,d,i,none,[],rfl,rfl,U,l,z,rfl,rfl⟩ G q
  .obtain⟨n,v⟩:=J (by simpa using D);have N:zE (Al.openLv s b d i (trL x) (r.map trL) a.head? a).ob n=some (.lv (r.map trL),a):=by
    have W:n∈a:=List.mem_of_mem_head? v;rw[m,zK,if_neg (λe:d=n=>R (by rw[e];exact W)),zK,if_neg (λe:i=n=>T (by rw[e];exact W)),kx];obtain⟨y,t,rfl⟩:∃y t,r=y::t:=by cases r with|nil=>exact absurd rfl D|cons y t=>exact⟨y,t,rfl⟩
    rw[v];have M:zE (lvR (List.map trL (y::t)) (some n) a) n=some (.lv (List.map trL (y::t)),a):=by
     show zE [(n,_,a)] n=_;rw[zK,if_pos rfl]
    rw[M];rfl
   refine zLn r n a _ D N λs' c1 c2 E=>?_;exact H s' ⟨b,d,i,a.head?,a,rfl,rfl,E.box _ _ Y U,E.ob _ _ R l,E.ob _ _ T z,by rw[v];exact c1⟩ G (q.trans (E.mono λj u=>by simp[u]))
abbrev wkV(y:WS):WkT×dc:=((y.1,y.2.1,y.2.2.1,y.2.2.2.1,y.2.2.2.2,(),()),())
def zEM{P:di}{f:Nat}{aa rs:LK}{c:zA aa->WW (zA rs)}
 (H:∀(q:WS) a y,c a q=some y->∀st d va e g,VKs CC st [wkK] (wkV q) d e->VKs CC st aa a va g->(e++g).Nodup->FnC P f (d++va) (subS st (e++g)) (jQ CC syn [wkK] rs d (some (wkV y.2,y.1)))):dI CC P syn f (cW aa rs c):=by
 intro x a R n K r b;obtain⟨⟨i,j,k,l,m,v,u⟩,w⟩:=x;have b:(Option.bind (c a (i,j,k,l,m)) λy=>K (wkV y.2) y.1)=some r:=b;cases h:c a (i,j,k,l,m)with
 |none=>rw[h]at b;cases b
 |some y=>
  rw[h]at b;exact⟨some (wkV y.2,y.1),b,λs d va e g o p t=>H _ a y h s d va e g o p t⟩
def zCK{s:S}{q:WS}{f:db V}{r:db Res}(h:VKs CC s [wkK] (wkV q) f r) :
 ∃(a bo cap b:Nat)(fp:db Nat)(bf:Nat)(ff:db Nat)(bm:Nat)(fm:db Nat)(o6:da Nat),f=[ptV a]/\Al.look s.box a=some ([tkV q.1,.at (.slice (some ⟨bo,0,none⟩) q.2.1.length cap),ptV b,.at (.map (some bf)),.at (.map (some bm)),.at (pO o6)],6)/\q.2.1.length<=cap/\Al.look s.box bo=some (bdC q.2.1,cap*2) /\
  zE s.ob b=some (.lv (q.2.2.1.map trL),fp)/\zE s.ob bf=some (.mp (trMC q.2.2.2.1),ff)/\zE s.ob bm=some (.mp (trMC q.2.2.2.2),fm)/\r=[.inr a,.inr bo,.ob b,.ob bf,.ob bm]:=by
 obtain⟨z,A,B,C,D⟩:=q;simp only[VKs,VK]at h;obtain⟨E,g,F,G,rfl,rfl,⟨a,cs,H,rfl,i,j,rfl⟩,rfl,rfl⟩:=h;obtain⟨I,J,K,L,rfl,rfl,⟨rfl,rfl⟩,M,N,O,P,rfl,rfl,⟨k,cap,rfl,l,m,rfl⟩,Q,R,T,U,rfl,rfl,⟨n,c,rfl,o,rfl⟩,W,X,Y,Z,rfl,rfl,⟨p,d,rfl,t,rfl⟩,v5,w5,a9,u,rfl,rfl,⟨v,e,rfl,w,rfl⟩,v6,w6,x,y,rfl,rfl,⟨⟨o6,rfl⟩,rfl⟩,rfl,rfl⟩:=j;exact⟨a,k,cap,n,c,p,d,v,e,o6,rfl,i,l,m,o,t,w,rfl⟩
def zE4{s:S}{q:WS}{a bo cap n b bf bm:Nat}{fp ff fm:db Nat}{o6:da Nat}(c:n=q.2.1.length)(d:Al.look s.box a=some ([tkV q.1,.at (.slice (some ⟨bo,0,none⟩) n cap),ptV b,.at (.map (some bf)),.at (.map (some bm)),.at (pO o6)],6))(e:q.2.1.length<=cap)(f:Al.look s.box bo=some (bdC q.2.1,cap*2))
 (g:zE s.ob b=some (.lv (q.2.2.1.map trL),fp)) (h:zE s.ob bf=some (.mp (trMC q.2.2.2.1),ff)) (i:zE s.ob bm=some (.mp (trMC q.2.2.2.2),fm)):VKs CC s [wkK] (wkV q) [ptV a] [.inr a,.inr bo,.ob b,.ob bf,.ob bm]:=by
 subst c;obtain⟨j,k,l,m,o⟩:=q;simp only[VKs,VK];exact⟨_,[],_,[],rfl,rfl,⟨a,_,[.inr bo,.ob b,.ob bf,.ob bm],rfl,d,⟨_,_,[],[.inr bo,.ob b,.ob bf,.ob bm],rfl,rfl,⟨rfl,rfl⟩,_,_,[.inr bo],[.ob b,.ob bf,.ob bm],rfl,rfl,⟨bo,cap,rfl,e,f,rfl⟩,_,_,[.ob b],[.ob bf,.ob bm],rfl,rfl,⟨b,fp,rfl,g,rfl⟩,_,_,[.ob bf],[.ob bm],rfl,rfl,⟨bf,ff,rfl,h,rfl⟩,_,_,[.ob bm],[],rfl,rfl,⟨bm,fm,rfl,i,rfl⟩,_,[],[],[],rfl,rfl,⟨⟨o6,rfl⟩,rfl⟩,rfl,rfl⟩,rfl⟩,rfl,rfl⟩
def zMJ{s:S}{d bo b bf bm:Nat}{fp ff fm:db Nat}{cs ds:db V×Nat}{o:OV}{h i:OV}{B:Nat}{g:Gh}{w:de}(hi:Al.Inv B g s w)(j:Al.look s.box d=some cs)(k:Al.look s.box bo=some ds)(c:zE s.ob b=some (o,fp))(e:zE s.ob bf=some (h,ff))(f:zE s.ob bm=some (i,fm))(l:b≠bf)(m:b≠bm):d∉fp/\bo∉fp/\bf∉fp/\bm∉fp:=by
 refine⟨λa=>?_,λa=>?_,λa=>?_,λa=>?_⟩
 .have:=((hi.ex.ob b _ _ c).2.2 d a).2.2.2.1;rw[j]at this;cases this
 .have:=((hi.ex.ob b _ _ c).2.2 bo a).2.2.2.1;rw[k]at this;cases this
 .exact l (hi.ex.obd b _ _ bf _ _ bf c e a (hi.ex.ob bf _ _ e).2.1)
 .exact m (hi.ex.obd b _ _ bm _ _ bm c f a (hi.ex.ob bm _ _ f).2.1)
def kz{P:di}{f:dt}{d:db V}{Q i:Outc->S->Prop}{s:S}(h:FnC P f d s Q)(j:∀oc s',Q oc s'->i oc s'):FnC P f d s i:=
 zDl (λB g w vs hi a k=>(h B g w vs hi a k).mono λe w' ⟨g',s',k1,k2,b⟩=>by
  refine⟨g',s',k1,k2,?_⟩;cases e with
  |outgrown=>exact b.elim
  |panicked c=>exact⟨s',λ_ _ _ h=>h,j _ _ b⟩
  |returned v=>obtain⟨r,l,m⟩:=b;exact⟨r,l,s',λ_ _ _ h=>h,j _ _ m⟩)
def zIq{P:di}{f:Nat}{va:db V}{st:S}{q:WS}{x:db V}{y:db Res}(J:VKs CC st [wkK] (wkV q) x y)(o:y.Nodup){d:db dy}{e:db LT1}(K:e≠[])(h:d.length=q.2.1.length)
 (H:∀(s:S)(a bo cap b:Nat)(fp:db Nat)(L M N:V),Al.look s.box a=some ([tkV q.1,.at (.slice (some ⟨bo,0,none⟩) q.2.1.length cap),ptV b,L,M,N],6)->Al.look s.box bo=some (bdC q.2.1,cap*2)->q.2.1.length<=cap->bo≠a->a∉fp->bo∉fp->q.2.2.1≠[]->ChainF s q.2.2.1 (some b) fp->fp.Nodup ->
  FnC P f ([ptV a]++va) s (λoc s'=>oc=.ret (.tup [])/\s'.box=lay s.box bo (bdC d,cap*2)/\s'.tg=s.tg/\s'.nx=s.nx/\ChainF s' e (some b) fp/\∀j c,j∉fp->zE s.ob j=some c->zE s'.ob j=some c)) :
 FnC P f (x++va) (subS st y) (jQ CC syn [wkK] [] x (some (wkV (q.1,d,e,q.2.2.2.1,q.2.2.2.2),()))):=by
 obtain⟨a,bo,cap,b,fp,bf,ff,bm,fm,o6,rfl,k1,k2,O,Q,R,T,rfl⟩:=zCK J;have k:=(yS st [.inr a,.inr bo,.ob b,.ob bf,.ob bm] a).1 dQ;have p:=(yS st [.inr a,.inr bo,.ob b,.ob bf,.ob bm] bo).1 dQ;have l:=(yP st [.inr a,.inr bo,.ob b,.ob bf,.ob bm] b).1 dQ;have r:=(yP st [.inr a,.inr bo,.ob b,.ob bf,.ob bm] bf).1 dQ;have t:=(yP st [.inr a,.inr bo,.ob b,.ob bf,.ob bm] bm).1 dQ;rw[k1]at k;rw[O]at p;rw[Q]at l;rw[R]at r;rw[T]at t;generalize subS st [.inr a,.inr bo,.ob b,.ob bf,.ob bm]=s0 at k p l r t ⊢;have U:b≠bf:=by rintro rfl;simp at o
 have W:b≠bm:=by rintro rfl;simp at o
 have D:bo≠a:=by rintro rfl;simp at o
 refine zEa (φ:=q.2.2.1≠[]/\a∉fp/\bo∉fp/\bf∉fp/\bm∉fp) (λB g w hi=>⟨?_,zMJ hi k p l r t U W⟩) ?_
 .have:=(hi.ex.ob b _ _ l).1.1;simpa using this
 rintro⟨E,u,z,A,C⟩;refine zLn _ b fp s0 E l λX Y F m=>?_;refine zDl (kz (H X a bo cap b fp _ _ _ (m.box _ _ u k) (m.box _ _ z p) k2 D u z E Y F) ?_);rintro oc s' ⟨rfl,G,p2,p3,Z,I⟩;obtain⟨s2,t1,i,v⟩:=zJR _ _ _ _ Z F;refine⟨s2,t1,?_⟩;rcases i with⟨i,_⟩|⟨b',i,_,_,t4⟩
 .exact absurd i K
 injection i with i
 subst i;refine⟨[],[.inr a,.inr bo,.ob b,.ob bf,.ob bm],[],zE4 (q:=(q.1,d,e,q.2.2.2.1,q.2.2.2.2)) (n:=q.2.1.length) (cap:=cap) (o6:=o6) (fp:=fp) (ff:=ff) (fm:=fm) h.symm ?_ (by rw[h];exact k2) ?_ t4 ?_ ?_,⟨rfl,rfl⟩,by simpa using o,rfl⟩
 .exact v.box _ _ u (by rw[G,zO,if_neg D];exact m.box _ _ u k)
 .exact v.box _ _ z (by rw[G,zO,if_pos rfl])
 .exact v.ob _ _ A (I _ _ A (m.ob _ _ A r))
 .exact v.ob _ _ C (I _ _ C (m.ob _ _ C t))
end
section
open Go.Al Go.Den Go.RowKit
attribute [local congr] xP xi x7 qP yX xL yN yO xQ xn xE xx xN xG yI yT xD x9 xy yh xj xO yi yo xH xF yn xI xM yl qR qB qA xh xg xm xK ym yk
set_option maxRecDepth 100000 in
def ok102n{b:Nat}{i:Int}{s:S}(h:i<0):FnC Tryz.prog 102 [ptV b,.at (.int .i64 i)] s λoc s'=>oc=.ret (.tup [])/\s'=s:=by
 refine xS Tryz.func102 rfl Tryz.ntmps102 Tryz.results102 (by show 2<=35;decide) λB=>?_;simp only[zUO,zUQ,zUR,qJ,Nat.reduceAdd];have a:decide (i<0)=true:=by simpa using h
 (repeat (first|refine zh ?_|(refine zd rfl ?_;try simp only[cx,reduceIte])|refine zT ?_|((first|refine zf polW kA _ rfl rfl ?_|refine zZ polW mixed kA _ rfl rfl dO dO ?_);simp only[↓cP,cC,cS,zLw,zUM,zUK,Nat.reduceEqDiff,reduceCtorEq,kA])))
 refine x8 rfl (λ_=>?_) (λe=>by rw[a]at e;cases e);refine zIu ?_;exact⟨rfl,rfl⟩
def c102(a:Int×dc):WW dc:=λq=>
 if a.1<0 then some ((),q)else
 match q.2.2.1 with
 |[]=>none
 |x::r=>
  if a.1<q.1.length/\a.1<q.2.1.length/\q.1.length<1000000/\0<=mgZ x.1 (q.1.getD a.1.toNat tokD).text/\mgZ x.1 (q.1.getD a.1.toNat tokD).text<1000000 then
   some ((),(q.1,q.2.1.set a.1.toNat ⟨1,(if mgZ x.1 (q.1.getD a.1.toNat tokD).text=0 then a.1+1 else mgZ x.1 (q.1.getD a.1.toNat tokD).text)-1⟩,
    (if mgZ x.1 (q.1.getD a.1.toNat tokD).text=0 then yd x.1 (q.1.getD a.1.toNat tokD).text (a.1+1)else x.1,x.2)::r,q.2.2.2))
  else none
def ok102:CQ 102 (cW ([.int .i64]:LK) ([]:LK) c102):=by
 refine zEM λq a y d st S va T U k p l=>?_;obtain⟨i,V⟩:=a;change Int at i;simp only[VKs,VK]at p;obtain⟨va,vs',W,X,rfl,rfl,⟨rfl,rfl⟩,rfl,rfl⟩:=p;simp only[zUR]at l ⊢;unfold c102 at d;simp only at d;split at d
 .rename_i hi;injection d with d
  subst d;obtain⟨D,bo,cap,b,fp,bf,ff,bm,fm,o6,rfl,k1,k2,Y,Z,k5,k6,rfl⟩:=zCK k;refine kz (ok102n hi) ?_;rintro oc s' ⟨rfl,rfl⟩;exact⟨[],_,[],jU _ _ k (zD7 st _),⟨rfl,rfl⟩,by simpa using l,rfl⟩
 .rename_i hi;split at d
  .cases d
  .rename_i x r m;split at d
   .rename_i g;obtain⟨E,F,G,H⟩:=g;injection d with d
    subst d;refine zIq k l dQ dQ λs D bo cap b fp v3 v4 v5 I J K L t n9 _ u M=>?_;rw[m]at u;obtain⟨b',v,N,nx,n,o,rfl,w,z,A,O⟩:=u;injection o with o
    subst o;have B:=M;simp only[zUm,zUG,not_or]at B t;obtain⟨⟨p1,p2,p3⟩,⟨P,Q⟩,p6,p7⟩:=B;have R:bo≠b:=λe=>n9 d5;refine kz (ok102x I J w z L (λe=>t.1 e.symm) dM E F K G rfl H) ?_;rintro oc s' ⟨rfl,rfl⟩;refine⟨rfl,rfl,rfl,rfl,⟨b,v,N,nx,n,rfl,rfl,?_,?_,?_,?_⟩,λj c h g=>?_⟩
    .show Al.look (lay s.box bo _) b=_;rw[zO,if_neg R];exact w
    .by_cases f:mgZ x.1 (q.1.getD i.toNat tokD).text=0
     .simp only[if_pos f];rw[zK,if_pos rfl]
     .simp only[if_neg f];exact z
    .by_cases f:mgZ x.1 (q.1.getD i.toNat tokD).text=0
     .simp only[if_pos f];rw[zK,if_neg P];exact A
     .simp only[if_neg f];exact A
    .refine ChainF.beside (fq:=[bo,v]) (?_:Beside _ _ _) O λj h C=>?_;refine⟨λj c h g=>?_,λj c h g=>?_,rfl,rfl⟩
     .show Al.look (lay s.box bo _) j=_;rw[zO,if_neg (λe=>h d5)];exact g
     .by_cases f:mgZ x.1 (q.1.getD i.toNat tokD).text=0
      .simp only[if_pos f];rw[zK,if_neg (λe=>h d5)];exact g
      .simp only[if_neg f];exact g
     .simp only[zUG,zU4,zVL]at C;rcases C with rfl|rfl
      .exact n9 fh
      .exact Q h
    .by_cases f:mgZ x.1 (q.1.getD i.toNat tokD).text=0
     .simp only[if_pos f];rw[zK,if_neg (λe=>h d5)];exact g
     .simp only[if_neg f];exact g
   .cases d
def c125(a:Int×dc):WW dc:=λq=>
 if 0<=a.1/\a.1<q.1.length/\a.1<q.2.1.length/\q.2.2.1≠[]/\0<=kX (q.1.getD a.1.toNat tokD).text q.2.2.1/\kX (q.1.getD a.1.toNat tokD).text q.2.2.1<1000000 then
  some ((),(q.1,q.2.1.set a.1.toNat ⟨1,kX (q.1.getD a.1.toNat tokD).text q.2.2.1-1⟩,q.2.2.1,q.2.2.2))
 else none
def ok125:CQ 125 (cW ([.int .i64]:LK) ([]:LK) c125):=by
 refine zEM λq a y d st B va C D n h k=>?_;obtain⟨i,E⟩:=a;change Int at i;simp only[VKs,VK]at h;obtain⟨va,vs',F,G,rfl,rfl,⟨rfl,rfl⟩,rfl,rfl⟩:=h;simp only[zUR]at k ⊢;unfold c125 at d;simp only at d;split at d
 .rename_i f;obtain⟨p,r,t,u,v⟩:=f;injection d with d
  subst d;refine zIq n k u dQ λs H bo cap b fp I J K w x z A L n9 _ l M=>?_;refine kz (ok125x (o:=some b) w x l.chain A p r t z rfl v) ?_;rintro oc s' ⟨rfl,rfl⟩;refine⟨rfl,rfl,rfl,rfl,ChainF.beside (fq:=[bo]) (?_:Beside _ _ _) l λj g m=>?_,λj c g f=>f⟩
  .refine⟨λj c g f=>?_,λj c g f=>f,rfl,rfl⟩;show Al.look (lay s.box bo _) j=_;rw[zO,if_neg (λe=>g d5)];exact f
  .simp only[zUJ]at m;subst m;exact n9 g
 .cases d
def c126(a:Int×dd×dc):WW dc:=λq=>
 match q.2.2.1 with
 |[]=>none
 |x::r=>
  if 0<=a.1/\a.1<q.1.length/\a.1<q.2.1.length/\q.1.length<1000000/\0<=tagZ (q.1.getD a.1.toNat tokD).text a.2.1 x r/\tagZ (q.1.getD a.1.toNat tokD).text a.2.1 x r<1000000 then
   some ((),(q.1,q.2.1.set a.1.toNat ⟨2,(if tagZ (q.1.getD a.1.toNat tokD).text a.2.1 x r=0 then a.1+1 else tagZ (q.1.getD a.1.toNat tokD).text a.2.1 x r)-1⟩,
    (x.1,if tagZ (q.1.getD a.1.toNat tokD).text a.2.1 x r=0 then yd x.2 (q.1.getD a.1.toNat tokD).text (a.1+1)else x.2)::r,q.2.2.2))
  else none
def ok126:CQ 126 (cW ([.int .i64,.bool]:LK) ([]:LK) c126):=by
 refine zEM λq a y f st T va U V C n o=>?_;obtain⟨i,br,W⟩:=a;change Int at i;change dd at br;simp only[VKs,VK]at n;obtain⟨va,vs',X,Y,rfl,rfl,⟨rfl,rfl⟩,Z,D,q3,q4,rfl,rfl,⟨rfl,rfl⟩,rfl,rfl⟩:=n;simp only[zUR]at o ⊢;unfold c126 at f;simp only at f;split at f
 .cases f
 .rename_i x r k;split at f
  .rename_i g;obtain⟨E,F,G,H,I⟩:=g;injection f with f
   subst f;refine zIq C o dQ dQ λs b0 bo cap b fp v3 v4 v5 J K L M N n9 _ p O=>?_;rw[k]at p;obtain⟨b',P,t,nx,l,m,rfl,u,v,w,z⟩:=p;injection m with m
   subst m;have A:=O;simp only[zUm,zUG,not_or]at A N;obtain⟨⟨p1,p2,p3⟩,⟨Q,p5⟩,R,p7⟩:=A;have S:bo≠b:=λe=>n9 d5;refine kz (ok126x (x:=x) (xs:=r) (br:=br) J K u w z.chain M E F G L H rfl I) ?_;rintro oc s' ⟨rfl,rfl⟩;refine⟨rfl,rfl,rfl,rfl,⟨b,P,t,nx,l,rfl,rfl,?_,?_,?_,?_⟩,λj c h g=>?_⟩
   .show Al.look (lay s.box bo _) b=_;rw[zO,if_neg S];exact u
   .by_cases d:tagZ (q.1.getD i.toNat tokD).text br x r=0
    .simp only[if_pos d];rw[zK,if_neg (λe=>Q e.symm)];exact v
    .simp only[if_neg d];exact v
   .by_cases d:tagZ (q.1.getD i.toNat tokD).text br x r=0
    .simp only[if_pos d];rw[zK,if_pos rfl]
    .simp only[if_neg d];exact w
   .refine ChainF.beside (fq:=[bo,t]) (?_:Beside _ _ _) z λj h B=>?_;refine⟨λj c h g=>?_,λj c h g=>?_,rfl,rfl⟩
    .show Al.look (lay s.box bo _) j=_;rw[zO,if_neg (λe=>h d5)];exact g
    .by_cases d:tagZ (q.1.getD i.toNat tokD).text br x r=0
     .simp only[if_pos d];rw[zK,if_neg (λe=>h d5)];exact g
     .simp only[if_neg d];exact g
    .simp only[zUG,zU4,zVL]at B;rcases B with rfl|rfl
     .exact n9 fh
     .exact R h
   .by_cases d:tagZ (q.1.getD i.toNat tokD).text br x r=0
    .simp only[if_pos d];rw[zK,if_neg (λe=>h d5)];exact g
    .simp only[if_neg d];exact g
  .cases f
end
end Go.Proofs.YtnamdpbcpnnhaaaGreatDoor
