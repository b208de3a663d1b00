/-
  Part 4 of what the last text needs: library, runs, contracts, plain laws. No condition of its own.
-/
import Derived.Test.YtfjiiknfopmcjaaGreatDoorZP3
import Derived.Test.YtfjiiknfopmcjaaGreatDoorTie
import Derived.LaidLaws
import Derived.LaidMore
import Derived.LaidHandle
import Derived.MakeChecks
import Derived.Shelf.Vars
import Derived.Handed
import Derived.Lay
import Derived.SevenTiedAt
import Derived.Deep.DeepHandedRow
import Derived.Test.YtfjiiknfopmcjaaGreatDoorRows
import Derived.Shelf.Small.Strs
import Derived.Shelf.Strings.Search1
import Derived.Shelf.Strings.Search2
import Derived.Shelf.Strings.Search3
import Derived.Shelf.Strings.Prefix
import Derived.Lib.QuietBelow
import GoSem.Claims
import Derived.RangeFuncNested
import Derived.RangeFuncBound
import Derived.RangeFuncLeaves
import Derived.RangeFuncWrites
import Derived.Shelf.Abstract
import Derived.OwnWalkIn
import Derived.TacticsInMore
import Derived.LoopIn
import Derived.LoopNIn
import Derived.Maps.AppendAt
import Derived.Shelf.Spec.SlicesGrow
set_option linter.unusedVariables false
set_option linter.unusedSimpArgs false
set_option linter.unusedSectionVars false
namespace Go.Proofs.YtfjiiknfopmcjaaGreatDoor
section
open Go.Al Go.Den Go.ChangeShapes Go.WideShapes Go.ChangeAt Go.RowKit
def zHx:List (String×DataW Unit):=[("unicode/utf8.acceptRanges",Rows.laid_unicode_utf8_acceptRanges),("emend/pptok.signs",Rows.laid_emend_pptok_signs),("unicode/utf8.first",Rows.laid_unicode_utf8_first)]
theorem zSg{P:Program}{W:World}{n:String}{g:Nat}{cs:Array Value}(a:P.globalNamed n=some g)(h:W.var? P n=some cs):∃el m,W.heap[g]?=some (.cells cs el m):=by
 unfold World.var? at h;rw[a]at h;simp only[zXg]at h;split at h
 .rename_i c el m b;injection h with h
  subst h;exact⟨el,m,b⟩
 .cases h
theorem zMx{H:Type}{enc:TypeId×Value->H}{P:Program}{w:World}{base:Nat}{s:Nat->Bool}{d:Bool}{f n:Nat}{t e:TypeId}{cs:List Value}{l:List (List UInt8)}{p:List MemPlace}
 (u:P.underlying t=some (.array n e)) (v:P.underlying e=some .string) (x:P.cellsOf e=1) (g:P.cellsOf t=n) (h:DataW.trod enc P w base s d f t cs=some (.agg (l.map λz=>.lit (.string z)),p)):cs=l.map λz=>strV z:=by
 obtain⟨xs,m,rfl,c,a,A,j⟩:=DataW.trod_array u h;injection c with c _
 injection c with c
 have k:l.length=n:=by
  have:=zWp List.length c;simp only[zWG]at this;omega
 refine List.ext_getElem (by rw[a,g,zWG,k]) λi o B=>?_;rw[zY3];have hi:i<n:=by rw[a,g]at o;exact o
 have r:=j i hi;rw[x,Nat.mul_one,zWn o,zWW,zWo,zWX (by omega)]at r;obtain⟨z,q,y,_⟩:=DataW.trod_string v r;injection q with q _
 have b:(xs.map (·.1))[i]'(by rw[zWG];omega)=(l.map λz=>DataW.lit (.string z))[i]'(by rw[zWG];omega):=by
  simp only[c]
 rw[zY3,zY3]at b;rw[y]at b;injection b with b
 injection b with b
 rw[q,<-b];unfold strV;cases z;simp
theorem zTp{W:World}{g:Nat}{cs:Array Value}{el:TypeId}{m:Nat×Nat}(h:W.heap[g]?=some (.cells cs el m)):cs.toList.length<=wmOf W g:=by
 unfold wmOf;rw[h];simp
theorem zJv{W:World}(a:W.ShapedOpen Tryz.prog)(h:laidMetH Tryz.prog zHx W):GlobOk W.heap.size (wmOf W) W:=by
 rw[MakeChecks.laidMetH_plain _ _ _ (by kernel_rfl)]at h;obtain⟨ps,f,_⟩:=h;obtain⟨g0,J,B,K,L,M,C,D,E,F,f,_⟩:=f;obtain⟨N,O,c,f1,Q,R,d,n,q,r,f,_⟩:=f;obtain rfl:=zXi ((show Tryz.prog.globalNamed "emend/pptok.signs"=some 0 by kernel_rfl).symm.trans d);obtain rfl:=zXi ((show(Tryz.prog.globals[0]?).map (·.type)=some 104 by kernel_rfl).symm.trans n);obtain⟨s,G,u⟩:=zSg d q;have y:c.toList=signsL.map strV:=zMx (l:=signsL) Tryz.underlying104 Tryz.underlying9 (by kernel_rfl) (by kernel_rfl) r;have lt:∀{b:Nat}{o:Obj},W.heap[b]?=some o->b<W.heap.size:=λh=>(zV8.1 h).1;have x:∃arr el m,W.heap[1]?=some (.cells arr el m)/\∃z,arr.toList=[Value.int .i64 z]:=by
  obtain⟨cs,A,H,S⟩:=a.1 1 #[.int .i64 0] 3 (zXA (by kernel_rfl)) (by kernel_rfl);refine⟨cs,_,_,A,?_⟩;obtain⟨z,i⟩:=cell_of_shapedOpen_int (P:=Tryz.prog) (w:=W) (g:=1) (t:=3) (zero:=#[.int .i64 0]) (k:=.i64) a (zXA (by kernel_rfl)) (by kernel_rfl) rfl (by kernel_rfl) (by kernel_rfl) Tryz.underlying3;refine⟨z,?_⟩;unfold World.cell? at i;simp only[A]at i;have j:cs.size=1:=H;obtain⟨l⟩:=cs
  match l,j with
  |[v],_=>
   simp at i;rw[i]
 refine⟨λp e=>?_,λp e=>?_⟩
 .simp only[zPg,zWB,zWu,zXc]at e;obtain rfl:=e;obtain⟨arr,el,m,j,I⟩:=x;exact⟨lt j,arr,el,m,j,I⟩
 .simp only[globA,zWB,zWu,zXc]at e;obtain rfl:=e;exact⟨lt u,⟨c,s,G,u,y⟩,by rw[<-y];exact zTp u⟩
theorem zJV{g:Gh}{w:World}(s:ByteArray):RV1 g w (.at (.string ⟨s.data.toList.toArray⟩)) (.string s):=by
 have e:(⟨s.data.toList.toArray⟩:ByteArray)=s:=by cases s;simp
 rw[e];exact⟨[.string s],by simp[RC,one],rfl⟩
theorem zVa(a:Os)(args:Array Value):laidMetH Tryz.prog zHx ((World.laidAll Tryz.prog a zHx).forCall (λ_ _=>0) ⟨#[],args,[]⟩).memory:=by
 rw[MakeChecks.laidMetH_plain _ _ _ (by kernel_rfl)];exact laidMet_laidAll _ (by kernel_rfl) (by kernel_rfl)
end
section
open Go.Al Go.Den Go.ChangeShapes Go.WideShapes Go.ChangeAt Go.RowKit
theorem zJW{H:Type}{enc:TypeId×Value->H}{C:Checked}{k:Os}{f:FuncId}{l:Func}{s:OpenSpec}{b:List PathCond}{c:Bool}{d:List (String×DataW Unit)}(modest:Bool)(w0:World)(args:Array Value)(h:w0.os=k)
 (j:(w0.forCall (λ_ _=>0) ⟨#[],args,[]⟩).Shaped C.prog)
 (e:Input.okWideB C.prog (w0.forCall (λ_ _=>0) ⟨#[],args,[]⟩) f ⟨#[],args,[]⟩=true)
 (g:s.preRow enc C.prog l b c d (w0.forCall (λ_ _=>0) ⟨#[],args,[]⟩).memory args) :
 ∃(w:World)(a:Tape)(i:Input),w.os=k/\(w.forCall a i).Shaped C.prog/\i.vars=[]/\Input.okWide C.prog (w.forCall a i) .any w.heap.size f i /\
  s.preRow enc C.prog l b c d (w.forCall a i).memory i.args/\({ modest:=modest }:Assume).holds C.prog (lone (Frame.enter C.prog f i.args .normal) [] (w.forCall a i)):=
 ⟨w0,λ_ _=>0,⟨#[],args,[]⟩,h,j,(Input.okWide_of_okWideB (base:=0) e).1,(Input.okWide_of_okWideB e).2,g,by
  simp only[Assume.holds];exact⟨by simp,by simp,λ_=>Modest.zero,by simp,by simp⟩⟩
end
end Go.Proofs.YtfjiiknfopmcjaaGreatDoor
namespace Go.Den
section
open Go.Al
theorem zST{P:Program}{X:Cx}{Q i:Exit->Env->S->Prop}{c:Code}{E:Env}{s:S}(h:awp P X c Q E s)(l:∀ex j k,Q ex j k->∃b d,Gst X j k b d/\i ex b d):awp P X c i E s:=by
 intro g a w m;refine wpIn_mono (h g a w m) ?_;rintro ex a' w' ⟨g',e',e,n,o,p⟩;obtain⟨b,d,q,f⟩:=l ex e' e p;obtain⟨t,u,v⟩:=q g' a' w' o;exact⟨t,b,d,n.trans u,v,f⟩
section
variable{U:TyU}(C:Cod U)(Tb:TypeId->TD U){R:Type}
def frzR{R:Type}:List ResultVar->En U->St U->(En U->St U->Option R)->Option R
 |[],e,st,K=>K e st
 |v::r,e,st,K=>match v with
  |.tmp t=>(match eget e t with
   |.sl l n=>(match lk st.bx l with
    |some (.ar i xs)=>bif Nat.ble n xs.length then frzR r ((t,.lst (.b false) i (zL n xs))::e) ⟨(l,none)::st.bx,st.tg,st.nl,st.nx,st.ob⟩ K else none
    |_=>none)
   |_=>frzR r e st K)
  |.cell _ _=>frzR r e st K
variable{C Tb}{P:Program}{r:R}
theorem zJg(c:CodOk C){X:Cx}{N:NM}:∀(rs:List ResultVar){e:En U}{E:Env}{st:St U}{s:S}{K:En U->St U->Option R},SSim C N st s->ESim C N st e E->frzR rs e st K=some r ->
 ∃e' d a f,K e' a=some r/\Gst X E s d f/\SSim C N a f/\ESim C N a e' d
 |[],e,E,st,s,K,g,j,h=>⟨e,E,st,s,h,.refl _ _ _,g,j⟩
 |v::rs,e,E,st,s,K,g,j,h=>by
  have go:frzR rs e st K=some r->∃e' d a f,K e' a=some r/\Gst X E s d f/\SSim C N a f/\ESim C N a e' d:=λB=>zJg c rs g j B;cases v with
  |cell p t=>simp only[frzR]at h;exact go h
  |tmp t=>
   simp only[frzR]at h;split at h
   .rename_i l n z;split at h
    .rename_i i xs m;obtain⟨o,D⟩:=zN h;have o:n<=xs.length:=by simpa [zXw]using o
     have F:=g.wf l _ m;have A:=((j t).1).get (by rw[z];simp);rw[z]at A;have k:=xZ c i xs;have q:(zL n xs).length=n:=by unfold zL;rw[zWT];omega
     have G:Gst X E s (E.put t (.lst .no ((zL n xs).map (C.encV i)))) ⟨wipe s.box (N.bl l),s.tg,s.nx,s.ob⟩:=by
      refine zHA t (N.bl l) n (N.cp l) (C.cells i) _ A (g.box l _ m) (by rw[zWG,q]) (by have:=F.2;omega) (j7 c i xs n) ?_ (ky c i _) ?_ ?_
      .rw[k];exact zWt _ o
      .intro x H;obtain⟨y,_,rfl⟩:=zWa.1 H;exact c.ones i y
      .rw[zXD];exact zWx λy _=>c.untag i y
     have u:=g.drop l m;have I:bdd st.nl st.nx (T.lst (.b false) i (zL n xs):T U)=true:=rfl;have w:ESim C N ⟨(l,none)::st.bx,st.tg,st.nl,st.nx,st.ob⟩ ((t,.lst (.b false) i (zL n xs))::e) (E.put t (.lst .no ((zL n xs).map (C.encV i)))):=by
      have:=ESim.put (st:=⟨(l,none)::st.bx,st.tg,st.nl,st.nx,st.ob⟩) (e:=e) (E:=E) (v:=.lst (.b false) i (zL n xs)) (v':=.lst .no ((zL n xs).map (C.encV i))) j (.inr rfl) I (some t);exact this
     obtain⟨e',d,a,f,J,L,M,O⟩:=zJg c rs u w D;exact⟨e',d,a,f,J,G.trans L,M,O⟩
    .cases h
   .exact go h
def xr(C:Cod U)(Tb:TypeId->TD U)(fu d:Nat)(inl:Nat->Option (FD U))(orc:Nat->Option (Con U))(orr:Nat->Option (CR U))(orp:Nat->Option (CP U))(b:FD U)(c rs:List (AK U))(e:Nat->Bool)(x:zS c):Option (zS rs):=
 drun C Tb fu (zCe C Tb fu inl orc orr orp none d) b.fi b.body (zDo 0 (xh C c e 0 x)) ⟨[],[],0,0,[]⟩ λex e' a=>match ex with
  |.normal=>frzR b.rs e' a λe' a=>dres C Tb e' a b.rs λvs=>zDj C rs vs some
  |.ret=>frzR b.rs e' a λe' a=>dres C Tb e' a b.rs λvs=>zDj C rs vs some
  |_=>none
theorem zSs(K:TbOk C P Tb)(D:CodOk C)(H:P.follows .mixedOrders=true){syn:List PanicEntry}{pf rf:FuncId->Bool}{fu d:Nat}{inl:Nat->Option (FD U)}{orc:Nat->Option (Con U)}{orr:Nat->Option (CR U)}{orp:Nat->Option (CP U)}(L:∀f,pf f=(orc f).isSome)(M:∀f,rf f=(orr f).isSome)
 (N:∀f g,inl f=some g->FDOk P pf rf f g) (O:∀f c,orc f=some c->OrcOk C P f c)
 (S:∀f c,orr f=some c->zU P f=true/\CROk C P f c) (T:∀f c,orp f=some c->zU P f=true/\CPOk C P syn f c) {f:Nat} {g:FD U} (q:FDOk P pf rf f g) {c:Con U} (E:c.as.length<=g.n)
 (W:∀a∈c.rs,∀i,a≠.ls i) (h:∀b x,xr C Tb fu d inl orc orr orp g c.as c.rs b x=c.fn x):ConOk C P f c:=by
 intro x y hx vs Y;obtain⟨fn,q1,q2,q3,q4⟩:=q.fn;have Z:∃b,vs=(xh C c.as b 0 x).map (trT C ⟨id,id,id,id⟩):=by
  have aa:∀(k:List (AK U))(x:zS k)(vs:List V)(j:Nat),zDn C k x vs->∃b:Nat->Bool,vs=(xh C k b j x).map (trT C ⟨id,id,id,id⟩):=by
   intro k
   induction k with
   |nil=>intro x vs j h;exact⟨λ_=>false,h⟩
   |cons a r s=>
    intro x vs j h;obtain⟨v,vs',rfl,o,F⟩:=h;obtain⟨b,h3⟩:=s x.2 vs' (j+1) F;have h4:∃n,v=trT C ⟨id,id,id,id⟩ (argT C a n x.1):=by
     cases a with
     |ls i=>obtain⟨n,hn⟩:=o;exact⟨n,by rw[hn];cases n<;>rfl⟩
     |_=>exact⟨false,o⟩
    obtain⟨n,h4⟩:=h4;have t:∀(k:List (AK U))(x:zS k)(b l:Nat->Bool)(j:Nat),(∀m,j<=m->b m=l m)->xh C k b j x=xh C k l j x:=by
     intro k
     induction k with
     |nil=>intros;rfl
     |cons a r s=>
      intro x b l j I;simp only[xh,I j (zV7 _),s x.2 b l (j+1) λm H=>I m (by omega)]
    refine⟨λm=>if m=j then n else b m,?_⟩;simp only[xh,zV6,zWE];rw[h3,h4,t r x.2 (λm=>if m=j then n else b m) b (j+1) λm H=>if_neg (by omega)]
  exact aa c.as x vs 0 Y
 obtain⟨b,rfl⟩:=Z;have u:∀(k:List (AK U))(b:Nat->Bool)(j:Nat)(x:zS k),(xh C k b j x).length=k.length:=by
  intro k
  induction k with
  |nil=>intros;rfl
  |cons a r s=>intro b j x;simp[xh,s]
 have p:=(h b x).trans hx;unfold xr at p;refine zNV q1 q2 q3 q4 (by rw[zWG,u];exact E) λB=>?_;have G:∀(rs:List (AK U)),(∀a∈rs,∀i,a≠.ls i)->∀(y:zS rs)(us:List V)(j:Nat),zDn C rs y us->us=(xh C rs (λ_=>false) j y).map (trT C ⟨id,id,id,id⟩):=by
  intro rs
  induction rs with
  |nil=>intro _ y us j hu;exact hu
  |cons a r s=>
   intro hr y us j hu;obtain⟨v,vs',rfl,o,F⟩:=hu;simp only[xh,zV6];rw[<-s (λa ha=>hr a (by simp[ha])) y.2 vs' (j+1) F];congr 1;cases a with
   |ls i=>exact absurd rfl (hr (.ls i) (by simp) i)
   |_=>exact o
 refine zST (Q:=λex E' J=>∃w z,Gst ⟨B,⟨g.n,[]⟩,none,[]⟩ E' J w z/\retE P g.rs (λoc _=>oc=.ret (finV ((xh C c.rs (λ_=>false) 0 y).map (trT C ⟨id,id,id,id⟩)))) ex w z) ?_ (λ_ _ _ hq=>hq);refine qu (X:=⟨B,⟨g.n,[]⟩,none,[]⟩) (PP:=λe=>e=syn/\(none:Option (zS c.rs))=some y) K D H (zBf K D H L M N O S T d g.fi.wr g.fi.own) g.body (SSim.empty ⟨id,id,id,id⟩ 0 0 _) (zA7 (st:=⟨[],[],0,0,[]⟩) _ 0 (zDe D c.as b 0 x)) p q.ok q.hok (λe J hq=>by cases hq.2) ?_;intro ex N' e' A E' J p1 p2 p3 p4 _;have ab:(frzR g.rs e' A λe' A=>dres C Tb e' A g.rs λvs=>zDj C c.rs vs some)=some y->∃w z,Gst ⟨B,⟨g.n,[]⟩,none,[]⟩ E' J w z/\yk P g.rs w z λxs=>Outc.ret (finV xs)=.ret (finV ((xh C c.rs (λ_=>false) 0 y).map (trT C ⟨id,id,id,id⟩))):=λI=>by
  obtain⟨e2,w,ac,z,u1,u2,u3,u4⟩:=zJg (X:=⟨B,⟨g.n,[]⟩,none,[]⟩) D g.rs p3 p4 I;refine⟨w,z,u2,zD6 K D u3 u4 g.rs u1 λvs hv=>?_⟩;obtain⟨y',o,F⟩:=zEl D c.rs hv;injection o with o
  subst o;rw[G c.rs W y' _ 0 (F N')]
 cases ex<;>simp only at p1<;>first|exact ab p1|cases p1
def zBW{R:Type}:(l:List (SK U))->List (T U)->St U->(zA l->St U->Option R)->Option R
 |[],vs,st,K=>(match vs with|[]=>K () st|_::_=>none)
 |k::r,vs,st,K=>(match vs with
  |[]=>none
  |v::vs=>match k with
   |.arr i=>getK C (.arr i) v st λx b=>feS b λb=>zBW r vs b λxs a=>K (x,xs) a
   |k=>getR C k v λx=>zBW r vs st λxs a=>K (x,xs) a)
theorem zQ0{i:U.I}{N:NM}{st:St U}{K:denK (.arr i:SK U)->St U->Option R}{v:T U}(h:getK C (.arr i) v st K=some r):(trT C N v).untag=trT C N v:=by
 simp only[getK]at h;split at h<;>first|rfl|cases h
theorem zFl(g:CodOk C):∀(l:List (SK U)){N:NM}{st:St U}{s:S}{vs:List (T U)}{K:zA l->St U->Option R},SSim C N st s->zBW (C:=C) l vs st K=some r ->
 ∃x c rs,K x c=some r/\SSim C N c s/\VKs C s l x ((vs.map (trT C N)).map V.untag) rs/\rs.Nodup/\(∀y∈rs,Has N st y/\¬Has N c y)/\(∀y,Has N c y->Has N st y)
 |[],N,st,s,vs,K,j,h=>by
  simp only[zBW]at h;cases vs with
  |cons _ _=>cases h
  |nil=>exact⟨_,st,[],h,j,by simp only[VKs];exact⟨rfl,trivial⟩,zW7,(by simp),λy e=>e⟩
 |k::d,N,st,s,vs,K,j,h=>by
  cases vs with
  |nil=>cases h
  |cons v vs=>
   have m:(getR C k v λx=>zBW (C:=C) d vs st λxs f=>K (x,xs) f)=some r->∃x c rs,K x c=some r/\SSim C N c s/\VKs C s (k::d) x (((v::vs).map (trT C N)).map V.untag) rs/\rs.Nodup/\(∀y∈rs,Has N st y/\¬Has N c y)/\(∀y,Has N c y->Has N st y):=λn=>by
    obtain⟨x,H,I⟩:=zN7 g k n;obtain⟨xs,c,rs,o,p,A,B,q,t⟩:=zFl g d j H;refine⟨(x,xs),c,rs,o,p,?_,B,q,t⟩;simp only[VKs,zV6];exact⟨_,_,[],rs,rfl,rfl,I N s,A⟩
   cases k with
   |arr i=>
    simp only[zBW,xE]at h;have J:=zQ0 (N:=N) h;obtain⟨x,L,D,o,p,A,B,q,t,u,E⟩:=zJh g (.arr i) j (.inr rfl:VR C N v (trT C N v)) h;obtain⟨xs,w,F,M,O,Q,W,z,G⟩:=zFl g d p o;refine⟨(x,xs),w,D++F,M,O,?_,?_,?_,λy e=>E y (G y e)⟩
    .simp only[VKs,zV6];exact⟨_,_,D,F,rfl,rfl,by rw[J];exact q,Q⟩
    .exact zXI.2 ⟨t,W,λa X b Y Z=>by subst Z;exact(u a X).2 (z a Y).1⟩
    .intro y e;rcases zWe.1 e with e|e
     .exact⟨(u y e).1,λn=>(u y e).2 (G y n)⟩
     .exact⟨E y (z y e).1,(z y e).2⟩
   |_=>exact m h
def zDc(C:Cod U)(Tb:TypeId->TD U)(fu d:Nat)(inl:Nat->Option (FD U))(orc:Nat->Option (Con U))(orr:Nat->Option (CR U))(orp:Nat->Option (CP U))(c:FD U)(f e g rs:List (SK U))(x:zA f)(a:zA g):Option (Option (zA e×zA rs)):=
 jy C f x ⟨[],[],0,0,[]⟩ λvs st=>feS st λst=>jy C g a st λh st=>feS st λst=>feA (vs++h) λi=>
 drun C Tb fu (zCe C Tb fu inl orc orr orp (some none) d) c.fi c.body (zDo 0 i) st λex e' b=>match ex with
  |.normal=>dres C Tb e' b c.rs λus=>zBW (C:=C) rs us b λz b=>feS b λb=>xI C e vs b λy _=>some (some (y,z))
  |.ret=>dres C Tb e' b c.rs λus=>zBW (C:=C) rs us b λz b=>feS b λb=>xI C e vs b λy _=>some (some (y,z))
  |_=>none
theorem zBe(Y:TbOk C P Tb)(E:CodOk C)(hm:P.follows .mixedOrders=true){syn:List PanicEntry}{pf rf:FuncId->Bool}{fu d:Nat}{inl:Nat->Option (FD U)}{orc:Nat->Option (Con U)}{orr:Nat->Option (CR U)}{orp:Nat->Option (CP U)}
 (Z:∀f,pf f=(orc f).isSome) (aa:∀f,rf f=(orr f).isSome) (ab:∀f i,inl f=some i->FDOk P pf rf f i) (ac:∀f c,orc f=some c->OrcOk C P f c)
 (ad:∀f c,orr f=some c->zU P f=true/\CROk C P f c) (ae:∀f c,orp f=some c->zU P f=true/\CPOk C P syn f c) {f:Nat} {i:FD U} (F:FDOk P pf rf f i) {p G u rs:List (SK U)} (L:p.length+u.length<=i.n)
 {fn:zA p->zA u->Option (Option (zA G×zA rs))} (h:∀x a,zDc C Tb fu d inl orc orr orp i p G u rs x a=fn x a):CPOk C P syn f ⟨p,G,u,rs,fnP fn⟩:=by
 intro x a R am K r H;unfold fnP at H;simp only at H;cases hx:fn x a with
 |none=>rw[hx]at H;cases H
 |some oc=>
  rw[hx]at H;simp only[zXg]at H;refine⟨oc,by cases oc<;>exact H,λs M va r1 r2 N O hn=>?_⟩;obtain⟨an,q1,q2,q3,q4⟩:=F.fn;have w:=(h x a).trans hx;unfold zDc at w;have A:=xG p x N ((zCF s (r1++r2)).mono λy o=>zXV _ o);have D:=xG u a O ((zCF s (r1++r2)).mono λy o=>zXj _ o);generalize subS s (r1++r2)=s0 at A D ⊢;obtain⟨af,ag,ah⟩:=zXI.1 hn;have Q:∀y,¬Has ⟨id,id,id,id⟩ (⟨[],[],0,0,[]⟩:St U) y:=λy o=>by
   cases y with
   |inl n=>obtain⟨t,ht,_⟩:=o;cases ht
   |inr b=>obtain⟨l,b,hl,_⟩:=o;simp[lk]at hl
   |ob b=>obtain⟨l,b,hl,_⟩:=o;simp[lko]at hl
  obtain⟨N1,g,ao,k1,k2,k3,k4,k5,k6⟩:=qw E p x (SSim.empty ⟨id,id,id,id⟩ 0 0 s0) A af (λy o S=>Q y S) w;rw[xE]at k1;obtain⟨N2,I,J,p1,T,p3,p4,p5,p6⟩:=qw E u a k3 D ag (λy o S=>by
   rcases k6 y S with q|q
   .exact Q y q
   .exact ah y q y o rfl) k1
  rw[xE,zB9]at p1;have V:g.map (trT C N2)=M:=by rw[yx T.ext k5,k4]
  have ai:bdds J.nl J.nx (g++I)=true:=zDz (yr T.nl T.nx _ k5) p5;have m:M++va=(g++I).map (trT C N2):=by rw[zWy,V,p4]
  have aj:M.length=p.length:=zBL p x N;have ak:va.length=u.length:=zBL u a O;rw[m];refine zAU q1 q2 q3 q4 (by rw[<-m,zWD,aj,ak];exact L) λB=>?_;refine qu (X:=⟨B,⟨i.n,[]⟩,none,[]⟩) (PP:=λe=>e=syn/\(some none:Option (Option (zA G×zA rs)))=some oc) Y E hm (zBf Y E hm Z aa ab ac ad ae d i.fi.wr i.fi.own) i.body p3 (zA7 (g++I) 0 ai) p1 F.ok F.hok (λe s' hq=>by
   obtain⟨W,h2⟩:=hq;injection h2 with h2
   subst h2;exact W) ?_
  intro ex N' e' k E' s' u1 u2 u3 u4 _;have al:(dres C Tb e' k i.rs λus=>zBW (C:=C) rs us k λz k=>feS k λk=>xI C G g k λy _=>some (some (y,z)))=some oc->yk P i.rs E' s' λxs=>qW C syn G rs M oc (.ret (finV xs)) s':=λS=>
   zD6 Y E u3 u4 i.rs S λus hv=>by
    obtain⟨z,J,q0,W,w1,w2,w3,w4,w5⟩:=zFl E rs u3 hv;rw[xE]at W;obtain⟨y,ap,q,h3,_,_,_,h4,h5,h6,_⟩:=jF E G (vs:=g) (vs':=g.map (trT C N')) w1 (by simp) (λj x v a b=>by
     rw[zWM,a]at b;injection b with b
     exact .inr b.symm) W
    injection h3 with h3
    subst h3;have e2:g.map (trT C N')=M:=by rw[yx u2.ext (yr T.nl T.nx _ k5),V]
    rw[e2]at h4;exact⟨_,q,q0,h4,w2,zXI.2 ⟨h5,w3,λa ha b hb V=>by subst V;exact(w4 a hb).2 (h6 a ha).1⟩,rfl⟩
  cases ex<;>simp only at u1<;>first|exact al u1|cases u1
end
end
end Go.Den
namespace Go.Proofs.YtfjiiknfopmcjaaGreatDoor
section
open Go.Al
def vi(n:Int):V:=.at (.int .i64 n)
def sl(es:List V):V:=.lst (yL es) es
end
section
open Go.Al
theorem hasT3:hasT Tryz.prog 3=true:=by kernel_rfl
theorem aggT3:xD Tryz.prog 3=false:=by kernel_rfl
theorem zSG:Tryz.prog.cellsOf 3=1:=by kernel_rfl
theorem zGZ:hasT Tryz.prog 4=true:=by kernel_rfl
theorem zPJ:xD Tryz.prog 4=false:=by kernel_rfl
theorem zEU:Tryz.prog.cellsOf 4=1:=by kernel_rfl
theorem zCY:hasT Tryz.prog 9=true:=by kernel_rfl
theorem zGO:xD Tryz.prog 9=false:=by kernel_rfl
theorem zBP:Tryz.prog.cellsOf 9=1:=by kernel_rfl
theorem zQe:Tryz.prog.bytesOf 9=16:=by kernel_rfl
theorem strT9:kN Tryz.prog 9=true:=by kernel_rfl
theorem zero9:yZ Tryz.prog 9=some [.at (.string .empty)]:=by kernel_rfl
theorem zJA:hasT Tryz.prog 22=true:=by kernel_rfl
theorem zJC:xD Tryz.prog 22=false:=by kernel_rfl
theorem zGn:Tryz.prog.cellsOf 22=1:=by kernel_rfl
theorem elT22:elT Tryz.prog 22=some 9:=by kernel_rfl
theorem zCI:hasT Tryz.prog 27=true:=by kernel_rfl
theorem zDK:xD Tryz.prog 27=false:=by kernel_rfl
theorem zAz:Tryz.prog.cellsOf 27=1:=by kernel_rfl
theorem zG5:elT Tryz.prog 27=some 30:=by kernel_rfl
theorem zFz:hasT Tryz.prog 30=true:=by kernel_rfl
theorem zED:Tryz.prog.cellsOf 30=6:=by kernel_rfl
theorem zGb:fieldAt Tryz.prog 30 5=some (5,4):=by kernel_rfl
theorem zDB:hasT Tryz.prog 32=true:=by kernel_rfl
theorem zEM:xD Tryz.prog 32=true:=by kernel_rfl
theorem zBx:Tryz.prog.cellsOf 32=5:=by kernel_rfl
theorem zEX:fieldAt Tryz.prog 32 0=some (0,9):=by kernel_rfl
theorem zUr:fieldAt Tryz.prog 32 1=some (1,4):=by kernel_rfl
theorem zGd:fieldAt Tryz.prog 32 2=some (2,22):=by kernel_rfl
theorem zU8:fieldAt Tryz.prog 32 3=some (3,4):=by kernel_rfl
theorem zJJ:fieldAt Tryz.prog 32 4=some (4,27):=by kernel_rfl
theorem zero32:yZ Tryz.prog 32=some [.at (.string .empty),.at (.bool false),.lst .nil [],.at (.bool false),.lst .nil []]:=by kernel_rfl
theorem zLf:hasT Tryz.prog 33=true:=by kernel_rfl
theorem aggT33:xD Tryz.prog 33=false:=by kernel_rfl
theorem zJf:Tryz.prog.cellsOf 33=1:=by kernel_rfl
theorem zOS:fieldAt Tryz.prog 51 0=some (0,9):=by kernel_rfl
theorem zNt:fieldAt Tryz.prog 51 1=some (1,3):=by kernel_rfl
theorem hasT56:hasT Tryz.prog 56=true:=by kernel_rfl
theorem aggT56:xD Tryz.prog 56=false:=by kernel_rfl
theorem zUe:Tryz.prog.cellsOf 56=1:=by kernel_rfl
theorem zero56:yZ Tryz.prog 56=some [.at (.pointer none)]:=by kernel_rfl
theorem hasT57:hasT Tryz.prog 57=true:=by kernel_rfl
theorem aggT57:xD Tryz.prog 57=false:=by kernel_rfl
theorem zU3:Tryz.prog.cellsOf 57=1:=by kernel_rfl
theorem zUU:fieldAt Tryz.prog 59 0=some (0,57):=by kernel_rfl
theorem zEf:fieldAt Tryz.prog 74 0=some (0,27):=by kernel_rfl
theorem code7:zU Tryz.prog 7=true:=by kernel_rfl
theorem code8:zU Tryz.prog 8=true:=by kernel_rfl
theorem zPC:zU Tryz.prog 9=true:=by kernel_rfl
theorem zQ5:zU Tryz.prog 10=true:=by kernel_rfl
theorem zR0:zU Tryz.prog 11=true:=by kernel_rfl
theorem code15:zU Tryz.prog 15=true:=by kernel_rfl
theorem code16:zU Tryz.prog 16=true:=by kernel_rfl
theorem code17:zU Tryz.prog 17=true:=by kernel_rfl
theorem code18:zU Tryz.prog 18=true:=by kernel_rfl
theorem code19:zU Tryz.prog 19=true:=by kernel_rfl
theorem code20:zU Tryz.prog 20=true:=by kernel_rfl
theorem code21:zU Tryz.prog 21=true:=by kernel_rfl
theorem code22:zU Tryz.prog 22=true:=by kernel_rfl
theorem zQ1:zU Tryz.prog 23=true:=by kernel_rfl
theorem zIo:zU Tryz.prog 27=true:=by kernel_rfl
theorem kC:zU Tryz.prog 28=true:=by kernel_rfl
theorem zMW:zU Tryz.prog 29=true:=by kernel_rfl
theorem zEa:zU Tryz.prog 30=true:=by kernel_rfl
theorem zQs:zU Tryz.prog 31=true:=by kernel_rfl
theorem code32:zU Tryz.prog 32=true:=by kernel_rfl
theorem zIJ:zU Tryz.prog 33=true:=by kernel_rfl
theorem zIz:zU Tryz.prog 35=true:=by kernel_rfl
theorem zMz:zU Tryz.prog 36=true:=by kernel_rfl
theorem zR1:zU Tryz.prog 37=true:=by kernel_rfl
theorem code38:zU Tryz.prog 38=true:=by kernel_rfl
theorem code39:zU Tryz.prog 39=true:=by kernel_rfl
theorem code40:zU Tryz.prog 40=true:=by kernel_rfl
theorem code41:zU Tryz.prog 41=true:=by kernel_rfl
theorem code42:zU Tryz.prog 42=true:=by kernel_rfl
theorem code44:zU Tryz.prog 44=true:=by kernel_rfl
theorem code45:zU Tryz.prog 45=true:=by kernel_rfl
theorem code46:zU Tryz.prog 46=true:=by kernel_rfl
theorem code47:zU Tryz.prog 47=true:=by kernel_rfl
theorem code48:zU Tryz.prog 48=true:=by kernel_rfl
theorem code50:zU Tryz.prog 50=true:=by kernel_rfl
theorem zRr:zU Tryz.prog 51=true:=by kernel_rfl
theorem code60:zU Tryz.prog 60=true:=by kernel_rfl
theorem zQO:zU Tryz.prog 61=true:=by kernel_rfl
theorem code62:zU Tryz.prog 62=true:=by kernel_rfl
theorem code63:zU Tryz.prog 63=true:=by kernel_rfl
theorem zRi:zU Tryz.prog 64=true:=by kernel_rfl
theorem code72:zU Tryz.prog 72=true:=by kernel_rfl
theorem code73:zU Tryz.prog 73=true:=by kernel_rfl
theorem code74:zU Tryz.prog 74=true:=by kernel_rfl
theorem code75:zU Tryz.prog 75=true:=by kernel_rfl
theorem code77:zU Tryz.prog 77=true:=by kernel_rfl
theorem code78:zU Tryz.prog 78=true:=by kernel_rfl
theorem zQg:zU Tryz.prog 80=true:=by kernel_rfl
theorem code81:zU Tryz.prog 81=true:=by kernel_rfl
theorem code82:zU Tryz.prog 82=true:=by kernel_rfl
theorem code83:zU Tryz.prog 83=true:=by kernel_rfl
theorem code84:zU Tryz.prog 84=true:=by kernel_rfl
theorem code85:zU Tryz.prog 85=true:=by kernel_rfl
theorem code87:zU Tryz.prog 87=true:=by kernel_rfl
theorem code88:zU Tryz.prog 88=true:=by kernel_rfl
theorem code89:zU Tryz.prog 89=true:=by kernel_rfl
theorem code93:zU Tryz.prog 93=true:=by kernel_rfl
def ks15:Nat->List Nat
 |0=>[0,2,3]
 |1=>[0,2,3]
 |2=>[2,3,4]
 |3=>[2,3,4]
 |4=>[2,3,4]
 |5=>[2,3,4,32]
 |6=>[2,3,4]
 |7=>[2,3,4]
 |8=>[2,3,4]
 |9=>[2,3,4]
 |10=>[2,3]
 |11=>[2,3,63]
 |12=>[2,3]
 |13=>[2,3]
 |14=>[2,3]
 |_=>[]
def ks20:Nat->List Nat
 |0=>[1]
 |1=>[2]
 |_=>[]
def ks28:Nat->List Nat
 |0=>[1,5]
 |1=>[]
 |_=>[]
def ks31:Nat->List Nat
 |0=>[0,1,6]
 |1=>[0,1,8]
 |2=>[0]
 |3=>[0,1,4]
 |4=>[0,1,4]
 |5=>[0,1]
 |6=>[0,1,38]
 |7=>[]
 |_=>[]
def ks35:Nat->List Nat
 |0=>[0,1]
 |1=>[0,1,16]
 |2=>[4]
 |3=>[4]
 |_=>[]
theorem mixed:Tryz.prog.follows .mixedOrders=true:=by kernel_rfl
end
section
open Go.Al Go.Den
structure TokT where
 kind:Int
 text:List UInt8
 file:Int
 ffrom:Int
 fto:Int
 blank:Bool
structure CharT where
 b:Int
 fat:Int
structure MacT where
 name:List UInt8
 func:Bool
 params:List (List UInt8)
 variadic:Bool
 body:Bool×List TokT
structure TkT where
 kind:Int
 text:List UInt8
 file:Int
 ffrom:Int
 fto:Int
 blank:Bool
 hide:List (List UInt8)
 mark:Bool
 op:Bool
inductive TI where
 |int
 |bool
 |u8
 |str
 |tok
 |char
 |mac
 |tk
 |tkl
 |strs
def TI.no:TI->Nat
 |.int=>0
 |.bool=>1
 |.u8=>2
 |.str=>3
 |.tok=>4
 |.char=>5
 |.mac=>6
 |.tk=>7
 |.tkl=>8
 |.strs=>9
theorem TI.no_inj:∀a b:TI,a.no=b.no->a=b:=by intro a b h;cases a<;>cases b<;>first|rfl|(simp[TI.no]at h)
instance:DecidableEq TI:=λa b=>if h:a.no=b.no then isTrue (TI.no_inj a b h)else isFalse (λe=>h (by rw[e]))
def denI:TI->Type
 |.int=>Int
 |.bool=>Bool
 |.u8=>Int
 |.str=>(List UInt8)
 |.tok=>TokT
 |.char=>CharT
 |.mac=>MacT
 |.tk=>TkT
 |.tkl=>(Bool×List TkT)
 |.strs=>(Bool×List (List UInt8))
abbrev UU:TyU:={ I:=TI,den:=denI }
def zEe{R:Type}(v:T UU)(K:TokT->Option R):Option R:=
 match v with
 |.agg fs=>(match fs with
  |[a,b,c,d,e,f]=>pInt .i64 a λg=>pStr b λh=>pInt .i64 c λi=>pInt .i64 d λj=>pInt .i64 e λk=>zCq f λl=>K (TokT.mk g h i j k l)
  |_=>none)
 |_=>none
def tokD:TokT:=TokT.mk 0 [] 0 0 0 false
def zDM{R:Type}(v:T UU)(K:CharT->Option R):Option R:=
 match v with
 |.agg fs=>(match fs with
  |[a,b]=>pInt .u8 a λc=>pInt .i64 b λd=>K (CharT.mk c d)
  |_=>none)
 |_=>none
def zCp:CharT:=CharT.mk 0 0
def zJR{R:Type}(v:T UU)(K:MacT->Option R):Option R:=
 match v with
 |.agg fs=>(match fs with
  |[a,b,c,d,e]=>pStr a λf=>zCq b λg=>pDl (U:=UU) TI.str c λh=>zCq d λi=>pBl (U:=UU) TI.tok e λj=>K (MacT.mk f g h i j)
  |_=>none)
 |_=>none
def macD:MacT:=MacT.mk [] false [] false (true,[])
def zMw{R:Type}(v:T UU)(K:TkT->Option R):Option R:=
 match v with
 |.agg fs=>(match fs with
  |[a,b,c,d,e,f,g,h,i]=>pInt .i64 a λj=>pStr b λk=>pInt .i64 c λl=>pInt .i64 d λm=>pInt .i64 e λn=>zCq f λo=>pDl (U:=UU) TI.str g λp=>zCq h λq=>zCq i λr=>K (TkT.mk j k l m n o p q r)
  |_=>none)
 |_=>none
def tkD:TkT:=TkT.mk 0 [] 0 0 0 false [] false false
def eV_int(x:Int):V:=.at (.int .i64 x)
def zVk(x:Bool):V:=.at (.bool x)
def eV_u8(x:Int):V:=.at (.int .u8 x)
def zCN(x:(List UInt8)):V:=.at (.string ⟨List.toArray x⟩)
def kq(x:TokT):V:=.agg [.at (.int .i64 (TokT.kind x)),.at (.string ⟨List.toArray (TokT.text x)⟩),.at (.int .i64 (TokT.file x)),.at (.int .i64 (TokT.ffrom x)),.at (.int .i64 (TokT.fto x)),.at (.bool (TokT.blank x))]
def yo(x:CharT):V:=.agg [.at (.int .u8 (CharT.b x)),.at (.int .i64 (CharT.fat x))]
def zAe(x:MacT):V:=.agg [.at (.string ⟨List.toArray (MacT.name x)⟩),.at (.bool (MacT.func x)),.lst (yL ((MacT.params x).map zCN)) ((MacT.params x).map zCN),.at (.bool (MacT.variadic x)),.lst (if((MacT.body x)).1 then .nil else .no) (((MacT.body x)).2.map kq)]
def zCo(x:TkT):V:=.agg [.at (.int .i64 (TkT.kind x)),.at (.string ⟨List.toArray (TkT.text x)⟩),.at (.int .i64 (TkT.file x)),.at (.int .i64 (TkT.ffrom x)),.at (.int .i64 (TkT.fto x)),.at (.bool (TkT.blank x)),.lst (yL ((TkT.hide x).map zCN)) ((TkT.hide x).map zCN),.at (.bool (TkT.mark x)),.at (.bool (TkT.op x))]
def zRF(x:(Bool×List TkT)):V:=.lst (if x.1 then .nil else .no) (x.2.map zCo)
def zOQ(x:(Bool×List (List UInt8))):V:=.lst (if x.1 then .nil else .no) (x.2.map zCN)
def zG3:(i:TI)->denI i->V
 |.int,x=>eV_int x
 |.bool,x=>zVk x
 |.u8,x=>eV_u8 x
 |.str,x=>zCN x
 |.tok,x=>kq x
 |.char,x=>yo x
 |.mac,x=>zAe x
 |.tk,x=>zCo x
 |.tkl,x=>zRF x
 |.strs,x=>zOQ x
def encI:(i:TI)->denI i->T UU
 |.int,x=>.int .i64 x
 |.bool,x=>.bool x
 |.u8,x=>.int .u8 x
 |.str,x=>.str x
 |.tok,x=>.agg [(.int .i64 (TokT.kind x)),(.str (TokT.text x)),(.int .i64 (TokT.file x)),(.int .i64 (TokT.ffrom x)),(.int .i64 (TokT.fto x)),(.bool (TokT.blank x))]
 |.char,x=>.agg [(.int .u8 (CharT.b x)),(.int .i64 (CharT.fat x))]
 |.mac,x=>.agg [(.str (MacT.name x)),(.bool (MacT.func x)),(.lst .dl TI.str (MacT.params x)),(.bool (MacT.variadic x)),(.lst (.b ((MacT.body x)).1) TI.tok ((MacT.body x)).2)]
 |.tk,x=>.agg [(.int .i64 (TkT.kind x)),(.str (TkT.text x)),(.int .i64 (TkT.file x)),(.int .i64 (TkT.ffrom x)),(.int .i64 (TkT.fto x)),(.bool (TkT.blank x)),(.lst .dl TI.str (TkT.hide x)),(.bool (TkT.mark x)),(.bool (TkT.op x))]
 |.tkl,x=>.lst (.b x.1) TI.tk x.2
 |.strs,x=>.lst (.b x.1) TI.str x.2
def decI:(i:TI)->{R:Type}->T UU->(denI i->Option R)->Option R
 |.int,_,v,K=>pInt .i64 v K
 |.bool,_,v,K=>zCq v K
 |.u8,_,v,K=>pInt .u8 v K
 |.str,_,v,K=>pStr v K
 |.tok,_,v,K=>zEe v K
 |.char,_,v,K=>zDM v K
 |.mac,_,v,K=>zJR v K
 |.tk,_,v,K=>zMw v K
 |.tkl,_,v,K=>pBl (U:=UU) TI.tk v K
 |.strs,_,v,K=>pBl (U:=UU) TI.str v K
def dfltI:(i:TI)->denI i
 |.int=>(0:Int)
 |.bool=>false
 |.u8=>(0:Int)
 |.str=>([]:List UInt8)
 |.tok=>tokD
 |.char=>zCp
 |.mac=>macD
 |.tk=>tkD
 |.tkl=>((true,[]):(Bool×List TkT))
 |.strs=>((true,[]):(Bool×List (List UInt8)))
def zM4:TI->Nat
 |.int=>1
 |.bool=>1
 |.u8=>1
 |.str=>1
 |.tok=>6
 |.char=>2
 |.mac=>5
 |.tk=>9
 |.tkl=>1
 |.strs=>1
def aggI:TI->Bool
 |.int=>false
 |.bool=>false
 |.u8=>false
 |.str=>false
 |.tok=>true
 |.char=>true
 |.mac=>true
 |.tk=>true
 |.tkl=>false
 |.strs=>false
def plainI:TI->Bool
 |.int=>true
 |.bool=>true
 |.u8=>true
 |.str=>true
 |.tok=>true
 |.char=>true
 |.mac=>false
 |.tk=>false
 |.tkl=>false
 |.strs=>false
def ifvI:(i:TI)->denI i->Value
 |.int,_=>.nilIface
 |.bool,_=>.nilIface
 |.u8,_=>.nilIface
 |.str,_=>.nilIface
 |.tok,_=>.nilIface
 |.char,_=>.nilIface
 |.mac,_=>.nilIface
 |.tk,_=>.nilIface
 |.tkl,_=>.nilIface
 |.strs,_=>.nilIface
def u8I:(i:TI)->Option (denI i->Int)
 |.int=>none
 |.bool=>none
 |.u8=>some λx=>x
 |.str=>none
 |.tok=>none
 |.char=>none
 |.mac=>none
 |.tk=>none
 |.tkl=>none
 |.strs=>none
def CC:Cod UU:=⟨encI,zG3,decI,dfltI,zM4,aggI,plainI,ifvI,u8I⟩
theorem zPq{R:Type}{v:T UU}{K:TokT->Option R}{r:R}(h:zEe v K=some r):∃x,K x=some r/\∀N,(trT CC N v).untag=kq x:=by
 unfold zEe at h;split at h
 .split at h
  .obtain⟨f,h,_,e0⟩:=yz (C:=CC) h;obtain⟨g,h,_,a⟩:=zC8 (C:=CC) h;obtain⟨i,h,_,b⟩:=yz (C:=CC) h;obtain⟨j,h,_,c⟩:=yz (C:=CC) h;obtain⟨k,h,_,d⟩:=yz (C:=CC) h;obtain⟨l,h,_,e⟩:=j8 (C:=CC) h;refine⟨_,h,λN=>?_⟩;simp only[trT,trTs,V.untag,zV6,zV9,e0 N,a N,b N,c N,d N,e N];rfl
  .cases h
 .cases h
theorem zNq{R:Type}{v:T UU}{K:TokT->Option R}{r:R}(h:zEe v K=some r):∃x,K x=some r/\∀N,trT CC N v=kq x:=by
 unfold zEe at h;split at h
 .split at h
  .obtain⟨f,h,e0,_⟩:=yz (C:=CC) h;obtain⟨g,h,a,_⟩:=zC8 (C:=CC) h;obtain⟨i,h,b,_⟩:=yz (C:=CC) h;obtain⟨j,h,c,_⟩:=yz (C:=CC) h;obtain⟨k,h,d,_⟩:=yz (C:=CC) h;obtain⟨l,h,e,_⟩:=j8 (C:=CC) h;refine⟨_,h,λN=>?_⟩;simp only[trT,trTs,e0 N,a N,b N,c N,d N,e N];rfl
  .cases h
 .cases h
theorem zCG(x:TokT):kq x=.agg [.at (.int .i64 (TokT.kind x)),.at (.string ⟨List.toArray (TokT.text x)⟩),.at (.int .i64 (TokT.file x)),.at (.int .i64 (TokT.ffrom x)),.at (.int .i64 (TokT.fto x)),.at (.bool (TokT.blank x))]:=by
 rfl
theorem zNa{R:Type}{v:T UU}{K:CharT->Option R}{r:R}(h:zDM v K=some r):∃x,K x=some r/\∀N,(trT CC N v).untag=yo x:=by
 unfold zDM at h;split at h
 .split at h
  .obtain⟨b,h,_,e0⟩:=yz (C:=CC) h;obtain⟨c,h,_,a⟩:=yz (C:=CC) h;refine⟨_,h,λN=>?_⟩;simp only[trT,trTs,V.untag,zV6,zV9,e0 N,a N];rfl
  .cases h
 .cases h
theorem zNI{R:Type}{v:T UU}{K:CharT->Option R}{r:R}(h:zDM v K=some r):∃x,K x=some r/\∀N,trT CC N v=yo x:=by
 unfold zDM at h;split at h
 .split at h
  .obtain⟨b,h,e0,_⟩:=yz (C:=CC) h;obtain⟨c,h,a,_⟩:=yz (C:=CC) h;refine⟨_,h,λN=>?_⟩;simp only[trT,trTs,e0 N,a N];rfl
  .cases h
 .cases h
theorem zBD(x:CharT):yo x=.agg [.at (.int .u8 (CharT.b x)),.at (.int .i64 (CharT.fat x))]:=by
 rfl
theorem zP9{R:Type}{v:T UU}{K:MacT->Option R}{r:R}(h:zJR v K=some r):∃x,K x=some r/\∀N,(trT CC N v).untag=zAe x:=by
 unfold zJR at h;split at h
 .split at h
  .obtain⟨e,h,_,e0⟩:=zC8 (C:=CC) h;obtain⟨f,h,_,a⟩:=j8 (C:=CC) h;obtain⟨g,h,b⟩:=zRl (C:=CC) h;obtain⟨i,h,_,c⟩:=j8 (C:=CC) h;obtain⟨j,h,d⟩:=zNB (C:=CC) h;refine⟨_,h,λN=>?_⟩;simp only[trT,trTs,V.untag,zV6,zV9,e0 N,a N,b N,c N,d N];rfl
  .cases h
 .cases h
theorem zCL(x:MacT):zAe x=.agg [.at (.string ⟨List.toArray (MacT.name x)⟩),.at (.bool (MacT.func x)),.lst (yL ((MacT.params x).map (zG3 TI.str))) ((MacT.params x).map (zG3 TI.str)),.at (.bool (MacT.variadic x)),.lst (if((MacT.body x)).1 then .nil else .no) (((MacT.body x)).2.map (zG3 TI.tok))]:=by
 rfl
theorem zSJ{R:Type}{v:T UU}{K:TkT->Option R}{r:R}(h:zMw v K=some r):∃x,K x=some r/\∀N,(trT CC N v).untag=zCo x:=by
 unfold zMw at h;split at h
 .split at h
  .obtain⟨j,h,_,e0⟩:=yz (C:=CC) h;obtain⟨k,h,_,a⟩:=zC8 (C:=CC) h;obtain⟨l,h,_,b⟩:=yz (C:=CC) h;obtain⟨m,h,_,c⟩:=yz (C:=CC) h;obtain⟨n,h,_,d⟩:=yz (C:=CC) h;obtain⟨o,h,_,e⟩:=j8 (C:=CC) h;obtain⟨p,h,f⟩:=zRl (C:=CC) h;obtain⟨q,h,_,g⟩:=j8 (C:=CC) h;obtain⟨s,h,_,i⟩:=j8 (C:=CC) h;refine⟨_,h,λN=>?_⟩;simp only[trT,trTs,V.untag,zV6,zV9,e0 N,a N,b N,c N,d N,e N,f N,g N,i N];rfl
  .cases h
 .cases h
theorem zDZ(x:TkT):zCo x=.agg [.at (.int .i64 (TkT.kind x)),.at (.string ⟨List.toArray (TkT.text x)⟩),.at (.int .i64 (TkT.file x)),.at (.int .i64 (TkT.ffrom x)),.at (.int .i64 (TkT.fto x)),.at (.bool (TkT.blank x)),.lst (yL ((TkT.hide x).map (zG3 TI.str))) ((TkT.hide x).map (zG3 TI.str)),.at (.bool (TkT.mark x)),.at (.bool (TkT.op x))]:=by
 rfl
theorem zSN{R:Type}{v:T UU}{K:(Bool×List TkT)->Option R}{r:R}(h:pBl (U:=UU) TI.tk v K=some r):∃x,K x=some r/\∀N,(trT CC N v).untag=zRF x:=by
 obtain⟨x,a,b⟩:=zNB (C:=CC) h;exact⟨x,a,λN=>zA9 (b N)⟩
theorem zPj{R:Type}{v:T UU}{K:(Bool×List (List UInt8))->Option R}{r:R}(h:pBl (U:=UU) TI.str v K=some r):∃x,K x=some r/\∀N,(trT CC N v).untag=zOQ x:=by
 obtain⟨x,a,b⟩:=zNB (C:=CC) h;exact⟨x,a,λN=>zA9 (b N)⟩
theorem sz_tok(x:TokT):(kq x).size=6:=by rw[zCG];rfl
theorem ag_tok(x:TokT):(kq x).isAgg=true:=by rw[zCG];rfl
theorem on_tok(x:TokT):zJ (kq x).flat:=by rw[zCG];rfl
theorem un_tok(x:TokT):(kq x).untag=kq x:=by rw[zCG];simp only[V.untag,zV6,zV9,zDq,zE6,zBj]
theorem zJq(x:CharT):(yo x).size=2:=by rw[zBD];rfl
theorem zUn(x:CharT):(yo x).isAgg=true:=by rw[zBD];rfl
theorem zUy(x:CharT):zJ (yo x).flat:=by rw[zBD];rfl
theorem zU0(x:CharT):(yo x).untag=yo x:=by rw[zBD];simp only[V.untag,zV6,zV9,zDq,zE6,zBj]
theorem zQq(x:MacT):(zAe x).size=5:=by rw[zCL];rfl
theorem ag_mac(x:MacT):(zAe x).isAgg=true:=by rw[zCL];rfl
theorem on_mac(x:MacT):zJ (zAe x).flat:=by rw[zCL];rfl
theorem un_mac(x:MacT):(zAe x).untag=zAe x:=by rw[zCL];simp only[V.untag,zV6,zV9,zDq,zE6,zBj]
theorem sz_tk(x:TkT):(zCo x).size=9:=by rw[zDZ];rfl
theorem ag_tk(x:TkT):(zCo x).isAgg=true:=by rw[zDZ];rfl
theorem on_tk(x:TkT):zJ (zCo x).flat:=by rw[zDZ];rfl
theorem un_tk(x:TkT):(zCo x).untag=zCo x:=by rw[zDZ];simp only[V.untag,zV6,zV9,zDq,zE6,zBj]
theorem CCok:CodOk CC:=by
 refine⟨?_,?_,?_,?_,?_,?_,?_,?_,?_,?_,?_⟩
 .intro N i x;cases i with
  |int=>rfl
  |bool=>rfl
  |u8=>rfl
  |str=>rfl
  |tok=>exact(zCG x).symm
  |char=>exact(zBD x).symm
  |mac=>exact(zCL x).symm
  |tk=>exact(zDZ x).symm
  |tkl=>rfl
  |strs=>rfl
 .intro i x;cases i<;>rfl
 .intro i R v k r h;cases i with
  |int=>obtain⟨x,a,_,b⟩:=yz (C:=CC) h;exact⟨x,a,λN=>by have:=b N;exact zA9 this⟩
  |bool=>obtain⟨x,a,_,b⟩:=j8 (C:=CC) h;exact⟨x,a,λN=>by have:=b N;exact zA9 this⟩
  |u8=>obtain⟨x,a,_,b⟩:=yz (C:=CC) h;exact⟨x,a,λN=>by have:=b N;exact zA9 this⟩
  |str=>obtain⟨x,a,_,b⟩:=zC8 (C:=CC) h;exact⟨x,a,λN=>by have:=b N;exact zA9 this⟩
  |tok=>exact zPq h
  |char=>exact zNa h
  |mac=>exact zP9 h
  |tk=>exact zSJ h
  |tkl=>exact zSN h
  |strs=>exact zPj h
 .intro i R v k r c h;cases i with
  |int=>obtain⟨x,a,b,_⟩:=yz (C:=CC) h;exact⟨x,a,b⟩
  |bool=>obtain⟨x,a,b,_⟩:=j8 (C:=CC) h;exact⟨x,a,b⟩
  |u8=>obtain⟨x,a,b,_⟩:=yz (C:=CC) h;exact⟨x,a,b⟩
  |str=>obtain⟨x,a,b,_⟩:=zC8 (C:=CC) h;exact⟨x,a,b⟩
  |tok=>exact zNq h
  |char=>exact zNI h
  |mac=>cases c
  |tk=>cases c
  |tkl=>cases c
  |strs=>cases c
 .intro i x;cases i with
  |int=>rfl
  |bool=>rfl
  |u8=>rfl
  |str=>rfl
  |tok=>exact sz_tok x
  |char=>exact zJq x
  |mac=>exact zQq x
  |tk=>exact sz_tk x
  |tkl=>rfl
  |strs=>rfl
 .intro i x;cases i with
  |int=>rfl
  |bool=>rfl
  |u8=>rfl
  |str=>rfl
  |tok=>exact ag_tok x
  |char=>exact zUn x
  |mac=>exact ag_mac x
  |tk=>exact ag_tk x
  |tkl=>rfl
  |strs=>rfl
 .intro i x;cases i with
  |int=>rfl
  |bool=>rfl
  |u8=>rfl
  |str=>rfl
  |tok=>exact on_tok x
  |char=>exact zUy x
  |mac=>exact on_mac x
  |tk=>exact on_tk x
  |tkl=>rfl
  |strs=>rfl
 .intro i x;cases i with
  |int=>rfl
  |bool=>rfl
  |u8=>rfl
  |str=>rfl
  |tok=>exact un_tok x
  |char=>exact zU0 x
  |mac=>exact un_mac x
  |tk=>exact un_tk x
  |tkl=>exact zBj _ _
  |strs=>exact zBj _ _
 .intro i h;cases i<;>first|rfl|cases h
 .intro i;cases i<;>decide
 .intro i f h x;cases i<;>first|(cases h;done)|(cases h;rfl)
def td3:TD UU:={ has:=true,agg:=false,cells:=1,bytes:=8,code:=some TI.int,ik:=some .i64,zero:=some [.int .i64 0] }
theorem td3_ok:Facts CC Tryz.prog 3 td3:=⟨by kernel_rfl,by kernel_rfl,by kernel_rfl,by kernel_rfl,by kernel_rfl,by kernel_rfl,by kernel_rfl,by kernel_rfl,by kernel_rfl,by kernel_rfl,by kernel_rfl,λN=>by kernel_rfl,λi h=>(by first|(injection h with h;subst h;exact⟨rfl,rfl⟩)|cases h),λn i h=>(by cases h),.inr rfl,.inr rfl,λx k r h=>(by cases h),λl h=>yC h,λh=>(by cases h),λi h=>(by cases h)⟩
def td4:TD UU:={ has:=true,agg:=false,cells:=1,bytes:=1,code:=some TI.bool,isBool:=true,zero:=some [.bool false] }
theorem td4_ok:Facts CC Tryz.prog 4 td4:=⟨by kernel_rfl,by kernel_rfl,by kernel_rfl,by kernel_rfl,by kernel_rfl,by kernel_rfl,by kernel_rfl,by kernel_rfl,by kernel_rfl,by kernel_rfl,by kernel_rfl,λN=>by kernel_rfl,λi h=>(by first|(injection h with h;subst h;exact⟨rfl,rfl⟩)|cases h),λn i h=>(by cases h),.inr rfl,.inr rfl,λx k r h=>(by cases h),λl h=>yC h,λh=>(by cases h),λi h=>(by cases h)⟩
def td5:TD UU:={ has:=true,agg:=false,cells:=1,bytes:=1,code:=some TI.u8,ik:=some .u8,zero:=some [.int .u8 0] }
theorem td5_ok:Facts CC Tryz.prog 5 td5:=⟨by kernel_rfl,by kernel_rfl,by kernel_rfl,by kernel_rfl,by kernel_rfl,by kernel_rfl,by kernel_rfl,by kernel_rfl,by kernel_rfl,by kernel_rfl,by kernel_rfl,λN=>by kernel_rfl,λi h=>(by first|(injection h with h;subst h;exact⟨rfl,rfl⟩)|cases h),λn i h=>(by cases h),.inr rfl,.inr rfl,λx k r h=>(by cases h),λl h=>yC h,λh=>(by cases h),λi h=>(by cases h)⟩
def td9:TD UU:={ has:=true,agg:=false,cells:=1,bytes:=16,code:=some TI.str,isStr:=true,zero:=some [.str []] }
theorem td9_ok:Facts CC Tryz.prog 9 td9:=⟨by kernel_rfl,by kernel_rfl,by kernel_rfl,by kernel_rfl,by kernel_rfl,by kernel_rfl,by kernel_rfl,by kernel_rfl,by kernel_rfl,by kernel_rfl,by kernel_rfl,λN=>by kernel_rfl,λi h=>(by first|(injection h with h;subst h;exact⟨rfl,rfl⟩)|cases h),λn i h=>(by cases h),.inr rfl,.inr rfl,λx k r h=>(by cases h),λl h=>yC h,λh=>(by cases h),λi h=>(by cases h)⟩
def td20:TD UU:={ has:=true,agg:=false,cells:=1,bytes:=16,isIfc:=true,zero:=some [.con .nilIface] }
theorem zUV:Facts CC Tryz.prog 20 td20:=⟨by kernel_rfl,by kernel_rfl,by kernel_rfl,by kernel_rfl,by kernel_rfl,by kernel_rfl,by kernel_rfl,by kernel_rfl,by kernel_rfl,by kernel_rfl,by kernel_rfl,λN=>by kernel_rfl,λi h=>(by first|(injection h with h;subst h;exact⟨rfl,rfl⟩)|cases h),λn i h=>(by cases h),.inr rfl,.inr rfl,λx k r h=>(by cases h),λl h=>yC h,λh=>(by cases h),λi h=>(by cases h)⟩
def td21:TD UU:={ has:=true,agg:=false,cells:=1,bytes:=4,ik:=some .i32,zero:=some [.int .i32 0] }
theorem zVf:Facts CC Tryz.prog 21 td21:=⟨by kernel_rfl,by kernel_rfl,by kernel_rfl,by kernel_rfl,by kernel_rfl,by kernel_rfl,by kernel_rfl,by kernel_rfl,by kernel_rfl,by kernel_rfl,by kernel_rfl,λN=>by kernel_rfl,λi h=>(by first|(injection h with h;subst h;exact⟨rfl,rfl⟩)|cases h),λn i h=>(by cases h),.inr rfl,.inr rfl,λx k r h=>(by cases h),λl h=>yC h,λh=>(by cases h),λi h=>(by cases h)⟩
def td22:TD UU:={ has:=true,agg:=false,cells:=1,bytes:=24,el:=some 9,code:=some TI.strs,zero:=some [.nil] }
theorem zT7:Facts CC Tryz.prog 22 td22:=⟨by kernel_rfl,by kernel_rfl,by kernel_rfl,by kernel_rfl,by kernel_rfl,by kernel_rfl,by kernel_rfl,by kernel_rfl,by kernel_rfl,by kernel_rfl,by kernel_rfl,λN=>by kernel_rfl,λi h=>(by first|(injection h with h;subst h;exact⟨rfl,rfl⟩)|cases h),λn i h=>(by cases h),.inr rfl,.inr rfl,λx k r h=>(by cases h),λl h=>yC h,λh=>(by cases h),λi h=>(by cases h)⟩
def td24:TD UU:={ has:=true,agg:=false,cells:=1,bytes:=24,el:=some 32,zero:=some [.nil] }
theorem zUB:Facts CC Tryz.prog 24 td24:=⟨by kernel_rfl,by kernel_rfl,by kernel_rfl,by kernel_rfl,by kernel_rfl,by kernel_rfl,by kernel_rfl,by kernel_rfl,by kernel_rfl,by kernel_rfl,by kernel_rfl,λN=>by kernel_rfl,λi h=>(by first|(injection h with h;subst h;exact⟨rfl,rfl⟩)|cases h),λn i h=>(by cases h),.inr rfl,.inr rfl,λx k r h=>(by cases h),λl h=>yC h,λh=>(by cases h),λi h=>(by cases h)⟩
def td27:TD UU:={ has:=true,agg:=false,cells:=1,bytes:=24,el:=some 30,zero:=some [.nil] }
theorem zVG:Facts CC Tryz.prog 27 td27:=⟨by kernel_rfl,by kernel_rfl,by kernel_rfl,by kernel_rfl,by kernel_rfl,by kernel_rfl,by kernel_rfl,by kernel_rfl,by kernel_rfl,by kernel_rfl,by kernel_rfl,λN=>by kernel_rfl,λi h=>(by first|(injection h with h;subst h;exact⟨rfl,rfl⟩)|cases h),λn i h=>(by cases h),.inr rfl,.inr rfl,λx k r h=>(by cases h),λl h=>yC h,λh=>(by cases h),λi h=>(by cases h)⟩
def td30:TD UU:={ has:=true,agg:=true,cells:=6,bytes:=56,code:=some TI.tok,flds:=[(0,3),(1,9),(2,3),(3,3),(4,3),(5,4)],isStruct:=true,zero:=some [.int .i64 0,.str [],.int .i64 0,.int .i64 0,.int .i64 0,.bool false],eqk:=some [.i,.s,.i,.i,.i,.b] }
theorem eqq30(us vs:List Value)(h:vkq [KQ.i,.s,.i,.i,.i,.b] us vs=true):zFL Tryz.prog 30 us vs=true/\zEv Tryz.prog 30 us vs=eqVs us vs:=by
 obtain⟨k0,j,k,l,m,rfl,rfl,a⟩:=zIV h;obtain⟨n,o,p,q,rfl,rfl,c⟩:=vkq_s a;obtain⟨r,t,u,v,w,rfl,rfl,d⟩:=zIV c;obtain⟨x,y,z,A,B,rfl,rfl,e⟩:=zIV d;obtain⟨C,D,E,u4,F,rfl,rfl,f⟩:=zIV e;obtain⟨G,H,I,J,rfl,rfl,g⟩:=vkq_b f;obtain⟨rfl,rfl⟩:=zOR g;exact⟨by kernel_rfl,by kernel_rfl⟩
theorem eqqs30{l:List KQ}(h:some [KQ.i,.s,.i,.i,.i,.b]=some l)(us vs:List Value)(a:vkq l us vs=true):zFL Tryz.prog 30 us vs=true/\zEv Tryz.prog 30 us vs=eqVs us vs:=by
 rw[<-zXi h]at a;exact eqq30 us vs a
theorem zUX:Facts CC Tryz.prog 30 td30:=⟨by kernel_rfl,by kernel_rfl,by kernel_rfl,by kernel_rfl,by kernel_rfl,by kernel_rfl,by kernel_rfl,by kernel_rfl,by kernel_rfl,by kernel_rfl,by kernel_rfl,λN=>by kernel_rfl,λi h=>(by first|(injection h with h;subst h;exact⟨rfl,rfl⟩)|cases h),λn i h=>(by cases h),.inr rfl,.inr rfl,λx k r h=>(by cases h),λl h=>eqqs30 h,λh=>(by cases h),λi h=>(by cases h)⟩
def td32:TD UU:={ has:=true,agg:=true,cells:=5,bytes:=80,code:=some TI.mac,flds:=[(0,9),(1,4),(2,22),(3,4),(4,27)],isStruct:=true,zero:=some [.str [],.bool false,.nil,.bool false,.nil] }
theorem zUc:Facts CC Tryz.prog 32 td32:=⟨by kernel_rfl,by kernel_rfl,by kernel_rfl,by kernel_rfl,by kernel_rfl,by kernel_rfl,by kernel_rfl,by kernel_rfl,by kernel_rfl,by kernel_rfl,by kernel_rfl,λN=>by kernel_rfl,λi h=>(by first|(injection h with h;subst h;exact⟨rfl,rfl⟩)|cases h),λn i h=>(by cases h),.inr rfl,.inr rfl,λx k r h=>(by cases h),λl h=>yC h,λh=>(by cases h),λi h=>(by cases h)⟩
def td33:TD UU:={ has:=true,agg:=false,cells:=1,bytes:=8,code:=some TI.int,ik:=some .i64,zero:=some [.int .i64 0] }
theorem zVv:Facts CC Tryz.prog 33 td33:=⟨by kernel_rfl,by kernel_rfl,by kernel_rfl,by kernel_rfl,by kernel_rfl,by kernel_rfl,by kernel_rfl,by kernel_rfl,by kernel_rfl,by kernel_rfl,by kernel_rfl,λN=>by kernel_rfl,λi h=>(by first|(injection h with h;subst h;exact⟨rfl,rfl⟩)|cases h),λn i h=>(by cases h),.inr rfl,.inr rfl,λx k r h=>(by cases h),λl h=>yC h,λh=>(by cases h),λi h=>(by cases h)⟩
def td46:TD UU:={ has:=true,agg:=false,cells:=1,bytes:=24,el:=some 55,zero:=some [.nil] }
theorem zUh:Facts CC Tryz.prog 46 td46:=⟨by kernel_rfl,by kernel_rfl,by kernel_rfl,by kernel_rfl,by kernel_rfl,by kernel_rfl,by kernel_rfl,by kernel_rfl,by kernel_rfl,by kernel_rfl,by kernel_rfl,λN=>by kernel_rfl,λi h=>(by first|(injection h with h;subst h;exact⟨rfl,rfl⟩)|cases h),λn i h=>(by cases h),.inr rfl,.inr rfl,λx k r h=>(by cases h),λl h=>yC h,λh=>(by cases h),λi h=>(by cases h)⟩
def td48:TD UU:={ has:=true,agg:=false,cells:=1,bytes:=8,zero:=some [.con (.pointer none)] }
theorem zUj:Facts CC Tryz.prog 48 td48:=⟨by kernel_rfl,by kernel_rfl,by kernel_rfl,by kernel_rfl,by kernel_rfl,by kernel_rfl,by kernel_rfl,by kernel_rfl,by kernel_rfl,by kernel_rfl,by kernel_rfl,λN=>by kernel_rfl,λi h=>(by first|(injection h with h;subst h;exact⟨rfl,rfl⟩)|cases h),λn i h=>(by cases h),.inr rfl,.inr rfl,λx k r h=>(by cases h),λl h=>yC h,λh=>(by cases h),λi h=>(by cases h)⟩
def td51:TD UU:={ has:=true,agg:=true,cells:=2,bytes:=24,flds:=[(0,9),(1,3)],isStruct:=true,zero:=some [.str [],.int .i64 0] }
theorem zUA:Facts CC Tryz.prog 51 td51:=⟨by kernel_rfl,by kernel_rfl,by kernel_rfl,by kernel_rfl,by kernel_rfl,by kernel_rfl,by kernel_rfl,by kernel_rfl,by kernel_rfl,by kernel_rfl,by kernel_rfl,λN=>by kernel_rfl,λi h=>(by first|(injection h with h;subst h;exact⟨rfl,rfl⟩)|cases h),λn i h=>(by cases h),.inr rfl,.inr rfl,λx k r h=>(by cases h),λl h=>yC h,λh=>(by cases h),λi h=>(by cases h)⟩
def td55:TD UU:={ has:=true,agg:=true,cells:=2,bytes:=16,code:=some TI.char,flds:=[(0,5),(1,3)],isStruct:=true,zero:=some [.int .u8 0,.int .i64 0] }
theorem zVK:Facts CC Tryz.prog 55 td55:=⟨by kernel_rfl,by kernel_rfl,by kernel_rfl,by kernel_rfl,by kernel_rfl,by kernel_rfl,by kernel_rfl,by kernel_rfl,by kernel_rfl,by kernel_rfl,by kernel_rfl,λN=>by kernel_rfl,λi h=>(by first|(injection h with h;subst h;exact⟨rfl,rfl⟩)|cases h),λn i h=>(by cases h),.inr rfl,.inr rfl,λx k r h=>(by cases h),λl h=>yC h,λh=>(by cases h),λi h=>(by cases h)⟩
def td56:TD UU:={ has:=true,agg:=false,cells:=1,bytes:=8,zero:=some [.con (.pointer none)] }
theorem zUP:Facts CC Tryz.prog 56 td56:=⟨by kernel_rfl,by kernel_rfl,by kernel_rfl,by kernel_rfl,by kernel_rfl,by kernel_rfl,by kernel_rfl,by kernel_rfl,by kernel_rfl,by kernel_rfl,by kernel_rfl,λN=>by kernel_rfl,λi h=>(by first|(injection h with h;subst h;exact⟨rfl,rfl⟩)|cases h),λn i h=>(by cases h),.inr rfl,.inr rfl,λx k r h=>(by cases h),λl h=>yC h,λh=>(by cases h),λi h=>(by cases h)⟩
def td57:TD UU:={ has:=true,agg:=false,cells:=1,bytes:=8,zero:=some [.con (.map none)],mci:=some TI.mac }
theorem zUD:Facts CC Tryz.prog 57 td57:=⟨by kernel_rfl,by kernel_rfl,by kernel_rfl,by kernel_rfl,by kernel_rfl,by kernel_rfl,by kernel_rfl,by kernel_rfl,by kernel_rfl,by kernel_rfl,by kernel_rfl,λN=>by kernel_rfl,λi h=>(by first|(injection h with h;subst h;exact⟨rfl,rfl⟩)|cases h),λn i h=>(by cases h),.inr rfl,.inr rfl,λx k r h=>(by cases h),λl h=>yC h,λh=>(by cases h),λi h=>(by injection h with h;subst h;exact⟨32,(.agg #[(.string .empty),(.bool false),(.slice none 0 0),(.bool false),(.slice none 0 0)]),by kernel_rfl,by kernel_rfl,by kernel_rfl,by kernel_rfl⟩)⟩
def td59:TD UU:={ has:=true,agg:=true,cells:=2,bytes:=16,flds:=[(0,57),(1,3)],isStruct:=true,zero:=some [.con (.map none),.int .i64 0] }
theorem zVT:Facts CC Tryz.prog 59 td59:=⟨by kernel_rfl,by kernel_rfl,by kernel_rfl,by kernel_rfl,by kernel_rfl,by kernel_rfl,by kernel_rfl,by kernel_rfl,by kernel_rfl,by kernel_rfl,by kernel_rfl,λN=>by kernel_rfl,λi h=>(by first|(injection h with h;subst h;exact⟨rfl,rfl⟩)|cases h),λn i h=>(by cases h),.inr rfl,.inr rfl,λx k r h=>(by cases h),λl h=>yC h,λh=>(by cases h),λi h=>(by cases h)⟩
def td63:TD UU:={ has:=true,agg:=false,cells:=1,bytes:=24,el:=some 92,code:=some TI.tkl,zero:=some [.nil] }
theorem zVO:Facts CC Tryz.prog 63 td63:=⟨by kernel_rfl,by kernel_rfl,by kernel_rfl,by kernel_rfl,by kernel_rfl,by kernel_rfl,by kernel_rfl,by kernel_rfl,by kernel_rfl,by kernel_rfl,by kernel_rfl,λN=>by kernel_rfl,λi h=>(by first|(injection h with h;subst h;exact⟨rfl,rfl⟩)|cases h),λn i h=>(by cases h),.inr rfl,.inr rfl,λx k r h=>(by cases h),λl h=>yC h,λh=>(by cases h),λi h=>(by cases h)⟩
def td71:TD UU:={ has:=true,agg:=true,cells:=1,bytes:=8,flds:=[(0,33)],isStruct:=true,zero:=some [.int .i64 0] }
theorem zVd:Facts CC Tryz.prog 71 td71:=⟨by kernel_rfl,by kernel_rfl,by kernel_rfl,by kernel_rfl,by kernel_rfl,by kernel_rfl,by kernel_rfl,by kernel_rfl,by kernel_rfl,by kernel_rfl,by kernel_rfl,λN=>by kernel_rfl,λi h=>(by first|(injection h with h;subst h;exact⟨rfl,rfl⟩)|cases h),λn i h=>(by cases h),.inr rfl,.inr rfl,λx k r h=>(by cases h),λl h=>yC h,λh=>(by cases h),λi h=>(by cases h)⟩
def td72:TD UU:={ has:=true,agg:=false,cells:=1,bytes:=8,zero:=some [.con (.pointer none)] }
theorem zVw:Facts CC Tryz.prog 72 td72:=⟨by kernel_rfl,by kernel_rfl,by kernel_rfl,by kernel_rfl,by kernel_rfl,by kernel_rfl,by kernel_rfl,by kernel_rfl,by kernel_rfl,by kernel_rfl,by kernel_rfl,λN=>by kernel_rfl,λi h=>(by first|(injection h with h;subst h;exact⟨rfl,rfl⟩)|cases h),λn i h=>(by cases h),.inr rfl,.inr rfl,λx k r h=>(by cases h),λl h=>yC h,λh=>(by cases h),λi h=>(by cases h)⟩
def td74:TD UU:={ has:=true,agg:=true,cells:=1,bytes:=24,flds:=[(0,27)],isStruct:=true,zero:=some [.nil] }
theorem zVD:Facts CC Tryz.prog 74 td74:=⟨by kernel_rfl,by kernel_rfl,by kernel_rfl,by kernel_rfl,by kernel_rfl,by kernel_rfl,by kernel_rfl,by kernel_rfl,by kernel_rfl,by kernel_rfl,by kernel_rfl,λN=>by kernel_rfl,λi h=>(by first|(injection h with h;subst h;exact⟨rfl,rfl⟩)|cases h),λn i h=>(by cases h),.inr rfl,.inr rfl,λx k r h=>(by cases h),λl h=>yC h,λh=>(by cases h),λi h=>(by cases h)⟩
def td79:TD UU:={ has:=true,agg:=false,cells:=1,bytes:=8,zero:=some [.con (.pointer none)] }
theorem zUG:Facts CC Tryz.prog 79 td79:=⟨by kernel_rfl,by kernel_rfl,by kernel_rfl,by kernel_rfl,by kernel_rfl,by kernel_rfl,by kernel_rfl,by kernel_rfl,by kernel_rfl,by kernel_rfl,by kernel_rfl,λN=>by kernel_rfl,λi h=>(by first|(injection h with h;subst h;exact⟨rfl,rfl⟩)|cases h),λn i h=>(by cases h),.inr rfl,.inr rfl,λx k r h=>(by cases h),λl h=>yC h,λh=>(by cases h),λi h=>(by cases h)⟩
def td84:TD UU:={ has:=true,agg:=false,cells:=1,bytes:=24,el:=some 5,zero:=some [.nil],isByt:=true }
theorem zVC:Facts CC Tryz.prog 84 td84:=⟨by kernel_rfl,by kernel_rfl,by kernel_rfl,by kernel_rfl,by kernel_rfl,by kernel_rfl,by kernel_rfl,by kernel_rfl,by kernel_rfl,by kernel_rfl,by kernel_rfl,λN=>by kernel_rfl,λi h=>(by first|(injection h with h;subst h;exact⟨rfl,rfl⟩)|cases h),λn i h=>(by cases h),.inl (by kernel_rfl),.inr rfl,λx k r h=>(by cases h),λl h=>yC h,λh=>(by cases h),λi h=>(by cases h)⟩
def td92:TD UU:={ has:=true,agg:=true,cells:=9,bytes:=88,code:=some TI.tk,flds:=[(0,30),(6,22),(7,4),(8,4)],isStruct:=true,zero:=some [.int .i64 0,.str [],.int .i64 0,.int .i64 0,.int .i64 0,.bool false,.nil,.bool false,.bool false] }
theorem zUY:Facts CC Tryz.prog 92 td92:=⟨by kernel_rfl,by kernel_rfl,by kernel_rfl,by kernel_rfl,by kernel_rfl,by kernel_rfl,by kernel_rfl,by kernel_rfl,by kernel_rfl,by kernel_rfl,by kernel_rfl,λN=>by kernel_rfl,λi h=>(by first|(injection h with h;subst h;exact⟨rfl,rfl⟩)|cases h),λn i h=>(by cases h),.inr rfl,.inr rfl,λx k r h=>(by cases h),λl h=>yC h,λh=>(by cases h),λi h=>(by cases h)⟩
def td104:TD UU:={ has:=true,agg:=true,cells:=48,bytes:=768,zero:=some [.str [],.str [],.str [],.str [],.str [],.str [],.str [],.str [],.str [],.str [],.str [],.str [],.str [],.str [],.str [],.str [],.str [],.str [],.str [],.str [],.str [],.str [],.str [],.str [],.str [],.str [],.str [],.str [],.str [],.str [],.str [],.str [],.str [],.str [],.str [],.str [],.str [],.str [],.str [],.str [],.str [],.str [],.str [],.str [],.str [],.str [],.str [],.str []],arr:=some (48,TI.str),bpl:=[(0,9),(1,9),(2,9),(3,9),(4,9),(5,9),(6,9),(7,9),(8,9),(9,9),(10,9),(11,9),(12,9),(13,9),(14,9),(15,9),(16,9),(17,9),(18,9),(19,9),(20,9),(21,9),(22,9),(23,9),(24,9),(25,9),(26,9),(27,9),(28,9),(29,9),(30,9),(31,9),(32,9),(33,9),(34,9),(35,9),(36,9),(37,9),(38,9),(39,9),(40,9),(41,9),(42,9),(43,9),(44,9),(45,9),(46,9),(47,9)] }
set_option maxRecDepth 100000 in
theorem zTA:Facts CC Tryz.prog 104 td104:=⟨by kernel_rfl,by kernel_rfl,by kernel_rfl,by kernel_rfl,by kernel_rfl,by kernel_rfl,by kernel_rfl,by kernel_rfl,by kernel_rfl,by kernel_rfl,by kernel_rfl,λN=>by kernel_rfl,λi h=>(by first|(injection h with h;subst h;exact⟨rfl,rfl⟩)|cases h),λn i h=>(by injection h with h;injection h with h _;subst h;kernel_rfl),.inr rfl,.inl (by kernel_rfl),λx k r h=>(by cases h),λl h=>yC h,λh=>(by cases h),λi h=>(by cases h)⟩
def td105:TD UU:={ has:=true,agg:=false,cells:=1,bytes:=24,el:=some 63,zero:=some [.nil] }
theorem zSf:Facts CC Tryz.prog 105 td105:=⟨by kernel_rfl,by kernel_rfl,by kernel_rfl,by kernel_rfl,by kernel_rfl,by kernel_rfl,by kernel_rfl,by kernel_rfl,by kernel_rfl,by kernel_rfl,by kernel_rfl,λN=>by kernel_rfl,λi h=>(by first|(injection h with h;subst h;exact⟨rfl,rfl⟩)|cases h),λn i h=>(by cases h),.inr rfl,.inr rfl,λx k r h=>(by cases h),λl h=>yC h,λh=>(by cases h),λi h=>(by cases h)⟩
def td116:TD UU:={ has:=true,agg:=false,cells:=1,bytes:=8,ik:=some .u64,zero:=some [.int .u64 0] }
theorem zTj:Facts CC Tryz.prog 116 td116:=⟨by kernel_rfl,by kernel_rfl,by kernel_rfl,by kernel_rfl,by kernel_rfl,by kernel_rfl,by kernel_rfl,by kernel_rfl,by kernel_rfl,by kernel_rfl,by kernel_rfl,λN=>by kernel_rfl,λi h=>(by first|(injection h with h;subst h;exact⟨rfl,rfl⟩)|cases h),λn i h=>(by cases h),.inr rfl,.inr rfl,λx k r h=>(by cases h),λl h=>yC h,λh=>(by cases h),λi h=>(by cases h)⟩
def td128:TD UU:={ has:=true,agg:=false,cells:=1,bytes:=8,zero:=some [.con (.pointer none)] }
theorem zT6:Facts CC Tryz.prog 128 td128:=⟨by kernel_rfl,by kernel_rfl,by kernel_rfl,by kernel_rfl,by kernel_rfl,by kernel_rfl,by kernel_rfl,by kernel_rfl,by kernel_rfl,by kernel_rfl,by kernel_rfl,λN=>by kernel_rfl,λi h=>(by first|(injection h with h;subst h;exact⟨rfl,rfl⟩)|cases h),λn i h=>(by cases h),.inr rfl,.inr rfl,λx k r h=>(by cases h),λl h=>yC h,λh=>(by cases h),λi h=>(by cases h)⟩
def td138:TD UU:={ has:=true,agg:=false,cells:=1,bytes:=24,el:=some 22,zero:=some [.nil] }
theorem zTC:Facts CC Tryz.prog 138 td138:=⟨by kernel_rfl,by kernel_rfl,by kernel_rfl,by kernel_rfl,by kernel_rfl,by kernel_rfl,by kernel_rfl,by kernel_rfl,by kernel_rfl,by kernel_rfl,by kernel_rfl,λN=>by kernel_rfl,λi h=>(by first|(injection h with h;subst h;exact⟨rfl,rfl⟩)|cases h),λn i h=>(by cases h),.inr rfl,.inr rfl,λx k r h=>(by cases h),λl h=>yC h,λh=>(by cases h),λi h=>(by cases h)⟩
def tdL:List (Nat×TD UU):=[(3,td3),(4,td4),(5,td5),(9,td9),(20,td20),(21,td21),(22,td22),(24,td24),(27,td27),(30,td30),(32,td32),(33,td33),(46,td46),(48,td48),(51,td51),(55,td55),(56,td56),(57,td57),(59,td59),(63,td63),(71,td71),(72,td72),(74,td74),(79,td79),(84,td84),(92,td92),(104,td104),(105,td105),(116,td116),(128,td128),(138,td138)]
def Tb:Nat->TD UU:=zH6 tdL
theorem zCX:TbOk CC Tryz.prog Tb:=zLg (by
 intro p a;simp only[tdL,zWB,zWu,zXc]at a;rcases a with rfl|rfl|rfl|rfl|rfl|rfl|rfl|rfl|rfl|rfl|rfl|rfl|rfl|rfl|rfl|rfl|rfl|rfl|rfl|rfl|rfl|rfl|rfl|rfl|rfl|rfl|rfl|rfl|rfl|rfl|rfl
 .exact td3_ok
 .exact td4_ok
 .exact td5_ok
 .exact td9_ok
 .exact zUV
 .exact zVf
 .exact zT7
 .exact zUB
 .exact zVG
 .exact zUX
 .exact zUc
 .exact zVv
 .exact zUh
 .exact zUj
 .exact zUA
 .exact zVK
 .exact zUP
 .exact zUD
 .exact zVT
 .exact zVO
 .exact zVd
 .exact zVw
 .exact zVD
 .exact zUG
 .exact zVC
 .exact zUY
 .exact zTA
 .exact zSf
 .exact zTj
 .exact zT6
 .exact zTC)
end
end Go.Proofs.YtfjiiknfopmcjaaGreatDoor
section
namespace Go.Den
def yK(l:List (Nat×List (Nat×Nat×Nat)))(n:Nat):List (Nat×Nat×Nat):=(zB l n).getD []
def yF(l:List (Nat×List Nat))(n:Nat):List Nat:=(zB l n).getD []
end Go.Den
namespace Go.Proofs.YtfjiiknfopmcjaaGreatDoor
open Go.Al Go.Den
abbrev LK:=List (SK UU)
abbrev Str:=List UInt8
abbrev tkHd(x:TkT)(h:List Str):TkT:=⟨x.kind,x.text,x.file,x.ffrom,x.fto,x.blank,h,x.mark,x.op⟩
abbrev tkBl(x:TkT)(b:Bool):TkT:=⟨x.kind,x.text,x.file,x.ffrom,x.fto,b,x.hide,x.mark,x.op⟩
abbrev tkOp(x:TkT)(o:Bool):TkT:=⟨x.kind,x.text,x.file,x.ffrom,x.fto,x.blank,x.hide,x.mark,o⟩
abbrev toBl(x:TokT)(b:Bool):TokT:=⟨x.kind,x.text,x.file,x.ffrom,x.fto,b⟩
def syn:List PanicEntry:=[]
def nn(a r:List (AK UU)):zS a->Option (zS r):=λ_=>none
abbrev rdK:SK UU:=.box [.str,.int .i64]
abbrev RdT:=Str×Int×Unit
abbrev DD(α:Type):=Str->Int->Option (α×Int)
def fD{b rs:List (SK UU)}(m:zA b->DD (zA rs)){R:Type}(x:RdT×Unit)(a:zA b)(K:RdT×Unit->zA rs->Option R):Option R:=
 Option.bind (m a x.1.1 x.1.2.1) λy=>K ((x.1.1,y.2,()),()) y.1
abbrev cD(b rs:List (SK UU))(m:zA b->DD (zA rs)):CP UU:=⟨[rdK],[rdK],b,rs,λx a _ K=>fD m x a K⟩
def fRD{a rs:List (SK UU)}(m:zA a->Str->Int->Option (zA rs)){R:Type}(x:RdT×zA a)(K:zA rs->Option R):Option R:=
 Option.bind (m x.2 x.1.1 x.1.2.1) λy=>K y
abbrev cRD(a rs:List (SK UU))(m:zA a->Str->Int->Option (zA rs)):CR UU:=⟨rdK::a,rs,λx K=>fRD m x K⟩
def fF{b rs:List (SK UU)}(m:zA b->Option (zA rs)){R:Type}(x:Unit)(a:zA b)(K:Unit->zA rs->Option R):Option R:=
 Option.bind (m a) λy=>K () y
abbrev cF(b rs:List (SK UU))(m:zA b->Option (zA rs)):CP UU:=⟨[],[],b,rs,λx a _ K=>fF m x a K⟩
abbrev woK:SK UU:=.box [.mc1 TI.mac,.int .i64]
abbrev maK:SK UU:=.box [.str,.bool,.dl TI.str,.bool,.bl TI.tok]
abbrev MapM:=List (Str×MacT)
abbrev k0:LK:=[]
abbrev kB:LK:=[.bool]
abbrev kS:LK:=[.str]
abbrev kI:LK:=[.int .i64]
abbrev kL:LK:=[.bl TI.tk]
abbrev kD:LK:=[.dl TI.tk]
abbrev kA:LK:=[.arr TI.tk]
abbrev kE:LK:=[.dl TI.tk,.int .i64]
abbrev kF:LK:=[.arr TI.tk,.int .i64]
abbrev kM:LK:=[.st TI.mac,.bl TI.tk]
abbrev kG:LK:=[.arr TI.tk,.int .i64,.int .i64]
abbrev CQ:=CPOk CC Tryz.prog syn
abbrev LT:=List TokT
abbrev ck{ρ:Type}(n:Nat)(x:Option ρ):Option ρ:=cond (okN 40 n) x none
abbrev bo{α ρ:Type}(x:Option (Option α))(f:α->Option (Option ρ)):Option (Option ρ):=Option.bind x λo=>z8 o (some none) f
theorem rpk{sy:List PanicEntry}{fu d:Nat}{e:List (Nat×FD UU)}{lo:List (Nat×Con UU)}{lr:List (Nat×CR UU)}{j:List (Nat×CP UU)}{f:Nat}{b:FD UU}{k o m rs:LK}{v:zA k->zA m->Option (Option (zA o×zA rs))}(p:∀f b,zB e f=some b->FDOk Tryz.prog (hasN (lo.map (·.1))) (hasN (lr.map (·.1))) f b)(q:∀f c,zB lo f=some c->OrcOk CC Tryz.prog f c)(r:∀f c,zB lr f=some c->zU Tryz.prog f=true/\CROk CC Tryz.prog f c)(s:∀f c,zB j f=some c->zU Tryz.prog f=true/\CPOk CC Tryz.prog sy f c)(t:FDOk Tryz.prog (hasN (lo.map (·.1))) (hasN (lr.map (·.1))) f b)(u:Nat.ble (k.length+m.length) b.n=true)(h:∀x a,runP CC Tb fu d (zB e) (zB lo) (zB lr) (zB j) b k o m rs x a=v x a):CPOk CC Tryz.prog sy f ⟨k,o,m,rs,fnP v⟩:=zVN zCX CCok mixed (λg=>(yT (l:=lo) g).symm) (λg=>(yT (l:=lr) g).symm) p q r s t (zWF u) h
theorem rfk{fu d:Nat}{e:List (Nat×FD UU)}{lo:List (Nat×Con UU)}{lr:List (Nat×CR UU)}{j:List (Nat×CP UU)}{f:Nat}{b:FD UU}{c:Con UU}(p:∀f b,zB e f=some b->FDOk Tryz.prog (hasN (lo.map (·.1))) (hasN (lr.map (·.1))) f b)(q:∀f c,zB lo f=some c->OrcOk CC Tryz.prog f c)(r:∀f c,zB lr f=some c->zU Tryz.prog f=true/\CROk CC Tryz.prog f c)(s:∀f c,zB j f=some c->zU Tryz.prog f=true/\CPOk CC Tryz.prog syn f c)(t:FDOk Tryz.prog (hasN (lo.map (·.1))) (hasN (lr.map (·.1))) f b)(u:Nat.ble (Con.as c).length b.n=true)(w:∀a∈c.rs,∀i,a≠.ls i)(h:∀y x,xr CC Tb fu d (zB e) (zB lo) (zB lr) (zB j) b (Con.as c) c.rs y x=c.fn x):ConOk CC Tryz.prog f c:=zSs zCX CCok mixed (λg=>(yT (l:=lo) g).symm) (λg=>(yT (l:=lr) g).symm) p q r s t (zWF u) w h
theorem fdk{f:Nat}{b:Func}{a:FD UU}{pf rf:FuncId->Bool}(h:Tryz.prog.funcs[f]?=some b)(c:b.ntmps=a.n)(d:b.results=a.rs.toArray)(e:b.body=some a.body:=by kernel_rfl)(g:zU Tryz.prog f=true:=by kernel_rfl)(i:qE pf rf a.fi ⟨a.n,[]⟩ a.body=true:=by kernel_rfl)(j:qT a.fi a.body=true:=by kernel_rfl):FDOk Tryz.prog pf rf f a:=⟨⟨b,h,e,c,d⟩,g,i,j⟩
abbrev WoT:=MapM×Int×Unit
abbrev WW(α:Type):=MapM->Int->Option (α×MapM×Int)
def fW{b rs:List (SK UU)}(m:zA b->WW (zA rs)){R:Type}(x:WoT×Unit)(a:zA b)(K:WoT×Unit->zA rs->Option R):Option R:=
 Option.bind (m a x.1.1 x.1.2.1) λy=>K ((y.2.1,y.2.2,()),()) y.1
abbrev cW(b rs:List (SK UU))(m:zA b->WW (zA rs)):CP UU:=⟨[woK],[woK],b,rs,λx a _ K=>fW m x a K⟩
abbrev cP(a b c rs:LK)(m:zA a->zA c->Option (Option (zA b×zA rs))):CP UU:=⟨a,b,c,rs,fnP m⟩
abbrev rlK:SK UU:=.box [.bl TI.tok]
def sE(e:Int):List PanicEntry:=[{ v:=.iface 71 (.agg #[.int .i64 e]),recovered:=false }]
abbrev cNd(e0:Int):CP UU:=⟨[],[],[.bool,.int .i64],[],λx a b K=>cond (show Bool×Int×Unit from a).1 (K () ()) (cond (ieq (show Bool×Int×Unit from a).2.1 e0) b none)⟩
end Go.Proofs.YtfjiiknfopmcjaaGreatDoor
end
namespace Go.Proofs.YtfjiiknfopmcjaaGreatDoor
section
open Go.Al Go.Den
abbrev as37:List (AK UU):=[.str,.int .u8]
abbrev rs37:List (AK UU):=[.int .i64]
abbrev as38:List (AK UU):=[.str,.str]
abbrev rs38:List (AK UU):=[.int .i64]
def kf18:Nat->List Nat
 |0=>[0]
 |1=>[0,6]
 |2=>[0,6,7]
 |3=>[0,6,7]
 |4=>[0,6,7]
 |5=>[0,6,7]
 |6=>[0,7]
 |7=>[0]
 |8=>[0,2]
 |9=>[0,21]
 |10=>[0,3]
 |11=>[0,3,33]
 |12=>[0,3]
 |13=>[0]
 |14=>[0,2]
 |15=>[0,54]
 |16=>[0,2]
 |17=>[0,4]
 |18=>[0,4,67]
 |19=>[0,2]
 |20=>[0]
 |21=>[0,2]
 |_=>[]
def jn18:List (Nat×Head UU):=[(7,⟨[0],[(7,.bool)],[(0,rdK)]⟩),(13,⟨[0],[(3,.int .i64)],[(0,rdK)]⟩),(9,⟨[0],[],[(0,rdK)]⟩)]
noncomputable def fd18:FD UU:=⟨⟨λd=>hasN [] d,λd=>hasN [] d,kf18,zB [],zB jn18,yK [],yF []⟩,ze Tryz.f18,77,[.tmp 2]⟩
def kf19:Nat->List Nat
 |0=>[0]
 |1=>[0,10]
 |2=>[0,2,3]
 |3=>[0,4]
 |4=>[0,4,14]
 |5=>[0,2,3]
 |6=>[0,5]
 |7=>[0,5,19]
 |8=>[0,2,3]
 |9=>[0,6]
 |10=>[0,6,24]
 |11=>[0,2,3]
 |12=>[0,7]
 |13=>[0,7,29]
 |14=>[0,2,3]
 |15=>[0,8]
 |16=>[0,8,34]
 |17=>[0,2,3]
 |18=>[0,2,3]
 |_=>[]
noncomputable def fd19:FD UU:=⟨⟨λd=>hasN [] d,λd=>hasN [] d,kf19,zB [],zB [],yK [],yF []⟩,ze Tryz.f19,36,[.tmp 2,.tmp 3]⟩
def kf36:Nat->List Nat
 |0=>[0,1]
 |1=>[0,4]
 |_=>[]
noncomputable def fd36:FD UU:=⟨⟨λd=>hasN [] d,λd=>hasN [] d,kf36,zB [],zB [],yK [],yF []⟩,ze Tryz.f36,16,[.tmp 4]⟩
def kf39:Nat->List Nat
 |0=>[0]
 |1=>[0,3]
 |2=>[0,3,17]
 |3=>[0,3]
 |4=>[0,2]
 |_=>[]
def hd39:List (Nat×Head UU):=[(2,⟨[0],[(3,.int .i64)],[(0,rdK)]⟩)]
noncomputable def fd39:FD UU:=⟨⟨λd=>hasN [] d,λd=>hasN [] d,kf39,zB hd39,zB [],yK [],yF []⟩,ze Tryz.f39,21,[.tmp 2]⟩
def kf40:Nat->List Nat
 |0=>[0]
 |1=>[0,20]
 |2=>[0,2]
 |3=>[0,3]
 |4=>[0,3,4,5]
 |5=>[0,2]
 |6=>[0,3,4,29]
 |7=>[0,3]
 |8=>[0,3,43]
 |9=>[0,3]
 |_=>[]
def hd40:List (Nat×Head UU):=[(4,⟨[0],[(3,.int .i64)],[(0,rdK)]⟩)]
noncomputable def fd40:FD UU:=⟨⟨λd=>hasN [] d,λd=>hasN [] d,kf40,zB hd40,zB [],yK [],yF []⟩,ze Tryz.f40,56,[.tmp 2]⟩
def kf41:Nat->List Nat
 |0=>[0,1]
 |1=>[0,1,21]
 |2=>[0,4]
 |3=>[0,1,5]
 |4=>[0,1,5,33]
 |5=>[0,1,5]
 |6=>[0,1,5,38]
 |7=>[0,1,5,38,39]
 |8=>[0,5,47]
 |9=>[0,4]
 |10=>[0,4]
 |11=>[0,1,5,38,50]
 |12=>[0,4]
 |13=>[0,1,5,52]
 |14=>[0,1,5]
 |15=>[0,1,5,73]
 |16=>[0,4]
 |17=>[0,4]
 |_=>[]
def hd41:List (Nat×Head UU):=[(4,⟨[0,1],[(5,.int .i64)],[(0,rdK)]⟩)]
noncomputable def fd41:FD UU:=⟨⟨λd=>hasN [] d,λd=>hasN [] d,kf41,zB hd41,zB [],yK [(1,[(18,8,0),(18,12,0)])],yF []⟩,ze Tryz.f41,74,[.tmp 4]⟩
def kf42:Nat->List Nat
 |0=>[0]
 |1=>[0,3]
 |2=>[0,3,6,7]
 |3=>[0,3,6,7,8]
 |4=>[0,3,5,6,7]
 |5=>[0,3,5,6,7,19]
 |6=>[0,3,6,7]
 |7=>[0,3,6,7]
 |8=>[0,2]
 |_=>[]
def hd42:List (Nat×Head UU):=[(3,⟨[0,6],[(3,.int .i64),(7,.int .i64)],[(0,rdK)]⟩)]
noncomputable def fd42:FD UU:=⟨⟨λd=>hasN [] d,λd=>hasN [] d,kf42,zB hd42,zB [],yK [],yF []⟩,ze Tryz.f42,24,[.tmp 2]⟩
def kf55:Nat->List Nat
 |0=>[0,1]
 |1=>[4]
 |_=>[]
noncomputable def fd55:FD UU:=⟨⟨λd=>hasN [] d,λd=>hasN [] d,kf55,zB [],zB [],yK [],yF []⟩,ze Tryz.f55,8,[.tmp 4]⟩
def kf58:Nat->List Nat
 |0=>[0]
 |1=>[2]
 |_=>[]
noncomputable def fd58:FD UU:=⟨⟨λd=>hasN [] d,λd=>hasN [] d,kf58,zB [],zB [],yK [],yF []⟩,ze Tryz.f58,21,[.tmp 2]⟩
def kf59:Nat->List Nat
 |0=>[0]
 |1=>[2]
 |_=>[]
noncomputable def fd59:FD UU:=⟨⟨λd=>hasN [] d,λd=>hasN [] d,kf59,zB [],zB [],yK [],yF []⟩,ze Tryz.f59,9,[.tmp 2]⟩
def kf67:Nat->List Nat
 |0=>[0,1]
 |1=>[4]
 |_=>[]
noncomputable def fd67:FD UU:=⟨⟨λd=>hasN [] d,λd=>hasN [] d,kf67,zB [],zB [],yK [],yF []⟩,ze Tryz.f67,18,[.tmp 4]⟩
noncomputable def run36(fu:Nat)(x:zA [rdK])(a:zA kS):Option (Option (zA [rdK]×zA kB)):=
 runP CC Tb fu 4 (zB [(55,fd55),(67,fd67)]) (zB []) (zB []) (zB []) fd36 [rdK] [rdK] kS kB x a
theorem fdok36:FDOk Tryz.prog (hasN []) (hasN []) 36 fd36:=fdk Tryz.func36 Tryz.ntmps36 Tryz.results36
theorem zQT:FDOk Tryz.prog (hasN []) (hasN []) 55 fd55:=fdk Tryz.func55 Tryz.ntmps55 Tryz.results55
theorem zQE:FDOk Tryz.prog (hasN []) (hasN []) 67 fd67:=fdk Tryz.func67 Tryz.ntmps67 Tryz.results67
noncomputable def run18(fu:Nat)(c37:List UInt8×Int×Unit->Option (Int×Unit))(c38:List UInt8×List UInt8×Unit->Option (Int×Unit))(c35:zA kI->Str->Int->Option (zA ([.int .u8]:LK)))(c36:zA kS->DD (zA kB))(x:zA [rdK])(a:zA k0):Option (Option (zA [rdK]×zA kB)):=
 runP CC Tb fu 2 (zB []) (zB [(37,(⟨as37,rs37,c37⟩:Con UU)),(38,(⟨as38,rs38,c38⟩:Con UU))]) (zB [(35,cRD kI ([.int .u8]:LK) c35)]) (zB [(36,cD kS kB c36)]) fd18 [rdK] [rdK] k0 kB x a
theorem fdok18:FDOk Tryz.prog (hasN [37,38]) (hasN [35]) 18 fd18:=fdk Tryz.func18 Tryz.ntmps18 Tryz.results18
noncomputable def run39(fu:Nat)(c35:zA kI->Str->Int->Option (zA ([.int .u8]:LK)))(x:zA [rdK])(a:zA k0):Option (Option (zA [rdK]×zA kI)):=
 runP CC Tb fu 4 (zB [(58,fd58),(59,fd59)]) (zB []) (zB [(35,cRD kI ([.int .u8]:LK) c35)]) (zB []) fd39 [rdK] [rdK] k0 kI x a
theorem fdok39:FDOk Tryz.prog (hasN []) (hasN [35]) 39 fd39:=fdk Tryz.func39 Tryz.ntmps39 Tryz.results39
theorem zRd:FDOk Tryz.prog (hasN []) (hasN [35]) 58 fd58:=fdk Tryz.func58 Tryz.ntmps58 Tryz.results58
theorem zQf:FDOk Tryz.prog (hasN []) (hasN [35]) 59 fd59:=fdk Tryz.func59 Tryz.ntmps59 Tryz.results59
noncomputable def run40(fu:Nat)(c37:List UInt8×Int×Unit->Option (Int×Unit))(c35:zA kI->Str->Int->Option (zA ([.int .u8]:LK)))(x:zA [rdK])(a:zA k0):Option (Option (zA [rdK]×zA kI)):=
 runP CC Tb fu 4 (zB [(58,fd58),(59,fd59)]) (zB [(37,(⟨as37,rs37,c37⟩:Con UU))]) (zB [(35,cRD kI ([.int .u8]:LK) c35)]) (zB []) fd40 [rdK] [rdK] k0 kI x a
theorem fdok40:FDOk Tryz.prog (hasN [37]) (hasN [35]) 40 fd40:=fdk Tryz.func40 Tryz.ntmps40 Tryz.results40
theorem zRA:FDOk Tryz.prog (hasN [37]) (hasN [35]) 58 fd58:=fdk Tryz.func58 Tryz.ntmps58 Tryz.results58
theorem zQx:FDOk Tryz.prog (hasN [37]) (hasN [35]) 59 fd59:=fdk Tryz.func59 Tryz.ntmps59 Tryz.results59
noncomputable def run41(fu:Nat)(c35:zA kI->Str->Int->Option (zA ([.int .u8]:LK)))(x:zA [rdK])(a:zA ([.int .u8]:LK)):Option (Option (zA [rdK]×zA kI)):=
 runP CC Tb fu 2 (zB []) (zB []) (zB [(35,cRD kI ([.int .u8]:LK) c35)]) (zB []) fd41 [rdK] [rdK] ([.int .u8]:LK) kI x a
theorem fdok41:FDOk Tryz.prog (hasN []) (hasN [35]) 41 fd41:=fdk Tryz.func41 Tryz.ntmps41 Tryz.results41
noncomputable def run42(fu:Nat)(c36:zA kS->DD (zA kB))(x:zA [rdK])(a:zA k0):Option (Option (zA [rdK]×zA kI)):=
 runP CC Tb fu 2 (zB []) (zB []) (zB []) (zB [(36,cD kS kB c36)]) fd42 [rdK] [rdK] k0 kI x a
theorem fdok42:FDOk Tryz.prog (hasN []) (hasN []) 42 fd42:=fdk Tryz.func42 Tryz.ntmps42 Tryz.results42
noncomputable def run19(fu:Nat)(c36:zA kS->DD (zA kB))(c39:zA k0->DD (zA kI))(c40:zA k0->DD (zA kI))(c41:zA ([.int .u8]:LK)->DD (zA kI))(c42:zA k0->DD (zA kI))(x:zA [rdK])(a:zA k0):Option (Option (zA [rdK]×zA ([.int .i64,.int .i64]:LK))):=
 runP CC Tb fu 2 (zB []) (zB []) (zB []) (zB [(36,cD kS kB c36),(39,cD k0 kI c39),(40,cD k0 kI c40),(41,cD ([.int .u8]:LK) kI c41),(42,cD k0 kI c42)]) fd19 [rdK] [rdK] k0 ([.int .i64,.int .i64]:LK) x a
theorem fdok19:FDOk Tryz.prog (hasN []) (hasN []) 19 fd19:=fdk Tryz.func19 Tryz.ntmps19 Tryz.results19
end
section
open Go.Al Go.Den
abbrev as9:List (AK UU):=[.int .i64,.str]
abbrev rs9:List (AK UU):=[.dl TI.tok]
abbrev as16:List (AK UU):=[.str]
abbrev rs16:List (AK UU):=[.dl TI.char]
abbrev as17:List (AK UU):=[.dl TI.char]
abbrev rs17:List (AK UU):=[.str]
def kf9:Nat->List Nat
 |0=>[0,1]
 |1=>[0,5]
 |2=>[0,5,6]
 |3=>[0,5,6,7]
 |4=>[0,5,6,7,8]
 |5=>[0,5,6,7,8,32]
 |6=>[0,5,6,7,8]
 |7=>[0,5,6,7,8,43]
 |8=>[4]
 |9=>[0,5,6,7,8,9,10]
 |10=>[0,5,6,7,8,10]
 |11=>[0,5,6,7,8,10]
 |12=>[0,5,6,7,8]
 |13=>[0,5,6,7]
 |_=>[]
def hd9:List (Nat×Head UU):=[(4,⟨[0,5,6],[(7,.ow true TI.tok)],[(6,rdK)]⟩),(5,⟨[0,5,6,8],[(7,.ow true TI.tok)],[(6,rdK),(8,.box [.int .i64,.str,.int .i64,.int .i64,.int .i64,.bool])]⟩)]
noncomputable def fd9:FD UU:=⟨⟨λd=>hasN [] d,λd=>hasN [] d,kf9,zB hd9,zB [],yK [(10,[(1000066,53,6),(1000067,53,6),(1000066,57,6),(1000067,57,6),(1000066,61,6),(1000067,61,6)]),(11,[(1000088,71,6),(1000089,71,6),(1000088,74,6),(1000089,74,6),(1000088,79,6),(1000089,79,6),(1000088,85,6),(1000089,85,6)])],yF []⟩,ze Tryz.f9,102,[.tmp 4]⟩
noncomputable def run9(fu:Nat)(c16:List UInt8×Unit->Option (List CharT×Unit))(c17:List CharT×Unit->Option (List UInt8×Unit))(c18:zA k0->DD (zA kB))(c19:zA k0->DD (zA ([.int .i64,.int .i64]:LK)))(a:Nat->Bool)(b:Int)(c:List UInt8):Option (zS rs9):=
 xr CC Tb fu 2 (zB []) (zB [(16,(⟨as16,rs16,c16⟩:Con UU)),(17,(⟨as17,rs17,c17⟩:Con UU))]) (zB []) (zB [(18,cD k0 kB c18),(19,cD k0 ([.int .i64,.int .i64]:LK) c19)]) fd9 as9 rs9 a (b,c,())
theorem fdok9:FDOk Tryz.prog (hasN [16,17]) (hasN []) 9 fd9:=fdk Tryz.func9 Tryz.ntmps9 Tryz.results9
end
end Go.Proofs.YtfjiiknfopmcjaaGreatDoor
section
namespace Go.Proofs
open Go.Shelf
def Tryz.lays137_ren:Go.Shelf.Ren:=⟨λ|137=>37|217=>56|266=>68|n=>n,λ|9=>9|5=>5|3=>3|n=>n,λ|n=>n⟩
theorem Tryz.lays137:Go.Proofs.Lays.n137 Tryz.prog Tryz.lays137_ren:={
 mixed:=by kernel_rfl
 f137:=Tryz.func37.trans (zWp some (by kernel_rfl))
 f217:=Tryz.func56.trans (zWp some (by kernel_rfl))
 f266:=Tryz.func68.trans (zWp some (by kernel_rfl))
 t3:=Tryz.underlying3
 a3:=Tryz.isAgg3
 z3:=Tryz.sizeOf3
 v3:=Tryz.zeroValue3
 t5:=Tryz.underlying5
 a5:=Tryz.isAgg5
 z5:=Tryz.sizeOf5
 v5:=Tryz.zeroValue5
 t9:=Tryz.underlying9
 a9:=Tryz.isAgg9
 z9:=Tryz.sizeOf9
 v9:=Tryz.zeroValue9 }
open Go.RowKit in
theorem Tryz.strings_IndexByte(s:ByteArray)(c:Int)(w:World) :
 Calls Tryz.prog 37 #[.string s,.int .u8 c] w λe w'=>e=.returned (.int .i64 (Lib.indexByte s.data.toList c.toNat.toUInt8))/\w'=w:=Any.strings_IndexByte Tryz.lays137 s c w
def Tryz.lays143_ren:Go.Shelf.Ren:=⟨λ|143=>38|219=>57|217=>56|225=>69|224=>70|267=>71|266=>68|314=>79|n=>n,λ|9=>9|3=>3|4=>4|5=>5|46=>116|146=>124|51=>123|n=>n,λ|1=>1|n=>n⟩
theorem Tryz.lays143:Go.Proofs.Lays.n143 Tryz.prog Tryz.lays143_ren:={
 mixed:=by kernel_rfl
 f143:=Tryz.func38.trans (zWp some (by kernel_rfl))
 f217:=Tryz.func56.trans (zWp some (by kernel_rfl))
 f219:=Tryz.func57.trans (zWp some (by kernel_rfl))
 f224:=Tryz.func70.trans (zWp some (by kernel_rfl))
 f225:=Tryz.func69.trans (zWp some (by kernel_rfl))
 f266:=Tryz.func68.trans (zWp some (by kernel_rfl))
 f267:=Tryz.func71.trans (zWp some (by kernel_rfl))
 f314:=Tryz.func79.trans (zWp some (by kernel_rfl))
 t3:=Tryz.underlying3
 a3:=Tryz.isAgg3
 z3:=Tryz.sizeOf3
 v3:=Tryz.zeroValue3
 t4:=Tryz.underlying4
 a4:=Tryz.isAgg4
 z4:=Tryz.sizeOf4
 v4:=Tryz.zeroValue4
 t5:=Tryz.underlying5
 a5:=Tryz.isAgg5
 z5:=Tryz.sizeOf5
 v5:=Tryz.zeroValue5
 t9:=Tryz.underlying9
 a9:=Tryz.isAgg9
 z9:=Tryz.sizeOf9
 v9:=Tryz.zeroValue9
 t46:=Tryz.underlying116
 a46:=Tryz.isAgg116
 z46:=Tryz.sizeOf116
 v46:=Tryz.zeroValue116
 t51:=Tryz.underlying123
 a51:=Tryz.isAgg123
 z51:=Tryz.sizeOf123
 v51:=Tryz.zeroValue123
 t146:=Tryz.underlying124
 a146:=Tryz.isAgg124
 z146:=Tryz.sizeOf124
 v146:=Tryz.zeroValue124
 g1:=by kernel_rfl }
open Go.RowKit Go.Lib in
theorem Tryz.strings_Index(s sub:ByteArray)(m:Int)(w:World)(hs:s.size<4294967281)(hm:w.cell? ⟨1,0,none⟩=some (.int .i64 m)) :
 Calls Tryz.prog 38 #[.string s,.string sub] w λe w'=>e=.returned (.int .i64 (Lib.index s.data.toList sub.data.toList))/\w'=w:=Any.strings_Index Tryz.lays143 s sub m w hs hm
def Tryz.lays99_ren:Go.Shelf.Ren:=⟨λ|99=>55|206=>67|n=>n,λ|9=>9|4=>4|3=>3|n=>n,λ|n=>n⟩
theorem Tryz.lays99:Go.Proofs.Lays.n99 Tryz.prog Tryz.lays99_ren:={
 mixed:=by kernel_rfl
 f99:=Tryz.func55.trans (zWp some (by kernel_rfl))
 f206:=Tryz.func67.trans (zWp some (by kernel_rfl))
 t3:=Tryz.underlying3
 a3:=Tryz.isAgg3
 z3:=Tryz.sizeOf3
 v3:=Tryz.zeroValue3
 t4:=Tryz.underlying4
 a4:=Tryz.isAgg4
 z4:=Tryz.sizeOf4
 v4:=Tryz.zeroValue4
 t9:=Tryz.underlying9
 a9:=Tryz.isAgg9
 z9:=Tryz.sizeOf9
 v9:=Tryz.zeroValue9 }
open Go.RowKit Go.Lib in
theorem Tryz.strings_HasPrefix(s p:ByteArray)(w:World) :
 Calls Tryz.prog 55 #[.string s,.string p] w λe w'=>e=.returned (.bool (Lib.hasPrefix s.data.toList p.data.toList))/\w'=w:=Any.strings_HasPrefix Tryz.lays99 s p w
end Go.Proofs
namespace Go.Proofs.YtfjiiknfopmcjaaGreatDoor
open Go.Al Go.Den Go.RowKit Go.Sort
theorem zNm{B:Nat}{b:Nat->Nat}{w:World}(h:GlobOk B b w):∃m,w.cell? ⟨1,0,none⟩=some (.int .i64 m):=by
 obtain⟨d,arr,el,m,a,z,c⟩:=h.one (1,λus=>∃m,us=[.int .i64 m]) (by simp[zPg]);refine⟨z,?_⟩;unfold World.cell?;replace a:w.heap[1]?=some (.cells arr el m):=a;simp only[a];have:arr=[Value.int .i64 z].toArray:=by rw[<-c]
 rw[this];rfl
theorem kO{a:Nat->Nat}{w w':World}(d:∀b,w.heap.size<=b->a b=0)(e:Below w.heap.size w w') :
 (∀b,w'.heap.size<=b->a b=0)/\Step w.heap.size ⟨a,λ_=>none,Fr.no⟩ w ⟨a,λ_=>none,Fr.no⟩ w':=by
 have g:Later ⟨a,λ_=>none,Fr.no⟩ w ⟨a,λ_=>none,Fr.no⟩ w':=⟨λ_=>zV7 _,λ_ _ h=>h,λb o f=>by
  have c:b<w.heap.size:=by
   rcases zW5 b w.heap.size with h|h
   .exact h
   .replace f:o<a b:=f;rw[d b h]at f;omega
  exact World.cell?_of_block (e.block b c)⟩
 exact⟨λb c=>d b (zWv e.size c),⟨g,e,λb h=>(by simp[Fr.no]at h),λ_ _=>rfl,rfl⟩⟩
theorem pure37(s:Str)(c:Int):PureF Tryz.prog 37 [.at (.string ⟨s.toArray⟩),.at (.int .u8 c)] (.at (.int .i64 (Lib.indexByte s c.toNat.toUInt8))):=by
 intro g w us b h i;cases i with
 |cons d a=>
  cases a with
  |cons a f=>
   cases f;have e:=zr d;subst e;have e:=zr a;subst e;refine(Tryz.strings_IndexByte ⟨s.toArray⟩ c w).mono ?_;rintro e w' ⟨rfl,rfl⟩;obtain⟨j,k⟩:=kO b (Below.refl _ _);exact⟨_,g,rfl,j,k,RV_at_mk rfl⟩
theorem pure38(s t:Str)(h:s.length<4294967281):PureF Tryz.prog 38 [.at (.string ⟨s.toArray⟩),.at (.string ⟨t.toArray⟩)] (.at (.int .i64 (Lib.index s t))):=by
 intro g w us b c i;cases i with
 |cons d a=>
  cases a with
  |cons a f=>
   cases f;have e:=zr d;subst e;have e:=zr a;subst e;obtain⟨m,j⟩:=zNm c;refine(Tryz.strings_Index ⟨s.toArray⟩ ⟨t.toArray⟩ m w (by simpa [ByteArray.size]using h) j).mono ?_;rintro e w' ⟨rfl,rfl⟩;obtain⟨k,l⟩:=kO b (Below.refl _ _);exact⟨_,g,rfl,k,l,RV_at_mk rfl⟩
def c37(x:Str×Int×Unit):Option (Int×Unit):=some (Lib.indexByte x.1 x.2.1.toNat.toUInt8,())
theorem ok37'(s:Str)(c:Int)(u:Unit)(vs:List V)(a:zDn CC as37 ((s,c,u):zS as37) vs):PureF Tryz.prog 37 vs (.at (.int .i64 (Lib.indexByte s c.toNat.toUInt8))):=by
 obtain⟨v,vs',rfl,d,f,e,rfl,b,a⟩:=a;replace a:e=[]:=a;subst a;replace d:v=.at (.string ⟨List.toArray s⟩):=d;replace b:f=.at (.int .u8 c):=b;subst d b;exact pure37 s c
theorem ok37:ConOk CC Tryz.prog 37 ⟨as37,rs37,c37⟩:=λx y a vs b=>by
 have:=ok37' x.1 x.2.1 x.2.2 vs b;injection a with a
 subst a;exact this
def c38(x:Str×Str×Unit):Option (Int×Unit):=if x.1.length<4294967281 then some (Lib.index x.1 x.2.1,())else none
theorem ok38'(s t:Str)(h:s.length<4294967281)(u:Unit)(vs:List V)(a:zDn CC as38 ((s,t,u):zS as38) vs):PureF Tryz.prog 38 vs (.at (.int .i64 (Lib.index s t))):=by
 obtain⟨v,vs',rfl,c,e,d,rfl,b,a⟩:=a;replace a:d=[]:=a;subst a;replace c:v=.at (.string ⟨List.toArray s⟩):=c;replace b:e=.at (.string ⟨List.toArray t⟩):=b;subst c b;exact pure38 s t h
theorem ok38:ConOk CC Tryz.prog 38 ⟨as38,rs38,c38⟩:=λx y a vs b=>by
 obtain⟨s,t,u⟩:=x;by_cases h:List.length (show Str from s)<4294967281
 .have c:c38 (s,t,u)=some (Lib.index s t,()):=if_pos h;replace a:c38 (s,t,u)=some y:=a;rw[c]at a;injection a with a
  subst a;exact ok38' s t h u vs b
 .have c:c38 (s,t,u)=none:=if_neg h;replace a:c38 (s,t,u)=some y:=a;rw[c]at a;cases a
end Go.Proofs.YtfjiiknfopmcjaaGreatDoor
end
namespace Go.Proofs.YtfjiiknfopmcjaaGreatDoor
section
open Go.Al Go.Den Go.RowKit Go.Shelf
attribute [local go_sem] Oper.semAt_some
def exb(bx:Nat)(W:World)(b:Nat):Prop:=b=bx\/∃o l c,W.cell? ⟨bx,0,none⟩=some (.slice (some ⟨b,o,none⟩) l c)
def BoxOk(a bx:Nat)(W:World):Prop:=a<=bx/\(∃arr t m,W.heap[bx]?=some (.cells arr t m))/\∀b,exb bx W b->a<=b/\b<W.heap.size
structure Kept(n0 bx:Nat)(A B:World):Prop where
 ok:BoxOk n0 bx B
 size:A.heap.size<=B.heap.size
 same:∀b o v,A.cell? ⟨b,o,none⟩=some v->¬exb bx A b->B.cell? ⟨b,o,none⟩=some v
 ex:∀b,exb bx B b->exb bx A b\/A.heap.size<=b
 low:∀b,b<n0->B.heap[b]?=A.heap[b]?
def zBT(a bx:Nat)(A B:World):Prop:=BoxOk a bx A->Kept a bx A B
theorem zGg{A:World}{b o:Nat}{v:Value}(h:A.cell? ⟨b,o,none⟩=some v):b<A.heap.size:=by
 rcases zW5 b A.heap.size with a|a
 .exact a
 .unfold World.cell? at h;have:A.heap[b]?=none:=zXH a;simp only[this]at h;cases h
theorem jm{A B:World}{b:Nat}(h:B.heap[b]?=A.heap[b]?)(o:Nat):B.cell? ⟨b,o,none⟩=A.cell? ⟨b,o,none⟩:=World.cell?_of_block h
theorem Kept.refl{a bx:Nat}{A:World}(h:BoxOk a bx A):Kept a bx A A:=⟨h,zV7 _,λ_ _ _ h _=>h,λ_ h=>.inl h,λ_ _=>rfl⟩
theorem Kept.trans{d bx:Nat}{A B C:World}(h:Kept d bx A B)(k:Kept d bx B C):Kept d bx A C:=by
 refine⟨k.ok,zWv h.size k.size,λb o v a f=>?_,λb a=>?_,λb a=>(k.low b a).trans (h.low b a)⟩
 .refine k.same b o v (h.same b o v a f) (λe=>?_);rcases h.ex b e with c|c
  .exact f c
  .have:=zGg a;omega
 .rcases k.ex b a with c|c
  .exact h.ex b c
  .exact .inr (zWv h.size c)
theorem zTt{a bx:Nat}{A B C:World}(h:zBT a bx A B)(k:zBT a bx B C):zBT a bx A C:=λb=>(h b).trans (k (h b).ok)
theorem zCS{bx:Nat}{A B:World}(h:B.heap[bx]?=A.heap[bx]?)(b:Nat):exb bx B b↔exb bx A b:=by
 unfold exb;rw[jm h]
theorem BoxOk.grown{c bx:Nat}{A B:World}(h:BoxOk c bx A)(f:A.heap.size<=B.heap.size)(a:B.heap[bx]?=A.heap[bx]?):BoxOk c bx B:=by
 obtain⟨g,⟨arr,t,m,i⟩,d⟩:=h;exact⟨g,⟨arr,t,m,a.trans i⟩,λb e=>⟨(d b ((zCS a b).1 e)).1,zWN (d b ((zCS a b).1 e)).2 f⟩⟩
theorem BoxOk.lt{a bx:Nat}{A:World}(h:BoxOk a bx A):bx<A.heap.size:=(h.2.2 bx (.inl rfl)).2
theorem Kept.grown{d bx:Nat}{A B:World}(h:BoxOk d bx A)(c:A.grownBy B none):Kept d bx A B:=by
 have a:∀b,b<A.heap.size->B.heap[b]?=A.heap[b]?:=λb a=>c.block b a (by simp);refine⟨h.grown c.size (a bx h.lt),c.size,λb o v e _=>(jm (a b (zGg e)) o).trans e,λb f=>.inl ((zCS (a bx h.lt) b).1 f),λb g=>a b (Nat.lt_trans (zWN g h.1) h.lt)⟩
theorem zSe{g bx:Nat}(W:World)(l:Nat)(o o':Obj)(p:g<=l)(h:W.heap[l]?=some o)(i:o.isCells=false):zBT g bx W (W.putObj l o'):=by
 intro j;have e:bx≠l:=by
  rintro rfl;obtain⟨_,⟨arr,t,m,d⟩,_⟩:=j;rw[h]at d;injection d with d;subst d;cases i
 have f:(W.putObj l o').heap[bx]?=W.heap[bx]?:=World.putObj_heap_other e;have a:(W.putObj l o').heap.size=W.heap.size:=by simp[World.putObj]
 refine⟨j.grown (zYX a.symm) f,zYX a.symm,λb k v c _=>(jm (World.putObj_heap_other ?_) k).trans c,λb n=>.inl ((zCS f b).1 n),λb f=>World.putObj_heap_other (by omega)⟩;rintro rfl;unfold World.cell? at c;simp only[h]at c;cases o<;>first|(cases i;done)|(cases c;done)|(simp at c;done)
theorem zFa{F:Fence}{n:Nat}{P:Program}(w:World){ops:Array Oper}{f:List Oper}{o:Oper}{a:Act}{Q:Exit->Act->World->Prop}
 (A:o.guard=none) (s x:Operand) (t:TypeId) (g:o.op=Op.call { callee:=Callee.builtin Builtin.append,args:=#[s,x],argTypes:=#[t,t] })
 (base:Nat) (e:TypeId) (i:TypeInfo) (z:Value) (b bytes:Nat) (B:P.underlying t=some (.slice e)) (C:P.info? e=some i) (D:i.zero=some z) (E:i.size=b) (G:i.bytes=bytes) (H:z.cells.size=b) (I:0<b)
 (v:Value) (k:Nat) (xs:List Value) (J:a.eval s=v) (h:w.ownsRow base e b v k xs) (p:Addr) (m c:Nat) (d:List Value) (L:a.eval x=.slice (some p) m c) (M:d.length=m*b)
 (N:∀j u,d[j]?=some u->w.cell? (p.add j)=some u) (q:∀u∈d,u.oneCell'=true) (b1:k+m<=maxLen) (O:(k+m)*bytes<=140737488355328) (R:base<=w.heap.size)
 (S:∀v' w',w'.ownsRow base e b v' (k+m) (xs++d)->w.grownBy w' v.ownBlock->(v'=.slice none 0 0↔v=.slice none 0 0/\m=0)->(v'.ownBlock=v.ownBlock\/v'.ownBlock=some w.heap.size)->wpListIn F n P ops Q f (a.put o.dst v') w') :
 wpListIn F n P ops Q (o::f) a w:=by
 refine wpListIn_plain A λK r=>?_;obtain⟨v',w',l,T,U,V,W⟩:=run_append_own_at (P:=P) w base t o.type e i z b bytes B C D E G H I v k xs h p m c d M N q b1 O R;unfold Oper.wpIn;refine⟨?_,?_⟩
 .simp[Oper.about,g,resolve,Target.leads,Sem.run_pure]
 .rw[Oper.semAt_plain F _ _ (by rw[g];intro c y;cases y)];simp[execOp,g,resolve,invoke,builtin,J,L,l,Result.andThen];exact r _ _ (S v' w' T U V W)
theorem zND{W:World}{base:Nat}{e:TypeId}{b:Nat}{v:Value}{k:Nat}{xs:List Value}(h:W.ownsRow base e b v k xs){j:Nat}{o:Obj}(f:W.heap[j]?=some o)(c:∀a,o≠.cells a e (0,0)) :
 v.ownBlock=none\/v.ownBlock≠some j:=by
 rcases h.2 with⟨rfl,_⟩|⟨g,cap,a,rfl,_,d,_⟩
 .exact .inl rfl
 .refine .inr λe'=>?_;have:g=j:=by simpa [Value.ownBlock]using e'
  subst this;rw[d]at f;cases f;exact c a rfl
def Grow(b bx:Nat)(t e:TypeId)(a:Nat)(w:World)(xs:List Value)(n:Nat)(W:World):Prop:=
 ∃v,W.heap[bx]?=some (.cells #[v] t (0,0))/\W.ownsRow b e a v n xs/\(n=0->v=.slice none 0 0)/\Below b w W
theorem Grow.exb{d bx:Nat}{t e:TypeId}{a:Nat}{w:World}{xs:List Value}{n:Nat}{W:World}{v:Value}(f:W.heap[bx]?=some (.cells #[v] t (0,0)))(i:W.ownsRow d e a v n xs)(b:Nat) :
 exb bx W b↔b=bx\/v.ownBlock=some b:=by
 have j:W.cell? ⟨bx,0,none⟩=some v:=by simp[World.cell?,f]
 unfold Go.Proofs.YtfjiiknfopmcjaaGreatDoor.exb;rw[j];refine or_congr zXt ⟨λ⟨o,l,c,h⟩=>?_,λh=>?_⟩
 .injection h with h;subst h;rfl
 .rcases i.2 with⟨rfl,_⟩|⟨g,cap,k,rfl,_,m,_⟩
  .cases h
  .have:g=b:=by simpa [Value.ownBlock]using h
   subst this;exact⟨_,_,_,rfl⟩
theorem Grow.box{c bx:Nat}{t e:TypeId}{a:Nat}{w:World}{xs:List Value}{n:Nat}{W:World}(i:c<=bx)(h:Grow c bx t e a w xs n W):BoxOk c bx W:=by
 obtain⟨v,d,j,_,o⟩:=h;refine⟨i,⟨_,_,_,d⟩,λb k=>?_⟩;rcases(Grow.exb (w:=w) d j b).1 k with rfl|h
 .exact⟨i,(zV8.1 d).1⟩
 .rcases j.2 with⟨rfl,_⟩|⟨g,cap,l,rfl,m,f,_⟩
  .cases h
  .have:g=b:=by simpa [Value.ownBlock]using h
   subst this;exact⟨m,(zV8.1 f).1⟩
theorem Grow.own{j bx:Nat}{t e:TypeId}{a:Nat}{w:World}{xs:List Value}{n:Nat}{A B:World}{c:Option Nat}(x:j<=w.heap.size)(h:Grow j bx t e a w xs n A)(p:A.grownBy B c)(u:∀r,c=some r->j<=r/\∃o:Obj,A.heap[r]?=some o/\o.isCells=false):Grow j bx t e a w xs n B:=by
 obtain⟨v,q,d,y,l⟩:=h;have f:∀{b:Nat}{o:Obj},A.heap[b]?=some o->o.isCells=true->some b≠c:=λl z e=>by
  obtain⟨_,o',m,i⟩:=u _ e.symm;rw[l]at m;injection m with m;subst m;rw[z]at i;cases i
 refine⟨v,(p.block bx (zV8.1 q).1 (f q rfl)).trans q,d.kept p ?_,y,l.grown p (zWv x l.size) (λk e=>(u k e).1)⟩;rcases d.2 with⟨rfl,_⟩|⟨g,cap,C,rfl,_,s,_⟩
 .exact .inl rfl
 .exact .inr (f s rfl)
theorem Grow.kept{f bx:Nat}{t e:TypeId}{c:Nat}{w:World}{xs r:List Value}{n x:Nat}{A B:World}(y:f<=bx){v v':Value}(m:A.heap[bx]?=some (.cells #[v] t (0,0)))(p:A.ownsRow f e c v n xs)
 (i:B.heap[bx]?=some (.cells #[v'] t (0,0))) (j:B.ownsRow f e c v' x r) (z:x=0->v'=.slice none 0 0) (C:Below f w B) (D:A.heap.size<=B.heap.size)
 (s:v'.ownBlock=v.ownBlock\/∃b,v'.ownBlock=some b/\A.heap.size<=b) (h:∀b,b<A.heap.size->b≠bx->v.ownBlock≠some b->B.heap[b]?=A.heap[b]?):Kept f bx A B:=by
 have k:∀b,b<f->v.ownBlock≠some b:=λb l a=>by
  rcases p.2 with⟨rfl,_⟩|⟨g,cap,E,rfl,J,F,_⟩
  .cases a
  .have:g=b:=by simpa [Value.ownBlock]using a
   omega
 have G:=(zV8.1 m).1;refine⟨Grow.box y ⟨v',i,j,z,C⟩,D,λb o u l q=>?_,λb q=>?_,λb l=>h b (by omega) (by omega) (k b l)⟩
 .have d:b≠bx:=λa=>q ((Grow.exb (w:=w) m p b).2 (.inl a));have H:v.ownBlock≠some b:=λa=>q ((Grow.exb (w:=w) m p b).2 (.inr a));exact(jm (h b (zGg l) d H) o).trans l
 .rcases(Grow.exb (w:=w) i j b).1 q with rfl|d
  .exact .inl (.inl rfl)
  .rcases s with a|⟨K,a,I⟩
   .exact .inl ((Grow.exb (w:=w) m p b).2 (.inr (a▸d)))
   .rw[a]at d;injection d with d;subst d;exact .inr I
theorem Grow.round{d bx C:Nat}{t e:TypeId}{a:Nat}{w:World}{xs f:List Value}{n m:Nat}{A B:World}(D:d<=bx){v v':Value}(r:A.heap[bx]?=some (.cells #[v] t (0,0)))(s:A.ownsRow d e a v n xs)
 (i:B.heap[bx]?=some (.cells #[v'] t (0,0))) (j:B.ownsRow d e a v' m f) (u:m=0->v'=.slice none 0 0) (x:Below d w B) (y:A.heap.size<=B.heap.size)
 (p:v'.ownBlock=v.ownBlock\/∃b,v'.ownBlock=some b/\A.heap.size<=b) (h:∀b,b<A.heap.size->b≠bx->v.ownBlock≠some b->B.heap[b]?=A.heap[b]?) :
 KeepsFrom C A B/\zBT d bx A B/\Grow d bx t e a w f m B:=by
 refine⟨⟨y,λk o _ c z=>(h k (zV8.1 c).1 (λl=>?_) (λl=>?_)).trans c⟩,λ_=>Grow.kept D r s i j u x y p h,v',i,j,u,x⟩
 .subst l;rw[r]at c;injection c with c;subst c;cases z
 .rcases s.2 with⟨rfl,_⟩|⟨g,cap,E,rfl,_,q,_⟩
  .cases l
  .have:g=k:=by simpa [Value.ownBlock]using l
   subst this;rw[q]at c;injection c with c;subst c;cases z
theorem Grow.stay{b bx c:Nat}{t e:TypeId}{a:Nat}{w:World}{xs:List Value}{n:Nat}{A:World}(f:b<=bx)(h:Grow b bx t e a w xs n A):KeepsFrom c A A/\zBT b bx A A/\Grow b bx t e a w xs n A:=
 ⟨.refl _ _,λd=>.refl d,h⟩
theorem zM2{W:World}{B:Nat}{v:Value}{t:TypeId}(v':Value)(h:W.heap[B]?=some (.cells #[v] t (0,0))):(W.setCell ⟨B,0,none⟩ v').heap[B]?=some (.cells #[v'] t (0,0)):=by
 obtain⟨a,b⟩:=zV8.1 h;show(W.heap.modify B _)[B]?=_;rw[zWw (by rw[zYy];exact a),zYU,b];rfl
theorem zUq{W:World}{base:Nat}{e:TypeId}{a:Nat}{v:Value}{k:Nat}{xs:List Value}(h:W.ownsRow base e a v k xs){b:Nat}(c:v.ownBlock=some b):base<=b:=by
 rcases h.2 with⟨rfl,_⟩|⟨g,cap,d,rfl,f,_⟩
 .cases c
 .have:g=b:=by simpa [Value.ownBlock]using c
  omega
theorem zSW{a:Nat->Nat}{w i:World}(j:∀b,w.heap.size<=b->a b=0)(l:Below w.heap.size w i){c n:Nat}{e:TypeId}{v:Value}{ds:List Value}(m:i.ownsRow w.heap.size e c v n ds)(E:n=0->v=.slice none 0 0)
 (es:List V) (F:n=es.length) (G:∀x∈es,x.size=c) (p:RCs ⟨a,λ_=>none,Fr.no⟩ w es ds) :
 ∃d,(∀b,i.heap.size<=b->d b=0)/\Step w.heap.size ⟨a,λ_=>none,Fr.no⟩ w ⟨d,λ_=>none,Fr.no⟩ i/\RV ⟨d,λ_=>none,Fr.no⟩ i (.lst (yL es) es) v:=by
 subst F;obtain⟨A,q⟩:=kO j l;cases es with
 |nil=>
  refine⟨a,A,q,?_⟩;rw[E rfl];exact xR (by unfold RC;exact .inl ⟨rfl,rfl,trivial⟩)
 |cons x r=>
  obtain⟨B,⟨_,H⟩|⟨g,cap,I,rfl,J,o,K,N,L,y⟩⟩:=m
  .simp at H
  .have M:=(zV8.1 o).1;have C:Later ⟨a,λ_=>none,Fr.no⟩ w ⟨λb=>if b=g then ds.length else a b,λ_=>none,Fr.no⟩ i:=by
    refine⟨λb=>?_,λ_ _ h=>h,q.later.cell⟩;show a b<=if b=g then ds.length else a b
    split
    .rename_i h;rw[h,j g J];exact zWd _
    .exact zV7 _
   refine⟨λb=>if b=g then ds.length else a b,λb D=>?_,⟨C,q.below,λb h=>(by simp[Fr.no]at h),λb D=>?_,rfl⟩,xR ?_⟩
   .show(if b=g then ds.length else a b)=0;rw[if_neg (by omega)];exact A b D
   .show(if b=g then ds.length else a b)=a b;rw[if_neg (by omega)]
   .simp only[RC];refine .inr ⟨g,0,cap,ds,rfl,K,by simp[yL,zIK],zq C _ _ p,⟨c,G,by intro t O s h;simp[yL]at h⟩,λk u f=>⟨?_,?_⟩⟩
    .have z:k<ds.length:=(zW9.1 f).1;rw[<-y,zWb]at f;split at f
     .simp only[World.cell?,o,zWP];rw[zW3]at f;simpa using f
     .cases f
    .have z:k<ds.length:=(zW9.1 f).1;show 0+k<if g=g then ds.length else a g
     rw[if_pos rfl];omega
def chG:List UInt8->Nat->List CharT
 |[],_=>[]
 |[c],i=>[⟨(c.toNat:Int),(i:Int)⟩]
 |c::d::r,i=>cond (c==92&&d==10) (chG r (i+2)) (⟨(c.toNat:Int),(i:Int)⟩::chG (d::r) (i+1))
theorem zGc:∀(s:List UInt8)(i:Nat),(chG s i).length<=s.length
 |[],_=>zV7 _
 |[c],i=>zV7 _
 |c::d::r,i=>by
  have a:=zGc r (i+2);have b:=zGc (d::r) (i+1);simp only[chG];cases(c==92&&d==10)
  .simp only[zWH,zWC]at *;omega
  .simp only[zWQ,zWC]at *;omega
theorem zT4(s:List UInt8)(k:Nat)(h:k<s.length) :
 (Lib.hasPrefix (List.take (s.length-k) (s.drop k)) [92,10]=true->k+2<=s.length/\chG (s.drop k) k=chG (s.drop (k+2)) (k+2)) /\
 (Lib.hasPrefix (List.take (s.length-k) (s.drop k)) [92,10]=false->chG (s.drop k) k=⟨(s[k].toNat:Int),(k:Int)⟩::chG (s.drop (k+1)) (k+1)):=by
 have b:List.take (s.length-k) (s.drop k)=s.drop k:=zXM (by simp);rw[b,zWn h];unfold Lib.hasPrefix;by_cases c:k+1<s.length
 .rw[zWn c];have e:[92,10].isPrefixOf (s[k]::s[k+1]::s.drop (k+1+1))=(s[k]==92&&s[k+1]==10):=by
   simp only[List.isPrefixOf,zZO,Bool.beq_comm]
  rw[e];refine⟨λa=>⟨by omega,?_⟩,λa=>?_⟩
  .simp only[chG,a,zWQ]
  .simp only[chG,a,zWH]
 .have e0:s.drop (k+1)=[]:=zZE (by omega);rw[e0];refine⟨λa=>by simp[List.isPrefixOf]at a,λ_=>by simp[chG]⟩
def chV(x:CharT):Value:=.agg #[.int .u8 x.b,.int .i64 x.fat]
def chC(x:CharT):List Value:=[.int .u8 x.b,.int .i64 x.fat]
set_option maxRecDepth 100000 in
set_option maxHeartbeats 2000000 in
theorem zQI(n r bx:Nat)(l Bs:Nat)(s:Str)(p:s.length<1100000)(J E:List CharT->World->Prop)
 (O:∀pre x W,J pre W->pre.length<s.length->YieldAt Fence.wide (n-1) Tryz.prog l #[chV x] W λe j=>
  (e=.returned (.bool true)/\J (pre++[x]) j/\zBT r bx W j)\/(e=.returned (.bool false)/\E (pre++[x]) j))
 (W:World) (P:BoxOk r bx W) (t:¬exb bx W Bs) (u:W.cell? ⟨Bs,0,none⟩=some (.string ⟨s.toArray⟩)) (Q:J [] W) :
 CallsIn Fence.wide n Tryz.prog 54 #[.func (.yield l) #[] #[],.pointer (some ⟨Bs,0,none⟩)] W λe j=>(∃v,e=.returned v) /\
  ((∃ys,ys=chG s 0/\J ys j)\/(∃pre,True/\E pre j)):=by
 refine callsIn_of_wp Tryz.func54 rfl trivial ?_ rfl;simp only[Tryz.ntmps54,zXS,zWC,zWI,Nat.reduceAdd,Nat.reduceSub,zXN,zXO,zXX,zXQ,zWR,zWY];have R:(⟨s.toArray⟩:ByteArray).size=s.length:=by simp[ByteArray.size]
 gi_wp2
 gi_loopw [3] (λi wr=>∃(k:Nat)(pre:List CharT),k<=s.length/\i=.int .i64 (k:Int)/\pre++chG (s.drop k) k=chG s 0/\J pre wr/\Kept r bx W wr)
  (λi _=>match i with|.int _ z=>s.length-z.toNat|_=>0)
 case atStart=>exact⟨0,[],zWd _,rfl,by simp,Q,Kept.refl P⟩
 case round=>
  obtain⟨k,pre,U,rfl,a,d,b⟩:=hrel;have F:=b.same _ _ _ u t;by_cases m:k<s.length
  .have V:∀f,Fence.wide.fn f:=λ_=>trivial;have g:∀k:Nat,(Fence.wide.depth.isSome=true->1<=k):=λk h=>by cases h
   have G:(k:Int)<(s.length:Int):=by omega
   have H:¬((k:Int)<0):=by omega
   obtain⟨w,y⟩:=zT4 s k m;have S:∀h:k<(⟨s.toArray⟩:ByteArray).size,(⟨s.toArray⟩:ByteArray)[k]'h=s[k]:=λ_=>rfl;cases I:Lib.hasPrefix (List.take (s.length-k) (s.drop k)) [92,10]with
   |true=>
    obtain⟨A,c⟩:=w I
    gi_wp2_with ((try refine⟨g _,?_⟩);gi_at_call 55;refine(callsIn_wide.2 (Tryz.strings_HasPrefix _ _ _)).mono ?_;rintro e w' ⟨rfl,rfl⟩)
    refine⟨⟨k+2,pre,A,rfl,by rw[<-c];exact a,d,b⟩,?_⟩;show s.length-Int.toNat ((k:Int)+1+1)<s.length-Int.toNat (k:Int);omega
   |false=>
    have c:=y I;have B:pre.length<s.length:=by
     have K:=zWp List.length a;have X:=zGc s 0;rw[c]at K;simp only[zWD,zWC]at K;omega
    obtain⟨Y,L,q,M,T,N⟩:=O pre ⟨(s[k].toNat:Int),(k:Int)⟩ wr d B;dsimp only[chV]at T
    gi_wp2_with (first
     |((try refine⟨g _,?_⟩);gi_at_call 55;refine(callsIn_wide.2 (Tryz.strings_HasPrefix _ _ _)).mono ?_;rintro e w' ⟨rfl,rfl⟩)
     |((try refine⟨g _,?_⟩);refine N.mono ?_;clear N;rintro e Z (⟨rfl,C,D⟩|⟨rfl,o⟩)))
    .refine⟨⟨k+1,pre++[⟨(s[k].toNat:Int),(k:Int)⟩],m,rfl,by rw[zXT,zZH,<-c];exact a,C,b.trans (D b.ok)⟩,?_⟩;show s.length-Int.toNat ((k:Int)+1)<s.length-Int.toNat (k:Int);omega
    .refine bodyPost_ret (results_none rfl _ _ _) rfl ?_;exact⟨⟨_,rfl⟩,.inr ⟨_,trivial,o⟩⟩
  .obtain rfl:k=s.length:=by omega
   gi_wp2;go_end0;have e:s.drop s.length=[]:=zZE (zV7 _);rw[e]at a;exact⟨⟨_,rfl⟩,.inl ⟨pre,by simpa [chG]using a,d⟩⟩
theorem zNR(n d bx Bs:Nat)(s:Str)(a:s.length<1100000)(w:World)(g:BoxOk d bx w)(e:¬exb bx w Bs)(b:w.heap[Bs]?=some (.cells #[.string ⟨s.toArray⟩] 9 (0,0))) :
 SeqStopsK Fence.wide n Tryz.prog 54 #[.pointer (some ⟨Bs,0,none⟩)] (λx:CharT=>#[chV x]) (zBT d bx) (λys=>ys=chG s 0) (λ_=>True) s.length w:=λl J i W f _ _ j k=>by
 have c:W.heap[bx]?=w.heap[bx]?:=f.block _ g.lt;have m:W.heap[Bs]?=some (.cells #[.string ⟨s.toArray⟩] 9 (0,0)):=(f.block _ (zV8.1 b).1).trans b;exact zQI n d bx l Bs s a J i j W (g.grown f.size c) (λh=>e ((zCS c Bs).1 h)) (by simp[World.cell?,m]) k
set_option maxRecDepth 100000 in
set_option maxHeartbeats 1000000 in
theorem zTg(m:Nat)(s:ByteArray)(w:World) :
 CallsIn Fence.wide m Tryz.prog 34 #[.string s] w λe w'=>e=.returned (.func (.func 54) #[] #[.pointer (some ⟨w.heap.size,0,none⟩)])/\w'=w.alloc (.cells #[.string s] 9):=by
 refine callsIn_of_wp Tryz.func34 rfl trivial ?_ rfl;simp only[Tryz.ntmps34,zXS,zWC,zWI,Nat.reduceAdd,Nat.reduceSub,zXN,zXO,zXX,zXQ,zWR,zWY];gi_wp2;go_ret;exact⟨rfl,rfl⟩
theorem info55:(Tryz.prog.info? 55).map (λi=>(i.zero,i.size,i.bytes))=some (some (.agg #[.int .u8 0,.int .i64 0]),2,16):=by kernel_rfl
def chCs(l:List CharT):List Value:=l.flatMap chC
theorem zTO(l:List CharT)(x:CharT):chCs (l++[x])=chCs l++chC x:=by simp[chCs]
theorem zM5(w:World)(u v:Value)(t:TypeId)(m:Nat×Nat):∀j x,[u,v][j]?=some x->(w.alloc (.cells #[u,v] t m)).cell? ((⟨w.heap.size,0,none⟩:Addr).add j)=some x:=by
 intro j x a;have b:=World.alloc_heap_new w (.cells #[u,v] t m)
 match j,a with
 |0,a=>
  have:u=x:=by simpa using a
  subst this;show(w.alloc (.cells #[u,v] t m)).cell? ⟨w.heap.size,0,none⟩=some u;unfold World.cell?;simp only[b];rfl
 |1,a=>
  have:v=x:=by simpa using a
  subst this;show(w.alloc (.cells #[u,v] t m)).cell? ⟨w.heap.size,1,none⟩=some v;unfold World.cell?;simp only[b];rfl
 |j+2,a=>simp at a
set_option maxRecDepth 100000 in
set_option maxHeartbeats 1000000 in
theorem zV4(m:Nat)(hm:3<=m)(s:Str)(J:s.length<1100000)(w:World) :
 CallsIn Fence.wide m Tryz.prog 16 #[.string ⟨s.toArray⟩] w λe W'=>∃v',e=.returned v'/\W'.ownsRow w.heap.size 55 2 v' (chG s 0).length (chCs (chG s 0))/\((chG s 0).length=0->v'=.slice none 0 0)/\Below w.heap.size w W':=by
 have hF:∀f,Fence.wide.fn f:=λ_=>trivial;have Y:∀k:Nat,(Fence.wide.depth.isSome=true->1<=k):=λk h=>by cases h
 refine callsIn_of_wp_marks Tryz.func16 rfl (hF _) ?_ rfl;simp only[Tryz.ntmps16,zXS,zWC,zWI,Nat.reduceAdd,Nat.reduceSub,zXN,zXO,zXX,zXQ,zWR,zWY]
 gi_wp2_with ((try refine⟨Y _,?_⟩);gi_at_call 34;refine(zTg _ _ _).mono ?_;rintro e w' ⟨rfl,rfl⟩)
 obtain⟨u,p⟩:∃u,(w.alloc (.cells #[.slice none 0 0] 46)).alloc (.cells #[.string ⟨s.toArray⟩] 9)=u:=⟨_,rfl⟩;have an:u.heap.size=w.heap.size+2:=by rw[<-p];simp
 have Z:Below w.heap.size w u:=by rw[<-p];exact((Below.refl _ w).alloc (zV7 _) _).alloc (by simp) _
 have z:u.heap[w.heap.size]?=some (.cells #[.slice none 0 0] 46 (0,0)):=by
  rw[<-p,Below.heap_alloc _ _ _ (by simp)];exact World.alloc_heap_new w _
 have L:u.heap[w.heap.size+1]?=some (.cells #[.string ⟨s.toArray⟩] 9 (0,0)):=by
  rw[<-p];have:=World.alloc_heap_new (w.alloc (.cells #[.slice none 0 0] 46)) (.cells #[.string ⟨s.toArray⟩] 9 (0,0));simpa using this
 have M:Grow w.heap.size w.heap.size 46 55 2 w [] 0 u:=⟨_,z,World.ownsRow_nil u _ _ _,λ_=>rfl,Z⟩;have aa:=M.box (zV7 _);have ab:¬exb w.heap.size u (w.heap.size+1):=λh=>by
  rcases h with h|⟨o,l,c,h⟩
  .omega
  .simp[World.cell?,z]at h
 rw[p];refine wpIn_rangeFunc_ownH rfl (by omega) (gf:=54) (lb:=#[.pointer (some ⟨w.heap.size+1,0,none⟩)]) (by simp[Act.eval]) (hF 54) (enters_of Tryz.func54 (by kernel_rfl) rfl)
  (zNR (m-1) w.heap.size w.heap.size (w.heap.size+1) s J u aa ab L) zTt (λW l o o' hl S N _=>zSe W l o o' (by omega) S N) (Below.refl _ _) (λ_=>rfl)
  (λpre W=>Grow w.heap.size w.heap.size 46 55 2 w (chCs pre) pre.length W)
  (λ_ _ _=>False) ?hI (λ_ _ _ _ _ hs _ _=>hs) M
  (λx a' W=>∃v,a'={ tmps:=#[.string ⟨s.toArray⟩,undef,.slice none 0 0,.pointer (some ⟨w.heap.size,0,none⟩),.pointer (some ⟨v,0,none⟩),.string ⟨s.toArray⟩,.func (.func 54) #[] #[.pointer (some ⟨w.heap.size+1,0,none⟩)],chV x,undef,undef,undef,undef,undef],defers:=[] }/\W.heap[v]?=some (.cells #[.int .u8 x.b,.int .i64 x.fat] 55 (0,0)))
  ?hAx ?assign ?body ?done ?stop
 case hI=>exact λpre A B ac h hg hr=>h.own (zV7 _) hg (λr e=>by obtain⟨S,N⟩:=hr r e;exact⟨by omega,N⟩)
 case hAx=>
  rintro x a' _ A B ac ⟨v,e3,e4⟩ hg hr;refine⟨v,e3,(hg.block v (zV8.1 e4).1 λe=>?_).trans e4⟩;obtain⟨_,o,T,hc⟩:=hr v e.symm;rw[e4]at T;injection T with T;subst T;cases hc
 case assign=>
  rintro l pre ⟨C,E⟩ W K hI U;have ao:∀V,V=({ tmps:=#[.string ⟨s.toArray⟩,undef,.slice none 0 0,.pointer (some ⟨w.heap.size,0,none⟩),.pointer (some ⟨W.heap.size,0,none⟩),.string ⟨s.toArray⟩,.func (.func 54) #[] #[.pointer (some ⟨w.heap.size+1,0,none⟩)],chV ⟨C,E⟩,undef,undef,undef,undef,undef],defers:=[] }:Act)->K V (W.alloc (.cells #[.int .u8 C,.int .i64 E] 55)):=λV e=>U V _ ((KeepsOthers.alloc W _).from _) (λhB=>Kept.grown hB (World.grownBy_alloc W _ none))
   (hI.own (zV7 _) (World.grownBy_alloc W _ none) (λr e=>by cases e)) ⟨W.heap.size,e,World.alloc_heap_new W _⟩
  unfold chV at *;gi_wp2;rfl
 case body=>
  rintro l pre ⟨C,E⟩ a' W hl hL ⟨G,i,a,hz,g⟩ ⟨v,rfl,y⟩ ad;replace y:W.heap[v]?=some (.cells #[.int .u8 C,.int .i64 E] 55 (0,0)):=y;have c0:W.cell? ⟨v,0,none⟩=some (.int .u8 C):=by simp[World.cell?,y]
  have c1:W.cell? ⟨v,1,none⟩=some (.int .i64 E):=by simp[World.cell?,y]
  have cb:W.cell? ⟨w.heap.size,0,none⟩=some G:=by simp[World.cell?,i]
  obtain⟨i0,hi,ae,af,ag⟩:=info_parts info55;have O:pre.length+1<=1100000:=by omega
  have ah:w.heap.size<=W.heap.size:=g.size;have ai:w.heap.size<W.heap.size:=(zV8.1 i).1;have aj:some w.heap.size≠G.ownBlock:=by
   rcases zND a i (λP e=>by cases e)with e|e
   .rw[e];simp
   .exact λe'=>e e'.symm
  gi_wp2_with (
   gi_at_builtin
   refine zFa _ rfl _ _ 46 rfl w.heap.size 55 i0 (.agg #[.int .u8 0,.int .i64 0]) 2 16 Tryz.underlying46 hi ae af ag rfl (by decide) _ _ _ rfl (a.alloc _) ⟨W.heap.size,0,none⟩ 1 1 [.int .u8 C,.int .i64 E] rfl rfl (zM5 _ _ _ _ _) (by simp[Value.oneCell']) (zWv O (by decide)) (zWv (zWt 16 O) (by decide)) (by simp;omega) ?_;intro v' F j Q ak al;have H:F.heap[w.heap.size]?=some (.cells #[G] 46 (0,0)):=(Q.block _ (by simp;omega) aj).trans ((Below.heap_alloc _ _ _ ai).trans i);obtain⟨aq,ar⟩:F.cell? ⟨w.heap.size,0,none⟩=some G/\F.frozen? ⟨w.heap.size,0,none⟩=false:=by constructor<;>simp[World.cell?,World.frozen?,H]
   obtain⟨g',d,n,rfl,X,ap,au,av,aw,ax⟩:∃g' d n,v'=.slice (some ⟨g',0,none⟩) (pre.length+1) d/\w.heap.size<=g'/\F.heap[g']?=some (.cells n 55 (0,0))/\pre.length+1<=d/\d<=maxLen/\n.size=d*2/\n.toList.take ((pre.length+1)*2)=chCs pre++[.int .u8 C,.int .i64 E]:=by
    rcases j.2 with⟨_,h0⟩|h'
    .exact absurd h0 (by omega)
    .exact h')
  have I:=grownBy_setCell' F w.heap.size (.slice (some ⟨g',0,none⟩) (pre.length+1) d);have q:(W.alloc (.cells #[.int .u8 C,.int .i64 E] 55)).grownBy F G.ownBlock:=Q;have ay:W.heap.size+1<=F.heap.size:=by have:=q.size;simpa using this
  refine(?_:KeepsFrom _ _ _/\zBT _ _ _ _/\Grow _ _ _ _ _ _ (chCs (pre++[_])) (pre++[_]).length _);rw[zTO,zWD,zWC,zWI];have t:Below w.heap.size w F:=(g.alloc ah _).grown q (by simp;omega) (λk e=>zUq a e);refine Grow.round (zV7 _) i a (zM2 _ H) (j.kept I (zND j H (λP e=>by cases e))) (λe=>absurd e (by omega)) (t.grown I t.size (λk e=>by injection e with e;omega)) (by simp;omega) ?_ (λb hb S N=>?_)
  .rcases al with e|e
   .exact .inl e
   .exact .inr ⟨_,e,by simp⟩
  .exact((I.block b (by omega) (λe=>S (by injection e))).trans (q.block b (by simp;omega) (λe=>N e.symm))).trans (Below.heap_alloc _ _ _ hb)
 case stop=>
  rintro D c pre W _ _ h _;exact h.elim
 case done=>
  rintro D ys W hD am ⟨G,i,a,hz,g⟩ U;have cb:W.cell? ⟨w.heap.size,0,none⟩=some G:=by simp[World.cell?,i]
  gi_wp2;refine⟨by simp,.inl ⟨_,_,rfl,run_takeDeferred U,?_⟩⟩;have R:=grownBy_putObj' W D (.deferred none);subst am;refine⟨_,results_tmp rfl _ _ _,_,rfl,?_⟩;refine⟨a.kept R (zND a U (λP e=>by cases e)),hz,g.grown R g.size (λk e=>by injection e with e;omega)⟩
theorem zKg{g:Gh}{w:World}:∀l:List CharT,RCs g w (l.map yo) (chCs l)
 |[]=>by simp[RCs,chCs]
 |x::r=>by
  have a:=zKg (g:=g) (w:=w) r;simp only[zV6,RCs];refine⟨chC x,chCs r,by simp[chCs],?_,a⟩;show RC g w (.agg [.at (.int .u8 (CharT.b x)),.at (.int .i64 (CharT.fat x))]) _;simp only[RC,RCs,chC];exact⟨[.int .u8 x.b],[.int .i64 x.fat],rfl,⟨rfl,rfl⟩,[.int .i64 x.fat],[],rfl,⟨rfl,rfl⟩,rfl⟩
theorem pure16(s:Str)(a:s.length<1100000):PureF Tryz.prog 16 [.at (.string ⟨s.toArray⟩)] (.lst (yL ((chG s 0).map yo)) ((chG s 0).map yo)):=by
 intro p w us d i j;cases j with
 |cons f g=>
  cases g;have e:=zr f;subst e;refine callsIn_wide.1 ((zV4 3 (zV7 _) s a w).mono ?_);rintro e w' ⟨v',rfl,b,k,c⟩;obtain⟨h,l,m,n⟩:=zSW d c b k ((chG s 0).map yo) (by simp) (λx o=>by obtain⟨y,_,rfl⟩:=zWa.1 o;exact zJq y) (zKg _);exact⟨_,h,rfl,l,m,n⟩
def c16(x:Str×Unit):Option (List CharT×Unit):=if x.1.length<1100000 then some (chG x.1 0,())else none
theorem ok16:ConOk CC Tryz.prog 16 ⟨as16,rs16,c16⟩:=λx y b vs a=>by
 obtain⟨s,u⟩:=x;obtain⟨v,vs',rfl,c,a⟩:=a;replace a:vs'=[]:=a;subst a;replace c:v=.at (.string ⟨List.toArray s⟩):=c;subst c;by_cases h:List.length (show Str from s)<1100000
 .have d:c16 (s,u)=some (chG s 0,()):=if_pos h;replace b:c16 (s,u)=some y:=b;rw[d]at b;injection b with b
  subst b;exact pure16 s h
 .have d:c16 (s,u)=none:=if_neg h;replace b:c16 (s,u)=some y:=b;rw[d]at b;cases b
theorem zF4{g:Gh}{w:World}:∀{l:List CharT}{us:List Value}(i:Nat)(h:i<l.length),RCs g w (l.map yo) us->us[2*i]?=some (.int .u8 l[i].b)/\us[2*i+1]?=some (.int .i64 l[i].fat)
 |x::r,us,0,_,h=>by
  simp only[zV6,RCs]at h;obtain⟨c,d,rfl,e,f⟩:=h;have a:RC g w (.agg [.at (.int .u8 (CharT.b x)),.at (.int .i64 (CharT.fat x))]) c:=e;simp only[RC,RCs]at a;obtain⟨p,q,rfl,⟨rfl,_⟩,s,t,rfl,⟨rfl,_⟩,rfl⟩:=a;exact⟨rfl,rfl⟩
 |x::r,us,i+1,hi,h=>by
  simp only[zV6,RCs]at h;obtain⟨c,d,rfl,e,f⟩:=h;have m:=qc g w _ _ e;have n:c.length=2:=by rw[m];exact zJq x
  obtain⟨k0,o⟩:=zF4 i (by simpa using hi) f;have k:∀j,(c++d)[2*(i+1)+j]?=d[2*i+j]?:=λj=>by
   rw[zX5 (by omega),n];congr 1;omega
  exact⟨(k 0).trans k0,(k 1).trans o⟩
theorem zTY{c:Nat->Nat}{w:World}{l:List CharT}{d:Value}(h:RC ⟨c,λ_=>none,Fr.no⟩ w (.lst (yL (l.map yo)) (l.map yo)) [d]) :
 ∃e cap,d=.slice e l.length cap/\∀i (hi:i<l.length),∃b o,e=some ⟨b,o,none⟩/\(w.cell? ⟨b,o+2*i,none⟩=some (.int .u8 l[i].b)/\o+2*i<c b)/\(w.cell? ⟨b,o+(2*i+1),none⟩=some (.int .i64 l[i].fat)/\o+(2*i+1)<c b):=by
 have g:(l.map yo).length=l.length:=by simp
 simp only[RC]at h;rcases h with⟨j,a,_⟩|⟨b,o,cap,ds,a,q,_,k,_,f⟩
 .have m:l=[]:=by simpa using j
  subst m;injection a with a
  exact⟨none,0,a,λi hi=>absurd hi (by simp)⟩
 .injection a with a
  refine⟨_,cap,by rw[a,g],λi hi=>?_⟩;obtain⟨n,p⟩:=zF4 i hi k;exact⟨b,o,rfl,f _ _ n,f _ _ p⟩
theorem info5:(Tryz.prog.info? 5).map (λi=>(i.zero,i.size,i.bytes))=some (some (.int .u8 0),1,1):=by kernel_rfl
theorem zG8(W:World)(b i:Nat)(v:Value):W.grownBy (W.setCell ⟨b,i,none⟩ v) (some b):=
 ⟨rfl,rfl,rfl,(KeepsWalks.setCell W _ v).size,λk _ a=>Below.heap_setCell _ _ _ k (λe=>a (by rw[e]))⟩
theorem zNo{W:World}{B i:Nat}{c:Array Value}{t:TypeId}(v':Value)(h:W.heap[B]?=some (.cells c t (0,0))):(W.setCell ⟨B,i,none⟩ v').heap[B]?=some (.cells (c.setIfInBounds i v') t (0,0)):=by
 obtain⟨a,b⟩:=zV8.1 h;show(W.heap.modify B _)[B]?=_;rw[zWw (by rw[zYy];exact a),zYU,b];rfl
def TRow(b g:Nat)(w:World)(xs:List Int)(n k:Nat)(W:World):Prop:=
 Below b w W/\∃a,W.heap[g]?=some (.cells a 5 (0,0))/\a.size=n/\(∀i,i<k->a[i]?=some (.int .u8 (xs.getD i 0)))/\∀i,i<n->∃z,a[i]?=some (.int .u8 z)
set_option maxRecDepth 100000 in
set_option maxHeartbeats 1000000 in
theorem zVx(m:Nat)(l:List CharT)(Q:l.length<1100000)(C:Nat->Nat)(w:World)(D:∀b,w.heap.size<=b->C b=0)(R:Option Addr)(cap:Nat)
 (E:∀i (hi:i<l.length),∃b o,R=some ⟨b,o,none⟩/\(w.cell? ⟨b,o+2*i,none⟩=some (.int .u8 l[i].b)/\o+2*i<C b)/\(w.cell? ⟨b,o+(2*i+1),none⟩=some (.int .i64 l[i].fat)/\o+(2*i+1)<C b)) :
 CallsIn Fence.wide m Tryz.prog 17 #[.slice R l.length cap] w λe W=>e=.returned (.string (strOfNums (l.map CharT.b)))/\Below w.heap.size w W:=by
 have hF:∀f,Fence.wide.fn f:=λ_=>trivial;refine callsIn_of_wp Tryz.func17 rfl trivial ?_ rfl;simp only[Tryz.ntmps17,zXS,zWC,zWI,Nat.reduceAdd,Nat.reduceSub,zXN,zXO,zXX,zXQ,zWR,zWY];obtain⟨X,hi,F,G,H⟩:=info_parts info5;obtain⟨S,I,t,J⟩:=run_make_full (P:=Tryz.prog) w w.heap.size 84 5 X (.int .u8 0) 1 Tryz.underlying84 hi F G .i64 .i64 l.length (by rw[H];omega) (by simp only[maxLen];omega) (zV7 _);have T:TRow w.heap.size w.heap.size w (l.map CharT.b) l.length 0 S:=by
  refine⟨(Below.refl _ w).grown J (zV7 _) (λk e=>by cases e),?_⟩;rcases t.2 with⟨h,_⟩|⟨g,U,c,h,_,d,_,_,v,K⟩
  .cases h
  .injection h with x _ Y
   injection x with x
   injection x with x
   subst x Y;refine⟨c,d,by omega,λi h=>by omega,λi hi=>⟨0,?_⟩⟩;have V:(List.take (l.length*1) c.toList)[i]?=(madeCells (Value.int .u8 0).cells (l.length*1)).toList[i]?:=by rw[K]
   rw[zWb,if_pos (by omega),zW3,zW3]at V;rw[V];have L:(Value.int IntKind.u8 0).cells=#[.int .u8 0]:=rfl;rw[L];simp[madeCells,hi,Nat.mod_one]
 have Z:w.heap.size≠S.heap.size:=by
  obtain⟨_,c,h,_⟩:=T;have:=(zV8.1 h).1;omega
 gi_wp2_with (rw[I])
 gi_loopw [11] (λu wr=>∃k:Nat,k<=l.length/\u=.int .i64 (k:Int)/\TRow w.heap.size w.heap.size w (l.map CharT.b) l.length k wr)
  (λu _=>match u with|.int _ z=>l.length-z.toNat|_=>0)
 case atStart=>exact⟨0,zWd _,rfl,T⟩
 case round=>
  obtain⟨k,hk,rfl,a,c,d,v,y,A⟩:=hrel;by_cases p:k<l.length
  .obtain⟨b,o,rfl,⟨a0,b0⟩,⟨a1,b1⟩⟩:=E k p;have B:b<w.heap.size:=by
    rcases zW5 b w.heap.size with h|h
    .exact h
    .rw[D b h]at b0;omega
   have f0:wr.cell? ⟨b,o+k*2,none⟩=some (.int .u8 l[k].b):=by rw[Nat.mul_comm k 2];exact(jm (a.block b B) _).trans a0
   have f1:wr.cell? ⟨b,o+k*2+1,none⟩=some (.int .i64 l[k].fat):=by rw[Nat.mul_comm k 2];exact(jm (a.block b B) _).trans a1
   have M:=(zV8.1 d).1;obtain⟨q,r⟩:∃q,wr.alloc (.cells #[.int .u8 l[k].b,.int .i64 l[k].fat] 55)=q:=⟨_,rfl⟩;have s:q.heap[w.heap.size]?=some (.cells c 5 (0,0)):=by rw[<-r,Below.heap_alloc _ _ _ M];exact d
   have N:q.heap[wr.heap.size]?=some (.cells #[.int .u8 l[k].b,.int .i64 l[k].fat] 55 (0,0)):=by rw[<-r];exact World.alloc_heap_new wr _
   have g0:q.cell? ⟨wr.heap.size,0,none⟩=some (.int .u8 l[k].b):=by simp[World.cell?,N]
   obtain⟨z,L⟩:=A k p;have aa:q.cell? ⟨w.heap.size,k,none⟩=some (.int .u8 z):=by simp[World.cell?,s,L]
   have ab:q.frozen? ⟨w.heap.size,k,none⟩=false:=by simp[World.frozen?,s]
   gi_wp2_with (rw[r])
   refine⟨⟨k+1,p,rfl,?_⟩,?_⟩
   .have n:Below w.heap.size w q:=by rw[<-r];exact a.alloc a.size _
    refine⟨n.grown (zG8 q w.heap.size k (.int .u8 l[k].b)) n.size (λj e=>by injection e with e;omega),c.setIfInBounds k (.int .u8 l[k].b),zNo _ s,by simpa using v,λi hi=>?_,λi hi=>?_⟩
    .rw[zXl];by_cases e:k=i
     .subst e;rw[if_pos rfl,if_pos (by omega)];simp[p]
     .rw[if_neg e];exact y i (by omega)
    .rw[zXl];by_cases e:k=i
     .subst e;rw[if_pos rfl,if_pos (by omega)];exact⟨_,rfl⟩
     .rw[if_neg e];exact A i hi
   .show l.length-Int.toNat ((k:Int)+1)<l.length-Int.toNat (k:Int);omega
  .obtain rfl:k=l.length:=by omega
   have O:=run_convert_bytes_arg (P:=Tryz.prog) wr 84 5 Tryz.underlying84 Tryz.underlying5 w.heap.size 0 l.length l.length (l.map CharT.b) (by simp) (λi hi=>by
    have:=y i hi;simp[World.cell?,d,this]) 9 Tryz.underlying9
   gi_wp2_with (rw[O])
   go_ret;exact⟨rfl,a⟩
def c17(x:List CharT×Unit):Option (Str×Unit):=if x.1.length<1100000 then some (x.1.map (λc=>UInt8.ofNat c.b.toNat),())else none
theorem pure17(l:List CharT)(a:l.length<1100000):PureF Tryz.prog 17 [.lst (yL (l.map yo)) (l.map yo)] (.at (.string ⟨(l.map (λc=>UInt8.ofNat c.b.toNat)).toArray⟩)):=by
 intro j w us d o k;obtain⟨v,rfl⟩:∃v,us=[v]:=by cases k with|cons _ p=>cases p;exact⟨_,rfl⟩
 cases k with
 |cons h _=>
  obtain⟨us,m,q⟩:=h;have g:=qc _ _ _ _ m;obtain⟨u,rfl⟩:=List.length_eq_one_iff.1 (show us.length=1 from g);obtain⟨n,cap,rfl,i⟩:=zTY m;have:v=.slice n l.length cap:=q;subst this;refine callsIn_wide.1 ((zVx 3 l a j w d n cap i).mono ?_);rintro e w' ⟨rfl,f⟩;obtain⟨r,s⟩:=kO d f;refine⟨_,j,rfl,r,s,?_⟩;have t:strOfNums (l.map CharT.b)=⟨(l.map (λc=>UInt8.ofNat c.b.toNat)).toArray⟩:=by simp[strOfNums,zXD,zYz]
  rw[t];exact RV_at_mk rfl
theorem ok17:ConOk CC Tryz.prog 17 ⟨as17,rs17,c17⟩:=λx y d vs a=>by
 obtain⟨s,u⟩:=x;obtain⟨v,vs',rfl,e,a⟩:=a;replace a:vs'=[]:=a;subst a;change List CharT at s;replace e:v=.lst (yL (s.map yo)) (s.map yo):=e;subst e;by_cases h:s.length<1100000
 .have f:c17 (s,u)=some (s.map (λc=>UInt8.ofNat c.b.toNat),()):=if_pos h;replace d:c17 (s,u)=some y:=d;rw[f]at d;injection d with d
  subst d;exact pure17 s h
 .have f:c17 (s,u)=none:=if_neg h;replace d:c17 (s,u)=some y:=d;rw[f]at d;cases d
end
section
open Go.Al Go.Den
theorem zAx(P:Program)(d:BinOp)(t:TypeId)(c:Bool)(k e:IntKind)(a b:Int)(K:V->Prop):zB8 P d t c (.at (.int k a)) (.at (.int e b)) K=aBin P d t (.at (.int k a)) (.at (.int e b)) K:=rfl
abbrev polN:Pol:=⟨λ_=>false,λ_=>false,λ_=>false,λ_=>false,[],λ_=>[]⟩
def xU(s:Str)(n:Int):Int:=if n<s.length then zFu s n else 0
def c35(a:Int×Unit)(s:Str)(i:Int):Option (Int×Unit):=if 0<=i+a.1/\i+a.1<9223372036854775808/\s.length<9223372036854775808 then some (xU s (i+a.1),())else none
set_option maxRecDepth 100000 in
theorem ok35:CROk CC Tryz.prog 35 (cRD [.int .i64] [.int .u8] c35):=by
 intro x R K r b;obtain⟨⟨a,i,u⟩,k,z⟩:=x;change Str at a;change Int at i;change Int at k;replace b:Option.bind (c35 (k,()) a i) (λy=>K y)=some r:=b;unfold c35 at b;split at b
 rotate_left
 .cases b
 rename_i h;replace b:K (xU a (i+k),())=some r:=b;replace h:0<=i+k/\i+k<9223372036854775808/\a.length<9223372036854775808:=h;refine⟨_,b,λs A q l C=>?_⟩;simp only[VKs,VK]at l;obtain⟨v,w,D,E,rfl,rfl,⟨c,cs,F,rfl,o,⟨G,H,I,J,rfl,rfl,⟨rfl,rfl⟩,L,M,N,O,rfl,rfl,⟨rfl,rfl⟩,rfl,rfl⟩,rfl⟩,P,Q,S,T,rfl,rfl,⟨rfl,rfl⟩,rfl,rfl⟩:=l;refine⟨[.at (.int .u8 (xU a (i+k)))],λm=>⟨_,[],[],[],rfl,rfl,⟨rfl,rfl⟩,rfl,rfl⟩,?_⟩;simp only[zWR,zWc,zWY];have d:=(xp s [.inr c] c).1 (by simp);rw[o]at d;show FnC Tryz.prog 35 _ (subS s [.inr c]) λoc m=>oc=.ret (finV [.at (.int .u8 (xU a (i+k)))])/\m=subS s [.inr c];generalize subS s [.inr c]=s1 at d ⊢;refine zAU Tryz.func35 rfl Tryz.ntmps35 Tryz.results35 (by show 2<=28;decide) λB=>?_;simp only[zWY,zWR,zWc,jh,Nat.reduceAdd];replace d:Al.look s1.box c=some ([.at (.string ⟨List.toArray a⟩),.at (.int .i64 i)],2):=d;have n:IntKind.i64.wrap (i+k)=i+k:=IntWalk.i64_in _ (by omega);have e:(⟨List.toArray a⟩:ByteArray).size=a.length:=by simp[ByteArray.size]
 (repeat (first|(refine zn ?_)|(refine zd ?_;simp -failIfUnchanged only[zC,zE])|(refine zo ?_;simp -failIfUnchanged only[zb,zY,zk,za])|(refine zh ?_;simp -failIfUnchanged only[zX,zW,zC,zE,reduceIte])|(refine zZ ?_)|((first|(refine zp polN ks35 _ rfl rfl ?_)|(refine zi polN mixed ks35 _ rfl rfl (by kernel_rfl) (by kernel_rfl) ?_));simp only[↓yE,↓xi,↓zAK,↓zIP,↓qD,↓yq,↓qe,↓AL_len,zC,zF,zG,zI,zP,zT,yH,zg,zj,zBk,zNL,zSx,zTy,yi,yb,yP,zu,yB,zXU,zXR,yO,yN,zWC,zWI,zWg,zWl,zWW,zWo,zXb,zWf,zWq,zWj,zWJ,zWE,zWA,zXJ,Nat.reduceAdd,Nat.reduceEqDiff,Nat.reduceLeDiff,reduceCtorEq,zWO,zWP,zW0,zV7,zW4,hasT3,aggT3,zSG,zCY,zGO,zBP,strT9,zOS,zNt,ks35,d,zAx,n,e])))
 refine qP rfl (λf=>?_) (λf=>?_)
 .have p:i+k >= a.length:=zXA f;have g:xU a (i+k)=0:=if_neg (by omega)
  (repeat (first|(refine zn ?_)|(refine zd ?_;simp -failIfUnchanged only[zC,zE])|(refine zo ?_;simp -failIfUnchanged only[zb,zY,zk,za])|(refine zh ?_;simp -failIfUnchanged only[zX,zW,zC,zE,reduceIte])|(refine zZ ?_)|((first|(refine zp polN ks35 _ rfl rfl ?_)|(refine zi polN mixed ks35 _ rfl rfl (by kernel_rfl) (by kernel_rfl) ?_));simp only[↓yE,↓zAK,zC,zF,zG,zI,zT,yH,zg,zj,zWE,zWA,Nat.reduceEqDiff,reduceCtorEq,ks35])))
  simp only[yk];rw[g];exact⟨rfl,rfl,trivial⟩
 .have p:¬i+k >= a.length:=zYY f;have g:xU a (i+k)=zFu a (i+k):=if_pos (by omega);refine zd ?_;simp -failIfUnchanged only[zC,zE];have j:0<=i+k/\i+k<(a.length:Int):=by omega
  (repeat (first|(refine zn ?_)|(refine zd ?_;simp -failIfUnchanged only[zC,zE])|(refine zo ?_;simp -failIfUnchanged only[zb,zY,zk,za])|(refine zh ?_;simp -failIfUnchanged only[zX,zW,zC,zE,reduceIte])|(refine zZ ?_)|((first|(refine zp polN ks35 _ rfl rfl ?_)|(refine zi polN mixed ks35 _ rfl rfl (by kernel_rfl) (by kernel_rfl) ?_));simp only[↓yE,↓xi,↓zAK,↓zIP,↓qD,↓zTB,↓yq,↓qe,zC,zF,zG,zI,zP,zg,zj,zBk,zNL,yi,yb,yP,zu,yB,zPc,zXU,zXR,yO,yN,zWC,zWI,zWg,zWl,zWW,zWo,zXb,zWf,zWq,zWj,zWJ,zWE,zWA,zXJ,Nat.reduceAdd,Nat.reduceEqDiff,Nat.reduceLeDiff,reduceCtorEq,zWO,zWP,zW0,zV7,zW4,hasT3,aggT3,zSG,zCY,zGO,zBP,strT9,zOS,zNt,ks35,d,zAx,n,e,j])))
  have t:(List.toArray a).getD (i+k).toNat 0=a.getD (i+k).toNat 0:=by simp[zWS,zWk]
  simp only[yk];rw[g,t];exact⟨rfl,rfl,trivial⟩
end
section
open Go.Al Go.Den
instance:DecidableEq TokT:=λa b=>
 if h:a.kind=b.kind/\a.text=b.text/\a.file=b.file/\a.ffrom=b.ffrom/\a.fto=b.fto/\a.blank=b.blank then
  isTrue (by obtain⟨_,_,_,_,_,_⟩:=a;obtain⟨_,_,_,_,_,_⟩:=b;simp only at h;obtain⟨rfl,rfl,rfl,rfl,rfl,rfl⟩:=h;rfl)
 else isFalse λe=>h (by subst e;exact⟨rfl,rfl,rfl,rfl,rfl,rfl⟩)
theorem zLH{P:Program}{f:Nat}{d c e rs:List (SK UU)}{l:zA d->zA e->Option (Option (zA c×zA rs))}(h:CPOk CC P syn f ⟨d,c,e,rs,fnP l⟩)(x:zA d)(a:zA e)(oc:Option (zA c×zA rs))(m:l x a=some oc) :
 ∀s g n i j,VKs CC s d x g i->VKs CC s e a n j->(i++j).Nodup->FnC P f (g++n) (subS s (i++j)) (qW CC syn c rs g oc):=by
 cases oc with
 |none=>
  obtain⟨oc,b,k⟩:=h x a (R:=Unit) (some ()) (λ_ _=>none) () (by simp only[fnP,m];rfl);cases oc with
  |none=>exact k
  |some y=>cases b
 |some y=>
  obtain⟨oc,b,k⟩:=h x a (R:=zA c×zA rs) none (λu v=>some (u,v)) y (by simp only[fnP,m];rfl);cases oc with
  |none=>cases b
  |some o=>
   injection b with b
   have:o=y:=b;subst this;exact k
def outD{β:Type}(l:Str):Option (Option ((RdT×Unit)×β))->Option (β×Int)
 |some (some y)=>if y.1.1.1=l then some (y.2,y.1.1.2.1)else none
 |_=>none
noncomputable def mD{b rs:LK}(c:RdT×Unit->zA b->Option (Option ((RdT×Unit)×zA rs))):zA b->DD (zA rs):=λa l i=>outD l (c ((l,i,()),()) a)
theorem zE5{P:Program}{f:Nat}{c rs:LK}{e:zA ([rdK]:LK)->zA c->Option (Option (zA ([rdK]:LK)×zA rs))}(h:CPOk CC P syn f ⟨[rdK],[rdK],c,rs,fnP e⟩):CPOk CC P syn f (cD c rs (mD e)):=by
 intro x a R g K r b;obtain⟨⟨l,i,u⟩,p⟩:=x;have j:∀d:Option (Option ((RdT×Unit)×zA rs)),e ((l,i,()),()) a=d->(Option.bind (outD l d) λy=>K ((l,y.2,()),()) y.1)=some r ->
  ∃oc:Option (zA ([rdK]:LK)×zA rs),(match oc with|none=>g=some r|some y=>K y.1 y.2=some r)/\∀s k o m n,VKs CC s [rdK] ((l,i,u),p) k m->VKs CC s c a o n->(m++n).Nodup->FnC P f (k++o) (subS s (m++n)) (qW CC syn [rdK] rs k oc):=by
  intro d q b;cases d with
  |none=>cases b
  |some oc=>
   have t:=zLH h ((l,i,()),()) a oc q;cases oc with
   |none=>cases b
   |some y=>
    obtain⟨⟨⟨v,A,w⟩,E⟩,z⟩:=y;unfold outD at b;simp only at b;split at b
    .rename_i B;subst B;exact⟨some (((v,A,()),()),z),b,t⟩
    .cases b
 obtain⟨oc,C,D⟩:=j _ rfl b;exact⟨oc,by cases oc<;>exact C,D⟩
def outF{β:Type}:Option (Option (Unit×β))->Option β
 |some (some y)=>some y.2
 |_=>none
noncomputable def mF{b rs:LK}(c:Unit->zA b->Option (Option (Unit×zA rs))):zA b->Option (zA rs):=λa=>outF (c () a)
theorem zO2{P:Program}{f:Nat}{c rs:LK}{e:zA ([]:LK)->zA c->Option (Option (zA ([]:LK)×zA rs))}(h:CPOk CC P syn f ⟨[],[],c,rs,fnP e⟩):CPOk CC P syn f (cF c rs (mF e)):=by
 intro x a R g K r b;have i:∀d:Option (Option (Unit×zA rs)),e () a=d->(Option.bind (outF d) λy=>K () y)=some r ->
  ∃oc:Option (zA ([]:LK)×zA rs),(match oc with|none=>g=some r|some y=>K y.1 y.2=some r)/\∀s j m k l,VKs CC s ([]:LK) x j k->VKs CC s c a m l->(k++l).Nodup->FnC P f (j++m) (subS s (k++l)) (qW CC syn ([]:LK) rs j oc):=by
  intro d n b;cases d with
  |none=>cases b
  |some oc=>
   have o:=zLH h () a oc n;cases oc with
   |none=>cases b
   |some y=>
    obtain⟨t,z⟩:=y;exact⟨some ((),z),b,o⟩
 obtain⟨oc,p,q⟩:=i _ rfl b;exact⟨oc,by cases oc<;>exact p,q⟩
def outW{β:Type}:Option (Option ((WoT×Unit)×β))->Option (β×MapM×Int)
 |some (some y)=>some (y.2,y.1.1.1,y.1.1.2.1)
 |_=>none
noncomputable def mW{b rs:LK}(c:WoT×Unit->zA b->Option (Option ((WoT×Unit)×zA rs))):zA b->WW (zA rs):=λa l i=>outW (c ((l,i,()),()) a)
theorem zPs{P:Program}{f:Nat}{c rs:LK}{e:zA ([woK]:LK)->zA c->Option (Option (zA ([woK]:LK)×zA rs))}(h:CPOk CC P syn f ⟨[woK],[woK],c,rs,fnP e⟩):CPOk CC P syn f (cW c rs (mW e)):=by
 intro x a R g K r b;obtain⟨⟨l,i,u⟩,p⟩:=x;have j:∀d:Option (Option ((WoT×Unit)×zA rs)),e ((l,i,()),()) a=d->(Option.bind (outW d) λy=>K ((y.2.1,y.2.2,()),()) y.1)=some r ->
  ∃oc:Option (zA ([woK]:LK)×zA rs),(match oc with|none=>g=some r|some y=>K y.1 y.2=some r)/\∀s k o m n,VKs CC s [woK] ((l,i,u),p) k m->VKs CC s c a o n->(m++n).Nodup->FnC P f (k++o) (subS s (m++n)) (qW CC syn [woK] rs k oc):=by
  intro d q b;cases d with
  |none=>cases b
  |some oc=>
   have t:=zLH h ((l,i,()),()) a oc q;cases oc with
   |none=>cases b
   |some y=>
    obtain⟨⟨⟨v,A,w⟩,D⟩,z⟩:=y;exact⟨some (((v,A,()),()),z),b,t⟩
 obtain⟨oc,B,C⟩:=j _ rfl b;exact⟨oc,by cases oc<;>exact B,C⟩
theorem zTD{P:Program}{f:Nat}{a r:List (AK UU)}:ConOk CC P f ⟨a,r,λ_=>none⟩:=λx y b=>by
 replace b:(none:Option (zS r))=some y:=b;cases b
theorem zB2{P:Program}{f:Nat}{a r:List (AK UU)}:ConOk CC P f ⟨a,r,nn a r⟩:=zTD
end
section
open Go.Al Go.Den
def sh36(fu:Nat)(x:((Str×(Int×Unit))×Unit))(a:(Str×Unit)):(Option (Option (((Str×(Int×Unit))×Unit)×(Bool×Unit)))):=cond (inS x.1.2.1 (lenI x.1.1) x.1.1.length) (cond (ile (lenI a.1) (lenI (cutL x.1.1 x.1.2.1 (lenI x.1.1)))) (cond (inS 0 (lenI a.1) (List.length (cutL x.1.1 x.1.2.1 (lenI x.1.1)))) (some (some (x,((seq (cutL (cutL x.1.1 x.1.2.1 (lenI x.1.1)) 0 (lenI a.1)) a.1),())))) (none)) (some (some (x,(false,()))))) (none)
theorem eq36:@run36=@sh36:=by kernel_rfl
def sh18(fu:Nat)(c37:(Str×(Int×Unit))->(Option (Int×Unit)))(c38:(Str×(Str×Unit))->(Option (Int×Unit)))(c35:(Int×Unit)->Str->Int->(Option (Int×Unit)))(c36:(Str×Unit)->Str->Int->(Option ((Bool×Unit)×Int)))(x:((Str×(Int×Unit))×Unit))(a:Unit):(Option (Option (((Str×(Int×Unit))×Unit)×(Bool×Unit)))):=qU (λ(d:(Unit×((Str×(Int×Unit))×Unit))->Option (Option (((Str×(Int×Unit))×Unit)×(Bool×Unit))))=>Option.bind (c35 (0,()) x.1.1 x.1.2.1) λe=>qU (λ(b:((Bool×Unit)×((Str×(Int×Unit))×Unit))->Option (Option (((Str×(Int×Unit))×Unit)×(Bool×Unit))))=>cond (ieq e.1 32) (b ((true,()),x)) (cond (ieq e.1 9) (b ((true,()),x)) (cond (ieq e.1 11) (b ((true,()),x)) (cond (ieq e.1 12) (b ((true,()),x)) (b (((ieq e.1 13),()),x)))))) (λ(c:((Bool×Unit)×((Str×(Int×Unit))×Unit)))=>cond c.1.1 (some (some (((c.2.1.1,((iadd .i64 c.2.1.2.1 1),())),()),(true,())))) (d ((),c.2)))) (λ(c:(Unit×((Str×(Int×Unit))×Unit)))=>Option.bind (c36 ([47,47],()) c.2.1.1 c.2.1.2.1) λe=>cond e.1.1 (cond (inS e.2 (lenI c.2.1.1) c.2.1.1.length) (Option.bind (c37 ((cutL c.2.1.1 e.2 (lenI c.2.1.1)),(10,()))) λf=>qU (λ(d:((Int×Unit)×((Str×(Int×Unit))×Unit))->Option (Option (((Str×(Int×Unit))×Unit)×(Bool×Unit))))=>cond (ilt f.1 0) (d (((isub .i64 (lenI c.2.1.1) e.2),()),((c.2.1.1,(e.2,())),()))) (d ((f.1,()),((c.2.1.1,(e.2,())),())))) (λ(g:((Int×Unit)×((Str×(Int×Unit))×Unit)))=>some (some (((g.2.1.1,((iadd .i64 g.2.1.2.1 g.1.1),())),()),(true,()))))) (none)) (Option.bind (c36 ([47,42],()) c.2.1.1 e.2) λf=>cond (!f.1.1) (some (some (((c.2.1.1,(f.2,())),()),(false,())))) (cond (inS (iadd .i64 f.2 2) (lenI c.2.1.1) c.2.1.1.length) (Option.bind (c38 ((cutL c.2.1.1 (iadd .i64 f.2 2) (lenI c.2.1.1)),([42,47],()))) λh=>cond (ilt h.1 0) (some (some (((c.2.1.1,(f.2,())),()),(false,())))) (some (some (((c.2.1.1,((iadd .i64 f.2 (iadd .i64 h.1 4)),())),()),(true,()))))) (none))))
theorem eq18:@run18=@sh18:=by kernel_rfl
def sh39(fu:Nat)(c35:(Int×Unit)->Str->Int->(Option (Int×Unit)))(x:((Str×(Int×Unit))×Unit))(a:Unit):(Option (Option (((Str×(Int×Unit))×Unit)×(Int×Unit)))):=iter fu (λ(c:((Int×Unit)×((Str×(Int×Unit))×Unit))->Option (Option (((Str×(Int×Unit))×Unit)×(Int×Unit))))(b:((Int×Unit)×((Str×(Int×Unit))×Unit)))=>Option.bind (c35 (b.1.1,()) b.2.1.1 b.2.1.2.1) λe=>cond (ieq e.1 95) (c (((iadd .i64 b.1.1 1),()),b.2)) (cond (ile 97 e.1) (cond (ile e.1 122) (c (((iadd .i64 b.1.1 1),()),b.2)) (cond (ile 65 e.1) (cond (ile e.1 90) (c (((iadd .i64 b.1.1 1),()),b.2)) (cond (ilt 0 b.1.1) (Option.bind (c35 (b.1.1,()) b.2.1.1 b.2.1.2.1) λd=>cond (ile 48 d.1) (cond (ile d.1 57) (c (((iadd .i64 b.1.1 1),()),b.2)) (some (some (b.2,(b.1.1,()))))) (some (some (b.2,(b.1.1,()))))) (some (some (b.2,(b.1.1,())))))) (cond (ilt 0 b.1.1) (Option.bind (c35 (b.1.1,()) b.2.1.1 b.2.1.2.1) λd=>cond (ile 48 d.1) (cond (ile d.1 57) (c (((iadd .i64 b.1.1 1),()),b.2)) (some (some (b.2,(b.1.1,()))))) (some (some (b.2,(b.1.1,()))))) (some (some (b.2,(b.1.1,()))))))) (cond (ile 65 e.1) (cond (ile e.1 90) (c (((iadd .i64 b.1.1 1),()),b.2)) (cond (ilt 0 b.1.1) (Option.bind (c35 (b.1.1,()) b.2.1.1 b.2.1.2.1) λd=>cond (ile 48 d.1) (cond (ile d.1 57) (c (((iadd .i64 b.1.1 1),()),b.2)) (some (some (b.2,(b.1.1,()))))) (some (some (b.2,(b.1.1,()))))) (some (some (b.2,(b.1.1,())))))) (cond (ilt 0 b.1.1) (Option.bind (c35 (b.1.1,()) b.2.1.1 b.2.1.2.1) λd=>cond (ile 48 d.1) (cond (ile d.1 57) (c (((iadd .i64 b.1.1 1),()),b.2)) (some (some (b.2,(b.1.1,()))))) (some (some (b.2,(b.1.1,()))))) (some (some (b.2,(b.1.1,())))))))) ((0,()),x)
theorem eq39:@run39=@sh39:=by kernel_rfl
def sh40(fu:Nat)(c37:(Str×(Int×Unit))->(Option (Int×Unit)))(c35:(Int×Unit)->Str->Int->(Option (Int×Unit)))(x:((Str×(Int×Unit))×Unit))(a:Unit):(Option (Option (((Str×(Int×Unit))×Unit)×(Int×Unit)))):=Option.bind (c35 (0,()) x.1.1 x.1.2.1) λi=>cond (ile 48 i.1) (cond (!(ile i.1 57)) (Option.bind (c35 (0,()) x.1.1 x.1.2.1) λe=>cond (ine e.1 46) (some (some (x,(0,())))) (Option.bind (c35 (1,()) x.1.1 x.1.2.1) λf=>cond (ile 48 f.1) (cond (!(ile f.1 57)) (some (some (x,(0,())))) (iter fu (λ(c:((Int×Unit)×((Str×(Int×Unit))×Unit))->Option (Option (((Str×(Int×Unit))×Unit)×(Int×Unit))))(b:((Int×Unit)×((Str×(Int×Unit))×Unit)))=>Option.bind (c35 (b.1.1,()) b.2.1.1 b.2.1.2.1) λd=>Option.bind (c35 ((iadd .i64 b.1.1 1),()) b.2.1.1 b.2.1.2.1) λg=>Option.bind (c37 ([101,69,112,80],(d.1,()))) λh=>cond (ile 0 h.1) (cond (ieq g.1 43) (c (((iadd .i64 b.1.1 2),()),b.2)) (cond (ieq g.1 45) (c (((iadd .i64 b.1.1 2),()),b.2)) (cond (ieq d.1 95) (c (((iadd .i64 b.1.1 1),()),b.2)) (cond (ile 97 d.1) (cond (ile d.1 122) (c (((iadd .i64 b.1.1 1),()),b.2)) (cond (ile 65 d.1) (cond (ile d.1 90) (c (((iadd .i64 b.1.1 1),()),b.2)) (cond (ile 48 d.1) (cond (ile d.1 57) (c (((iadd .i64 b.1.1 1),()),b.2)) (cond (ieq d.1 46) (c (((iadd .i64 b.1.1 1),()),b.2)) (some (some (b.2,(b.1.1,())))))) (cond (ieq d.1 46) (c (((iadd .i64 b.1.1 1),()),b.2)) (some (some (b.2,(b.1.1,()))))))) (cond (ile 48 d.1) (cond (ile d.1 57) (c (((iadd .i64 b.1.1 1),()),b.2)) (cond (ieq d.1 46) (c (((iadd .i64 b.1.1 1),()),b.2)) (some (some (b.2,(b.1.1,())))))) (cond (ieq d.1 46) (c (((iadd .i64 b.1.1 1),()),b.2)) (some (some (b.2,(b.1.1,())))))))) (cond (ile 65 d.1) (cond (ile d.1 90) (c (((iadd .i64 b.1.1 1),()),b.2)) (cond (ile 48 d.1) (cond (ile d.1 57) (c (((iadd .i64 b.1.1 1),()),b.2)) (cond (ieq d.1 46) (c (((iadd .i64 b.1.1 1),()),b.2)) (some (some (b.2,(b.1.1,())))))) (cond (ieq d.1 46) (c (((iadd .i64 b.1.1 1),()),b.2)) (some (some (b.2,(b.1.1,()))))))) (cond (ile 48 d.1) (cond (ile d.1 57) (c (((iadd .i64 b.1.1 1),()),b.2)) (cond (ieq d.1 46) (c (((iadd .i64 b.1.1 1),()),b.2)) (some (some (b.2,(b.1.1,())))))) (cond (ieq d.1 46) (c (((iadd .i64 b.1.1 1),()),b.2)) (some (some (b.2,(b.1.1,()))))))))))) (cond (ieq d.1 95) (c (((iadd .i64 b.1.1 1),()),b.2)) (cond (ile 97 d.1) (cond (ile d.1 122) (c (((iadd .i64 b.1.1 1),()),b.2)) (cond (ile 65 d.1) (cond (ile d.1 90) (c (((iadd .i64 b.1.1 1),()),b.2)) (cond (ile 48 d.1) (cond (ile d.1 57) (c (((iadd .i64 b.1.1 1),()),b.2)) (cond (ieq d.1 46) (c (((iadd .i64 b.1.1 1),()),b.2)) (some (some (b.2,(b.1.1,())))))) (cond (ieq d.1 46) (c (((iadd .i64 b.1.1 1),()),b.2)) (some (some (b.2,(b.1.1,()))))))) (cond (ile 48 d.1) (cond (ile d.1 57) (c (((iadd .i64 b.1.1 1),()),b.2)) (cond (ieq d.1 46) (c (((iadd .i64 b.1.1 1),()),b.2)) (some (some (b.2,(b.1.1,())))))) (cond (ieq d.1 46) (c (((iadd .i64 b.1.1 1),()),b.2)) (some (some (b.2,(b.1.1,())))))))) (cond (ile 65 d.1) (cond (ile d.1 90) (c (((iadd .i64 b.1.1 1),()),b.2)) (cond (ile 48 d.1) (cond (ile d.1 57) (c (((iadd .i64 b.1.1 1),()),b.2)) (cond (ieq d.1 46) (c (((iadd .i64 b.1.1 1),()),b.2)) (some (some (b.2,(b.1.1,())))))) (cond (ieq d.1 46) (c (((iadd .i64 b.1.1 1),()),b.2)) (some (some (b.2,(b.1.1,()))))))) (cond (ile 48 d.1) (cond (ile d.1 57) (c (((iadd .i64 b.1.1 1),()),b.2)) (cond (ieq d.1 46) (c (((iadd .i64 b.1.1 1),()),b.2)) (some (some (b.2,(b.1.1,())))))) (cond (ieq d.1 46) (c (((iadd .i64 b.1.1 1),()),b.2)) (some (some (b.2,(b.1.1,())))))))))) ((1,()),x))) (some (some (x,(0,())))))) (iter fu (λ(c:((Int×Unit)×((Str×(Int×Unit))×Unit))->Option (Option (((Str×(Int×Unit))×Unit)×(Int×Unit))))(b:((Int×Unit)×((Str×(Int×Unit))×Unit)))=>Option.bind (c35 (b.1.1,()) b.2.1.1 b.2.1.2.1) λe=>Option.bind (c35 ((iadd .i64 b.1.1 1),()) b.2.1.1 b.2.1.2.1) λf=>Option.bind (c37 ([101,69,112,80],(e.1,()))) λd=>cond (ile 0 d.1) (cond (ieq f.1 43) (c (((iadd .i64 b.1.1 2),()),b.2)) (cond (ieq f.1 45) (c (((iadd .i64 b.1.1 2),()),b.2)) (cond (ieq e.1 95) (c (((iadd .i64 b.1.1 1),()),b.2)) (cond (ile 97 e.1) (cond (ile e.1 122) (c (((iadd .i64 b.1.1 1),()),b.2)) (cond (ile 65 e.1) (cond (ile e.1 90) (c (((iadd .i64 b.1.1 1),()),b.2)) (cond (ile 48 e.1) (cond (ile e.1 57) (c (((iadd .i64 b.1.1 1),()),b.2)) (cond (ieq e.1 46) (c (((iadd .i64 b.1.1 1),()),b.2)) (some (some (b.2,(b.1.1,())))))) (cond (ieq e.1 46) (c (((iadd .i64 b.1.1 1),()),b.2)) (some (some (b.2,(b.1.1,()))))))) (cond (ile 48 e.1) (cond (ile e.1 57) (c (((iadd .i64 b.1.1 1),()),b.2)) (cond (ieq e.1 46) (c (((iadd .i64 b.1.1 1),()),b.2)) (some (some (b.2,(b.1.1,())))))) (cond (ieq e.1 46) (c (((iadd .i64 b.1.1 1),()),b.2)) (some (some (b.2,(b.1.1,())))))))) (cond (ile 65 e.1) (cond (ile e.1 90) (c (((iadd .i64 b.1.1 1),()),b.2)) (cond (ile 48 e.1) (cond (ile e.1 57) (c (((iadd .i64 b.1.1 1),()),b.2)) (cond (ieq e.1 46) (c (((iadd .i64 b.1.1 1),()),b.2)) (some (some (b.2,(b.1.1,())))))) (cond (ieq e.1 46) (c (((iadd .i64 b.1.1 1),()),b.2)) (some (some (b.2,(b.1.1,()))))))) (cond (ile 48 e.1) (cond (ile e.1 57) (c (((iadd .i64 b.1.1 1),()),b.2)) (cond (ieq e.1 46) (c (((iadd .i64 b.1.1 1),()),b.2)) (some (some (b.2,(b.1.1,())))))) (cond (ieq e.1 46) (c (((iadd .i64 b.1.1 1),()),b.2)) (some (some (b.2,(b.1.1,()))))))))))) (cond (ieq e.1 95) (c (((iadd .i64 b.1.1 1),()),b.2)) (cond (ile 97 e.1) (cond (ile e.1 122) (c (((iadd .i64 b.1.1 1),()),b.2)) (cond (ile 65 e.1) (cond (ile e.1 90) (c (((iadd .i64 b.1.1 1),()),b.2)) (cond (ile 48 e.1) (cond (ile e.1 57) (c (((iadd .i64 b.1.1 1),()),b.2)) (cond (ieq e.1 46) (c (((iadd .i64 b.1.1 1),()),b.2)) (some (some (b.2,(b.1.1,())))))) (cond (ieq e.1 46) (c (((iadd .i64 b.1.1 1),()),b.2)) (some (some (b.2,(b.1.1,()))))))) (cond (ile 48 e.1) (cond (ile e.1 57) (c (((iadd .i64 b.1.1 1),()),b.2)) (cond (ieq e.1 46) (c (((iadd .i64 b.1.1 1),()),b.2)) (some (some (b.2,(b.1.1,())))))) (cond (ieq e.1 46) (c (((iadd .i64 b.1.1 1),()),b.2)) (some (some (b.2,(b.1.1,())))))))) (cond (ile 65 e.1) (cond (ile e.1 90) (c (((iadd .i64 b.1.1 1),()),b.2)) (cond (ile 48 e.1) (cond (ile e.1 57) (c (((iadd .i64 b.1.1 1),()),b.2)) (cond (ieq e.1 46) (c (((iadd .i64 b.1.1 1),()),b.2)) (some (some (b.2,(b.1.1,())))))) (cond (ieq e.1 46) (c (((iadd .i64 b.1.1 1),()),b.2)) (some (some (b.2,(b.1.1,()))))))) (cond (ile 48 e.1) (cond (ile e.1 57) (c (((iadd .i64 b.1.1 1),()),b.2)) (cond (ieq e.1 46) (c (((iadd .i64 b.1.1 1),()),b.2)) (some (some (b.2,(b.1.1,())))))) (cond (ieq e.1 46) (c (((iadd .i64 b.1.1 1),()),b.2)) (some (some (b.2,(b.1.1,())))))))))) ((1,()),x))) (Option.bind (c35 (0,()) x.1.1 x.1.2.1) λe=>cond (ine e.1 46) (some (some (x,(0,())))) (Option.bind (c35 (1,()) x.1.1 x.1.2.1) λf=>cond (ile 48 f.1) (cond (!(ile f.1 57)) (some (some (x,(0,())))) (iter fu (λ(c:((Int×Unit)×((Str×(Int×Unit))×Unit))->Option (Option (((Str×(Int×Unit))×Unit)×(Int×Unit))))(b:((Int×Unit)×((Str×(Int×Unit))×Unit)))=>Option.bind (c35 (b.1.1,()) b.2.1.1 b.2.1.2.1) λd=>Option.bind (c35 ((iadd .i64 b.1.1 1),()) b.2.1.1 b.2.1.2.1) λg=>Option.bind (c37 ([101,69,112,80],(d.1,()))) λh=>cond (ile 0 h.1) (cond (ieq g.1 43) (c (((iadd .i64 b.1.1 2),()),b.2)) (cond (ieq g.1 45) (c (((iadd .i64 b.1.1 2),()),b.2)) (cond (ieq d.1 95) (c (((iadd .i64 b.1.1 1),()),b.2)) (cond (ile 97 d.1) (cond (ile d.1 122) (c (((iadd .i64 b.1.1 1),()),b.2)) (cond (ile 65 d.1) (cond (ile d.1 90) (c (((iadd .i64 b.1.1 1),()),b.2)) (cond (ile 48 d.1) (cond (ile d.1 57) (c (((iadd .i64 b.1.1 1),()),b.2)) (cond (ieq d.1 46) (c (((iadd .i64 b.1.1 1),()),b.2)) (some (some (b.2,(b.1.1,())))))) (cond (ieq d.1 46) (c (((iadd .i64 b.1.1 1),()),b.2)) (some (some (b.2,(b.1.1,()))))))) (cond (ile 48 d.1) (cond (ile d.1 57) (c (((iadd .i64 b.1.1 1),()),b.2)) (cond (ieq d.1 46) (c (((iadd .i64 b.1.1 1),()),b.2)) (some (some (b.2,(b.1.1,())))))) (cond (ieq d.1 46) (c (((iadd .i64 b.1.1 1),()),b.2)) (some (some (b.2,(b.1.1,())))))))) (cond (ile 65 d.1) (cond (ile d.1 90) (c (((iadd .i64 b.1.1 1),()),b.2)) (cond (ile 48 d.1) (cond (ile d.1 57) (c (((iadd .i64 b.1.1 1),()),b.2)) (cond (ieq d.1 46) (c (((iadd .i64 b.1.1 1),()),b.2)) (some (some (b.2,(b.1.1,())))))) (cond (ieq d.1 46) (c (((iadd .i64 b.1.1 1),()),b.2)) (some (some (b.2,(b.1.1,()))))))) (cond (ile 48 d.1) (cond (ile d.1 57) (c (((iadd .i64 b.1.1 1),()),b.2)) (cond (ieq d.1 46) (c (((iadd .i64 b.1.1 1),()),b.2)) (some (some (b.2,(b.1.1,())))))) (cond (ieq d.1 46) (c (((iadd .i64 b.1.1 1),()),b.2)) (some (some (b.2,(b.1.1,()))))))))))) (cond (ieq d.1 95) (c (((iadd .i64 b.1.1 1),()),b.2)) (cond (ile 97 d.1) (cond (ile d.1 122) (c (((iadd .i64 b.1.1 1),()),b.2)) (cond (ile 65 d.1) (cond (ile d.1 90) (c (((iadd .i64 b.1.1 1),()),b.2)) (cond (ile 48 d.1) (cond (ile d.1 57) (c (((iadd .i64 b.1.1 1),()),b.2)) (cond (ieq d.1 46) (c (((iadd .i64 b.1.1 1),()),b.2)) (some (some (b.2,(b.1.1,())))))) (cond (ieq d.1 46) (c (((iadd .i64 b.1.1 1),()),b.2)) (some (some (b.2,(b.1.1,()))))))) (cond (ile 48 d.1) (cond (ile d.1 57) (c (((iadd .i64 b.1.1 1),()),b.2)) (cond (ieq d.1 46) (c (((iadd .i64 b.1.1 1),()),b.2)) (some (some (b.2,(b.1.1,())))))) (cond (ieq d.1 46) (c (((iadd .i64 b.1.1 1),()),b.2)) (some (some (b.2,(b.1.1,())))))))) (cond (ile 65 d.1) (cond (ile d.1 90) (c (((iadd .i64 b.1.1 1),()),b.2)) (cond (ile 48 d.1) (cond (ile d.1 57) (c (((iadd .i64 b.1.1 1),()),b.2)) (cond (ieq d.1 46) (c (((iadd .i64 b.1.1 1),()),b.2)) (some (some (b.2,(b.1.1,())))))) (cond (ieq d.1 46) (c (((iadd .i64 b.1.1 1),()),b.2)) (some (some (b.2,(b.1.1,()))))))) (cond (ile 48 d.1) (cond (ile d.1 57) (c (((iadd .i64 b.1.1 1),()),b.2)) (cond (ieq d.1 46) (c (((iadd .i64 b.1.1 1),()),b.2)) (some (some (b.2,(b.1.1,())))))) (cond (ieq d.1 46) (c (((iadd .i64 b.1.1 1),()),b.2)) (some (some (b.2,(b.1.1,())))))))))) ((1,()),x))) (some (some (x,(0,()))))))
theorem eq40:@run40=@sh40:=by kernel_rfl
def sh41(fu:Nat)(c35:(Int×Unit)->Str->Int->(Option (Int×Unit)))(x:((Str×(Int×Unit))×Unit))(a:(Int×Unit)):(Option (Option (((Str×(Int×Unit))×Unit)×(Int×Unit)))):=cond (ieq x.1.2.1 (lenI x.1.1)) (some (some (x,(0,())))) (Option.bind (c35 (0,()) x.1.1 x.1.2.1) λe=>cond (ine e.1 a.1) (some (some (x,(0,())))) (iter fu (λ(c:((Int×Unit)×((Str×(Int×Unit))×Unit))->Option (Option (((Str×(Int×Unit))×Unit)×(Int×Unit))))(b:((Int×Unit)×((Str×(Int×Unit))×Unit)))=>cond (ilt (iadd .i64 b.2.1.2.1 b.1.1) (lenI b.2.1.1)) (Option.bind (c35 (b.1.1,()) b.2.1.1 b.2.1.2.1) λd=>cond (ieq d.1 a.1) (cond (ieq a.1 39) (cond (ieq b.1.1 1) (some (some (b.2,(0,())))) (some (some (b.2,((iadd .i64 b.1.1 1),()))))) (some (some (b.2,((iadd .i64 b.1.1 1),()))))) (cond (ieq d.1 10) (some (some (b.2,(0,())))) (cond (ieq d.1 92) (Option.bind (c35 ((iadd .i64 b.1.1 1),()) b.2.1.1 b.2.1.2.1) λf=>cond (ieq f.1 10) (cond (ilt (iadd .i64 b.2.1.2.1 (iadd .i64 b.1.1 1)) (lenI b.2.1.1)) (some (some (b.2,(0,())))) (c (((iadd .i64 (iadd .i64 b.1.1 1) 1),()),b.2))) (c (((iadd .i64 (iadd .i64 b.1.1 1) 1),()),b.2))) (c (((iadd .i64 b.1.1 1),()),b.2))))) (some (some (b.2,(0,()))))) ((1,()),x)))
theorem eq41:@run41=@sh41:=by kernel_rfl
def sh42(fu:Nat)(c36:(Str×Unit)->Str->Int->(Option ((Bool×Unit)×Int)))(x:((Str×(Int×Unit))×Unit))(a:Unit):(Option (Option (((Str×(Int×Unit))×Unit)×(Int×Unit)))):=iter fu (λ(c:((Int×(Int×Unit))×((Str×(Int×Unit))×Unit))->Option (Option (((Str×(Int×Unit))×Unit)×(Int×Unit))))(b:((Int×(Int×Unit))×((Str×(Int×Unit))×Unit)))=>cond (ilt b.1.2.1 48) (cond (inB b.1.2.1 48) (cond (ile (lenI (α:=UInt8) (List.getD [[46,46,46],[60,60,61],[62,62,61],[45,62],[43,43],[45,45],[60,60],[62,62],[60,61],[62,61],[61,61],[33,61],[38,38],[124,124],[42,61],[47,61],[37,61],[43,61],[45,61],[38,61],[94,61],[124,61],[35,35],[91],[93],[40],[41],[123],[125],[46],[38],[42],[43],[45],[126],[33],[47],[37],[60],[62],[94],[124],[63],[58],[59],[61],[44],[35]] b.1.2.1.toNat [])) b.1.1) (c ((b.1.1,((iadd .i64 b.1.2.1 1),())),b.2)) (Option.bind (c36 ((List.getD [[46,46,46],[60,60,61],[62,62,61],[45,62],[43,43],[45,45],[60,60],[62,62],[60,61],[62,61],[61,61],[33,61],[38,38],[124,124],[42,61],[47,61],[37,61],[43,61],[45,61],[38,61],[94,61],[124,61],[35,35],[91],[93],[40],[41],[123],[125],[46],[38],[42],[43],[45],[126],[33],[47],[37],[60],[62],[94],[124],[63],[58],[59],[61],[44],[35]] b.1.2.1.toNat []),()) b.2.1.1 b.2.1.2.1) λd=>cond (!d.1.1) (c ((b.1.1,((iadd .i64 b.1.2.1 1),())),((b.2.1.1,(d.2,())),()))) (c (((lenI (α:=UInt8) (List.getD [[46,46,46],[60,60,61],[62,62,61],[45,62],[43,43],[45,45],[60,60],[62,62],[60,61],[62,61],[61,61],[33,61],[38,38],[124,124],[42,61],[47,61],[37,61],[43,61],[45,61],[38,61],[94,61],[124,61],[35,35],[91],[93],[40],[41],[123],[125],[46],[38],[42],[43],[45],[126],[33],[47],[37],[60],[62],[94],[124],[63],[58],[59],[61],[44],[35]] b.1.2.1.toNat [])),((iadd .i64 b.1.2.1 1),())),((b.2.1.1,(d.2,())),()))))) (none)) (some (some (b.2,(b.1.1,()))))) ((0,(0,())),x)
theorem eq42:@run42=@sh42:=by kernel_rfl
def sh19(fu:Nat)(c36:(Str×Unit)->Str->Int->(Option ((Bool×Unit)×Int)))(c39:Unit->Str->Int->(Option ((Int×Unit)×Int)))(c40:Unit->Str->Int->(Option ((Int×Unit)×Int)))(c41:(Int×Unit)->Str->Int->(Option ((Int×Unit)×Int)))(c42:Unit->Str->Int->(Option ((Int×Unit)×Int)))(x:((Str×(Int×Unit))×Unit))(a:Unit):(Option (Option (((Str×(Int×Unit))×Unit)×(Int×(Int×Unit))))):=Option.bind (c36 ([10],()) x.1.1 x.1.2.1) λg=>cond g.1.1 (some (some (((x.1.1,(g.2,())),()),(7,(1,()))))) (Option.bind (c39 () x.1.1 g.2) λb=>cond (ilt 0 b.1.1) (some (some (((x.1.1,(b.2,())),()),(1,(b.1.1,()))))) (Option.bind (c40 () x.1.1 b.2) λc=>cond (ilt 0 c.1.1) (some (some (((x.1.1,(c.2,())),()),(2,(c.1.1,()))))) (Option.bind (c41 (34,()) x.1.1 c.2) λd=>cond (ilt 0 d.1.1) (some (some (((x.1.1,(d.2,())),()),(4,(d.1.1,()))))) (Option.bind (c41 (39,()) x.1.1 d.2) λe=>cond (ilt 0 e.1.1) (some (some (((x.1.1,(e.2,())),()),(3,(e.1.1,()))))) (Option.bind (c42 () x.1.1 e.2) λf=>cond (ilt 0 f.1.1) (some (some (((x.1.1,(f.2,())),()),(5,(f.1.1,()))))) (some (some (((x.1.1,(f.2,())),()),(6,(1,()))))))))))
theorem eq19:@run19=@sh19:=by kernel_rfl
theorem con36(fu:Nat) :CQ 36 (cD kS kB (mD (sh36 fu))):=
 zE5 (rpk (lo:=[]) (lr:=[]) (zK zQT (zK zQE zD)) zD zD zD fdok36 rfl (λx a=>by rw[<-eq36];rfl))
theorem con18(fu:Nat)(c37:zS as37->Option (zS rs37))(b:ConOk CC Tryz.prog 37 ⟨as37,rs37,c37⟩)(c38:zS as38->Option (zS rs38))(c:ConOk CC Tryz.prog 38 ⟨as38,rs38,c38⟩)(c35:zA kI->Str->Int->Option (zA ([.int .u8]:LK)))(d:CROk CC Tryz.prog 35 (cRD kI ([.int .u8]:LK) c35))(c36:zA kS->DD (zA kB))(e:CQ 36 (cD kS kB c36)):CQ 18 (cD k0 kB (mD (sh18 fu c37 c38 c35 c36))):=
 zE5 (rpk zD (zK (OrcOk.of ⟨zR1,b⟩ rfl) (zK (OrcOk.of ⟨code38,c⟩ rfl) zD)) (zK ⟨zIz,d⟩ zD) (zK ⟨zMz,e⟩ zD) fdok18 rfl (λx a=>by rw[<-eq18];rfl))
theorem con39(fu:Nat)(c35:zA kI->Str->Int->Option (zA ([.int .u8]:LK)))(b:CROk CC Tryz.prog 35 (cRD kI ([.int .u8]:LK) c35)):CQ 39 (cD k0 kI (mD (sh39 fu c35))):=
 zE5 (rpk (lo:=[]) (lr:=[(35,cRD kI ([.int .u8]:LK) c35)]) (zK zRd (zK zQf zD)) zD (zK ⟨zIz,b⟩ zD) zD fdok39 rfl (λx a=>by rw[<-eq39];rfl))
theorem con40(fu:Nat)(c37:zS as37->Option (zS rs37))(b:ConOk CC Tryz.prog 37 ⟨as37,rs37,c37⟩)(c35:zA kI->Str->Int->Option (zA ([.int .u8]:LK)))(c:CROk CC Tryz.prog 35 (cRD kI ([.int .u8]:LK) c35)):CQ 40 (cD k0 kI (mD (sh40 fu c37 c35))):=
 zE5 (rpk (lo:=[(37,(⟨as37,rs37,c37⟩:Con UU))]) (lr:=[(35,cRD kI ([.int .u8]:LK) c35)]) (zK zRA (zK zQx zD)) (zK (OrcOk.of ⟨zR1,b⟩ rfl) zD) (zK ⟨zIz,c⟩ zD) zD fdok40 rfl (λx a=>by rw[<-eq40];rfl))
theorem con41(fu:Nat)(c35:zA kI->Str->Int->Option (zA ([.int .u8]:LK)))(b:CROk CC Tryz.prog 35 (cRD kI ([.int .u8]:LK) c35)):CQ 41 (cD ([.int .u8]:LK) kI (mD (sh41 fu c35))):=
 zE5 (rpk zD zD (zK ⟨zIz,b⟩ zD) zD fdok41 rfl (λx a=>by rw[<-eq41];rfl))
theorem con42(fu:Nat)(c36:zA kS->DD (zA kB))(b:CQ 36 (cD kS kB c36)):CQ 42 (cD k0 kI (mD (sh42 fu c36))):=
 zE5 (rpk zD zD zD (zK ⟨zMz,b⟩ zD) fdok42 rfl (λx a=>by rw[<-eq42];rfl))
theorem con19(fu:Nat)(c36:zA kS->DD (zA kB))(b:CQ 36 (cD kS kB c36))(c39:zA k0->DD (zA kI))(c:CQ 39 (cD k0 kI c39))(c40:zA k0->DD (zA kI))(d:CQ 40 (cD k0 kI c40))(c41:zA ([.int .u8]:LK)->DD (zA kI))(e:CQ 41 (cD ([.int .u8]:LK) kI c41))(c42:zA k0->DD (zA kI))(f:CQ 42 (cD k0 kI c42)):CQ 19 (cD k0 ([.int .i64,.int .i64]:LK) (mD (sh19 fu c36 c39 c40 c41 c42))):=
 zE5 (rpk zD zD zD (zK ⟨zMz,b⟩ (zK ⟨code39,c⟩ (zK ⟨code40,d⟩ (zK ⟨code41,e⟩ (zK ⟨code42,f⟩ zD))))) fdok19 rfl (λx a=>by rw[<-eq19];rfl))
end
section
open Go.Al Go.Den
def sh9(fu:Nat)(c16:(Str×Unit)->(Option ((List CharT)×Unit)))(c17:((List CharT)×Unit)->(Option (Str×Unit)))(c18:Unit->Str->Int->(Option ((Bool×Unit)×Int)))(c19:Unit->Str->Int->(Option ((Int×(Int×Unit))×Int)))(k:Nat->Bool)(h:Int)(i:Str):(Option (LT×Unit)):=Option.bind (c16 (i,())) λd=>Option.bind (c17 (d.1,())) λj=>iter fu (λ(e:((LT×Unit)×((Str×(Int×Unit))×Unit))->Option (LT×Unit))(g:((LT×Unit)×((Str×(Int×Unit))×Unit)))=>iter fu (λ(f:((LT×Unit)×((Str×(Int×Unit))×((Int×(Str×(Int×(Int×(Int×(Bool×Unit))))))×Unit)))->Option (LT×Unit))(a:((LT×Unit)×((Str×(Int×Unit))×((Int×(Str×(Int×(Int×(Int×(Bool×Unit))))))×Unit))))=>cond (ilt a.2.1.2.1 (lenI a.2.1.1)) (Option.bind (c18 () a.2.1.1 a.2.1.2.1) λb=>cond b.1.1 (f ((a.1.1,()),((a.2.1.1,(b.2,())),((a.2.2.1.1,(a.2.2.1.2.1,(a.2.2.1.2.2.1,(a.2.2.1.2.2.2.1,(a.2.2.1.2.2.2.2.1,(true,())))))),())))) (cond (ile (lenI a.2.1.1) b.2) (some (a.1.1,())) (Option.bind (c19 () a.2.1.1 b.2) λc=>cond (inS c.2 (iadd .i64 c.2 c.1.2.1) a.2.1.1.length) (cond (inB c.2 d.1.length) (cond (inB (isub .i64 (iadd .i64 c.2 c.1.2.1) 1) d.1.length) (cond (okN 56 (a.1.1.length+(List.length [(TokT.mk c.1.1 (cutL a.2.1.1 c.2 (iadd .i64 c.2 c.1.2.1)) a.2.2.1.2.2.1 (CharT.fat (List.getD d.1 c.2.toNat zCp)) (iadd .i64 (CharT.fat (List.getD d.1 (Int.toNat (isub .i64 (iadd .i64 c.2 c.1.2.1) 1)) zCp)) 1) a.2.2.1.2.2.2.2.2.1)]))) (e (((a.1.1++[(TokT.mk c.1.1 (cutL a.2.1.1 c.2 (iadd .i64 c.2 c.1.2.1)) a.2.2.1.2.2.1 (CharT.fat (List.getD d.1 c.2.toNat zCp)) (iadd .i64 (CharT.fat (List.getD d.1 (Int.toNat (isub .i64 (iadd .i64 c.2 c.1.2.1) 1)) zCp)) 1) a.2.2.1.2.2.2.2.2.1)]),()),((a.2.1.1,((iadd .i64 c.2 c.1.2.1),())),()))) (none)) (none)) (none)) (none)))) (cond (ile (lenI a.2.1.1) a.2.1.2.1) (some (a.1.1,())) (Option.bind (c19 () a.2.1.1 a.2.1.2.1) λb=>cond (inS b.2 (iadd .i64 b.2 b.1.2.1) a.2.1.1.length) (cond (inB b.2 d.1.length) (cond (inB (isub .i64 (iadd .i64 b.2 b.1.2.1) 1) d.1.length) (cond (okN 56 (a.1.1.length+(List.length [(TokT.mk b.1.1 (cutL a.2.1.1 b.2 (iadd .i64 b.2 b.1.2.1)) a.2.2.1.2.2.1 (CharT.fat (List.getD d.1 b.2.toNat zCp)) (iadd .i64 (CharT.fat (List.getD d.1 (Int.toNat (isub .i64 (iadd .i64 b.2 b.1.2.1) 1)) zCp)) 1) a.2.2.1.2.2.2.2.2.1)]))) (e (((a.1.1++[(TokT.mk b.1.1 (cutL a.2.1.1 b.2 (iadd .i64 b.2 b.1.2.1)) a.2.2.1.2.2.1 (CharT.fat (List.getD d.1 b.2.toNat zCp)) (iadd .i64 (CharT.fat (List.getD d.1 (Int.toNat (isub .i64 (iadd .i64 b.2 b.1.2.1) 1)) zCp)) 1) a.2.2.1.2.2.2.2.2.1)]),()),((a.2.1.1,((iadd .i64 b.2 b.1.2.1),())),()))) (none)) (none)) (none)) (none)))) ((g.1.1,()),((g.2.1.1,(g.2.1.2.1,())),((0,([],(h,(0,(0,(false,())))))),())))) (([],()),((j.1,(0,())),()))
theorem eq9:@run9=@sh9:=by kernel_rfl
theorem con9(fu:Nat)(c16:zS as16->Option (zS rs16))(a:ConOk CC Tryz.prog 16 ⟨as16,rs16,c16⟩)(c17:zS as17->Option (zS rs17))(b:ConOk CC Tryz.prog 17 ⟨as17,rs17,c17⟩)(c18:zA k0->DD (zA kB))(c:CQ 18 (cD k0 kB c18))(c19:zA k0->DD (zA ([.int .i64,.int .i64]:LK)))(d:CQ 19 (cD k0 ([.int .i64,.int .i64]:LK) c19)):ConOk CC Tryz.prog 9 ⟨as9,rs9,λx=>sh9 fu c16 c17 c18 c19 (λ_=>false) x.1 x.2.1⟩:=
 rfk zD (zK (OrcOk.of ⟨code16,a⟩ rfl) (zK (OrcOk.of ⟨code17,b⟩ rfl) zD)) zD (zK ⟨code18,c⟩ (zK ⟨code19,d⟩ zD)) fdok9 rfl (ya rfl) (λe x=>by show run9 fu c16 c17 c18 c19 e x.1 x.2.1=_;rw[eq9];rfl)
end
section
open Go.Al Go.Den
noncomputable def c36:zA ([.str]:LK)->DD (zA ([.bool]:LK)):=mD (sh36 0)
theorem ok36:CPOk CC Tryz.prog syn 36 (cD ([.str]:LK) ([.bool]:LK) c36):=con36 0
noncomputable def c39(fu:Nat):zA ([]:LK)->DD (zA ([.int .i64]:LK)):=mD (sh39 fu c35)
theorem ok39(fu:Nat):CPOk CC Tryz.prog syn 39 (cD ([]:LK) ([.int .i64]:LK) (c39 fu)):=con39 fu c35 ok35
noncomputable def c40(fu:Nat):zA ([]:LK)->DD (zA ([.int .i64]:LK)):=mD (sh40 fu c37 c35)
theorem ok40(fu:Nat):CPOk CC Tryz.prog syn 40 (cD ([]:LK) ([.int .i64]:LK) (c40 fu)):=con40 fu c37 ok37 c35 ok35
noncomputable def c41(fu:Nat):zA ([.int .u8]:LK)->DD (zA ([.int .i64]:LK)):=mD (sh41 fu c35)
theorem ok41(fu:Nat):CPOk CC Tryz.prog syn 41 (cD ([.int .u8]:LK) ([.int .i64]:LK) (c41 fu)):=con41 fu c35 ok35
noncomputable def c42(fu:Nat):zA ([]:LK)->DD (zA ([.int .i64]:LK)):=mD (sh42 fu c36)
theorem ok42(fu:Nat):CPOk CC Tryz.prog syn 42 (cD ([]:LK) ([.int .i64]:LK) (c42 fu)):=con42 fu c36 ok36
noncomputable def c19(fu:Nat):zA ([]:LK)->DD (zA ([.int .i64,.int .i64]:LK)):=mD (sh19 fu c36 (c39 fu) (c40 fu) (c41 fu) (c42 fu))
theorem ok19(fu:Nat):CPOk CC Tryz.prog syn 19 (cD ([]:LK) ([.int .i64,.int .i64]:LK) (c19 fu)):=con19 fu c36 ok36 (c39 fu) (ok39 fu) (c40 fu) (ok40 fu) (c41 fu) (ok41 fu) (c42 fu) (ok42 fu)
noncomputable def c18(fu:Nat):zA ([]:LK)->DD (zA ([.bool]:LK)):=mD (sh18 fu c37 c38 c35 c36)
theorem ok18(fu:Nat):CPOk CC Tryz.prog syn 18 (cD ([]:LK) ([.bool]:LK) (c18 fu)):=con18 fu c37 ok37 c38 ok38 c35 ok35 c36 ok36
noncomputable def c9(fu:Nat)(x:Int×Str×Unit):Option (List TokT×Unit):=sh9 fu c16 c17 (c18 fu) (c19 fu) (λ_=>false) x.1 x.2.1
theorem ok9(fu:Nat):ConOk CC Tryz.prog 9 ⟨as9,rs9,c9 fu⟩:=con9 fu c16 ok16 c17 ok17 (c18 fu) (ok18 fu) (c19 fu) (ok19 fu)
end
end Go.Proofs.YtfjiiknfopmcjaaGreatDoor
namespace Go.Al
section
open Go.RowKit
def Mps(ob:List (Nat×OV×List Nat)):List Nat->List MC->Prop
 |[],xs=>xs=[]
 |j::a,xs=>∃c cs,xs=c::cs/\zQ ob j=some (.mp c,[j])/\Mps ob a cs
theorem MMems.length{g:Gh}{w:World}:∀{a:List Nat}{xs:List MC},MMems g w a xs->a.length=xs.length
 |[],_,h=>by rw[show _=[]from h];rfl
 |b::a,_,⟨c,cs,rfl,_,f⟩=>by simp[f.length]
theorem Mps.length{ob:List (Nat×OV×List Nat)}:∀{a:List Nat}{xs:List MC},Mps ob a xs->a.length=xs.length
 |[],_,h=>by rw[show _=[]from h];rfl
 |b::a,_,⟨c,cs,rfl,_,f⟩=>by simp[f.length]
theorem Mps.mem{ob:List (Nat×OV×List Nat)}:∀{f:List Nat}{xs:List MC},Mps ob f xs->∀j∈f,∃c,zQ ob j=some (.mp c,[j])
 |[],_,_,j,a=>by cases a
 |b::f,_,⟨c,cs,_,g,h⟩,j,a=>by
  rcases zWB.1 a with rfl|a
  .exact⟨c,g⟩
  .exact h.mem j a
theorem Mps.mems{B:Nat}{g:Gh}{st:S}{w:World}(hi:Inv B g st w):∀{a:List Nat}{xs:List MC},Mps st.ob a xs->MMems g w a xs
 |[],_,h=>h
 |b::a,_,⟨c,cs,f,i,j⟩=>⟨c,cs,f,by
  have:=(hi.ex.ob b _ _ i).1;exact this.2,Mps.mems hi j⟩
def mcs(a:List Nat):List V:=a.map λj=>.at (.map (some j))
theorem zRD{g:Gh}{w:World}:∀{a:List Nat}{us:List Value},RCs g w (mcs a) us->us=a.map λj=>Value.map (some j)
 |[],us,h=>by simpa [mcs,RCs]using h
 |b::a,us,h=>by
  simp only[mcs,zV6,RCs]at h;obtain⟨i,k,rfl,c,f⟩:=h;simp only[RC]at c;rw[c.1,zRD f];rfl
def zLB(st:S)(b:Nat)(a:List Nat)(xs:List MC)(cap:Nat):S:=⟨wipe st.box b,st.tg,st.nx,(b,.sc xs cap,b::a)::st.ob.filter λp=>!(a.contains p.1)⟩
theorem zPp(st:S)(b:Nat)(a:List Nat)(xs:List MC)(cap j:Nat):zQ (zLB st b a xs cap).ob j=if b=j then some (.sc xs cap,b::a)else if j∈a then none else zQ st.ob j:=by
 show zQ ((b,.sc xs cap,b::a)::st.ob.filter λp=>(λk=>!(a.contains k)) p.1) j=_;rw[zw,show zQ (st.ob.filter λp=>(λk=>!(a.contains k)) p.1) j=_ from zBG (λk=>!(a.contains k)) st.ob j];by_cases e:b=j
 .rw[if_pos e,if_pos e]
 .rw[if_neg e,if_neg e];by_cases c:j∈a<;>simp[c]
theorem Inv.pack{B:Nat}{g:Gh}{st:S}{w:World}(hi:Inv B g st w){b cap:Nat}{o:List Nat}{xs:List MC}(v:look st.box b=some (mcs o,cap))(hn:o.Nodup)(G:Mps st.ob o xs):Inv B g (zLB st b o xs cap) w:=by
 obtain⟨p1,p2,p3,p4,arr,el,us,T,p6,p7,p8⟩:=hi.box b _ _ v;have I:=zRD p7;have J:∀j∈o,j≠b:=λj l e=>by
  obtain⟨c,h⟩:=G.mem j l;have:=((hi.ex.ob j _ _ h).2.2 j (by simp)).2.2.2.1;rw[e,v]at this;cases this
 have i:∀j,look st.box j=none->look (zLB st b o xs cap).box j=none:=λj l=>by
  show look (wipe st.box b) j=none;rw[xA];split
  .rfl
  .exact l
 have k:∀{a o' f},zQ (zLB st b o xs cap).ob a=some (o',f)->(a=b/\o'=.sc xs cap/\f=b::o)\/(zQ st.ob a=some (o',f)/\a≠b/\a∉o):=λ{a o' f} h=>by
  rw[zPp]at h;by_cases e:b=a
  .subst e;rw[if_pos rfl]at h;injection h with h
   obtain⟨u,H⟩:=zYd h;exact .inl ⟨rfl,u.symm,H.symm⟩
  .rw[if_neg e]at h;by_cases x:a∈o
   .rw[if_pos x]at h;cases h
   .rw[if_neg x]at h;exact .inr ⟨h,zW8 e,x⟩
 have m:∀a o' f,zQ st.ob a=some (o',f)->a∉o->∀j∈b::o,j∉f:=λa o' f u H j l y=>by
  rcases zWB.1 l with rfl|l
  .exact(hi.boxFr v).2 a o' f u y
  .obtain⟨c,h⟩:=G.mem j l;have:=hi.ex.obd a o' f j _ _ j u h y (by simp);subst this;exact H l
 refine⟨hi.base,?_,hi.tag,?_,hi.dist,hi.nodup,hi.fresh,hi.names,?_,?_,?_,hi.ex.ft⟩
 .intro a cs' U h;replace h:look (wipe st.box b) a=some (cs',U):=h;rw[xA]at h;split at h
  .cases h
  .exact hi.box a cs' U h
 .intro t M a z n sz p;obtain⟨q,r,s,A,C,D⟩:=hi.own t M a z n sz p;exact⟨q,r,s,A,i a C,D⟩
 .intro a p;obtain⟨q,r,s⟩:=hi.ex.frz a p;exact⟨q,i a r,s⟩
 .intro a o' f h;rcases k h with⟨rfl,rfl,rfl⟩|⟨u,H,h3⟩
  .refine⟨⟨o,arr,el,rfl,zXx.2 ⟨λh=>J a h rfl,hn⟩,T,p6,by simpa [mcs]using p3,by rw[<-I,<-p8];simp[mcs],Mps.mems hi G⟩,by simp,λj l=>?_⟩;rcases zWB.1 l with rfl|l
   .refine⟨p1,(zV8.1 T).1,p2,by show look (wipe st.box j) j=none;rw[xA,if_pos rfl],λt M d hd=>?_,(hi.boxFr v).1⟩;obtain⟨d1,d2,d3⟩:=d;have:=(hi.own t M j d1 d2 d3 hd).2.2.2.2.1;rw[v]at this;cases this
   .obtain⟨c,h⟩:=G.mem j l;obtain⟨q,r,s,A,C,D⟩:=(hi.ex.ob j _ _ h).2.2 j (by simp);exact⟨q,r,s,i j A,C,D⟩
  .obtain⟨q1,q2,q3⟩:=hi.ex.ob a o' f u;refine⟨q1,q2,λj l=>?_⟩;obtain⟨q,r,s,A,C,D⟩:=q3 j l;exact⟨q,r,s,i j A,C,D⟩
 .intro b1 V E W X F j e1 x N O;rcases k e1 with⟨rfl,_,rfl⟩|⟨Y,h6,Q⟩<;>rcases k x with⟨rfl,_,rfl⟩|⟨Z,h8,R⟩
  .rfl
  .exact absurd O (m W X F Z R j N)
  .exact absurd N (m b1 V E Y Q j O)
  .exact hi.ex.obd b1 V E W X F j Y Z N O
section
variable{P:Program}{L:Pol}{ds:List (Option Nat)}{KP:List PanicEntry->S->Prop}{os:List Oper}{K:Env->S->Prop}{e:Env}{st:S}
variable{d:Option Nat}{ty:TypeId}{pos:String}{af:Array Edge}
theorem xf(x:Operand):AL P L ds KP (⟨d,.move x,ty,pos,af,none⟩::os) K e st=AL P L ds KP os K (e.putO d (e.ev x)) st:=propext zXt
theorem zBc(a:BinOp)(t:TypeId)(x y:Operand)(b:TypeId):AL P L ds KP (⟨d,.binOp a t x y b,ty,pos,af,none⟩::os) K e st=zB8 P a t (zGo y) (e.ev x) (e.ev y) λv=>AL P L ds KP os K (e.putO d v) st:=propext zXt
theorem AL_un0(a:UnOp)(t:TypeId)(x:Operand):AL P L ds KP (⟨d,.unOp a t x,ty,pos,af,none⟩::os) K e st=aUn a (e.ev x) λv=>AL P L ds KP os K (e.putO d v) st:=propext zXt
theorem ye(t:TypeId)(x:Operand)(f:Nat):AL P L ds KP (⟨d,.fieldAddr t x f,ty,pos,af,none⟩::os) K e st=yY P t (e.ev x) f λv=>AL P L ds KP os K (e.putO d v) st:=propext zXt
theorem kK(t:TypeId)(x i:Operand):AL P L ds KP (⟨d,.indexAddr t x i,ty,pos,af,none⟩::os) K e st=ym P t (e.ev x) (e.ev i) λv=>AL P L ds KP os K (e.putO d v) st:=propext zXt
theorem zAI(x:Operand):AL P L ds KP (⟨d,.nilCheck x,ty,pos,af,none⟩::os) K e st=xQ (e.ev x) λv=>AL P L ds KP os K (e.putO d v) st:=propext zXt
theorem zGP(t:TypeId)(x:Operand):AL P L ds KP (⟨d,.call ⟨.builtin .len,#[x],#[t]⟩,ty,pos,af,none⟩::os) K e st=aLen P t (e.ev x) λv=>AL P L ds KP os K (e.putO d v) st:=propext zXt
theorem zKq(t:TypeId)(m k y:Operand):AL P L ds KP (⟨d,.mapUpdate t m k y,ty,pos,af,none⟩::os) K e st=x9 P st t (e.ev m) (e.ev k) (e.ev y) λa=>AL P L ds KP os K (e.putO d .any) a:=propext zXt
theorem zHI(t:TypeId):AL P L ds KP (⟨d,.makeMap t none,ty,pos,af,none⟩::os) K e st=(true=true/\zFG st λv a=>AL P L ds KP os K (e.putO d v) a):=propext zXt
theorem zI0{t:TypeId}{ps:List (Nat×V)}{cs cs':List V}(a:zDa P t=true)(b:yZ P t=some cs)(c:zBS (zBa P t) cs ps=some cs'){K:V->Prop}(f:K (.agg cs')):zCu P t ps K:=.inl ⟨a,by rw[b];simp only[c];exact f⟩
end
end
end Go.Al
section
namespace Go.Al
open Go.RowKit
def awpG(P:Program)(X:Cx)(n:Nat)(c:Code)(Q:Exit->Act->World->Prop)(g0:Gh)(w0:World)(e:Env)(st:S):Prop:=
 ∀g a w,Step X.B g0 w0 g w->Rel X g e st a w->c.wpIn Fence.wide n P Q a w
theorem zKF{P:Program}{B n:Nat}{N:NF}{df:List Deferred}{c:Code}{Q:Exit->Env->S->Prop}{e:Env}{st:S}(h:awp P ⟨B,N,none,df⟩ c Q e st){g:Gh}{a:Act}{w:World}(d:Rel ⟨B,N,none,df⟩ g e st a w) :
 c.wpIn Fence.wide n P (λex a' w'=>∃g' e' b,Step B g w g' w'/\Rel ⟨B,N,none,df⟩ g' e' b a' w'/\Q ex e' b) a w:=wpIn_wide.2 (wpIn_wide.1 (h g a w d))
theorem zHZ{P:Program}{B n:Nat}{N:NF}{df:List Deferred}{x y:Code}{Q:Exit->Act->World->Prop}{g0:Gh}{w0:World}{e:Env}{st:S}
 (h:awp P ⟨B,N,none,df⟩ x (zDm (λe st=>awpG P ⟨B,N,none,df⟩ n y Q g0 w0 e st) (λ_ _ _=>False)) e st):awpG P ⟨B,N,none,df⟩ n (.seq x y) Q g0 w0 e st:=λg a w c d=>by
 refine wpIn_seq (wpIn_mono (zKF h d) ?_);rintro ex a' w' ⟨g',e',f,i,j,b⟩;cases ex with
 |normal=>exact b g' a' w' (c.trans i) j
 |ret=>exact b.elim
 |exit _=>exact b.elim
 |panic _=>exact b.elim
 |goto _=>exact b.elim
 |outgrown=>exact b.elim
theorem zRS{P:Program}{X:Cx}{n:Nat}{x y:Code}{Q:Exit->Act->World->Prop}{g0:Gh}{w0:World}{e:Env}{st:S}
 (h:awpG P X n x (Exit.then (y.wpIn Fence.wide n P Q) Q) g0 w0 e st):awpG P X n (.seq x y) Q g0 w0 e st:=λg a w b c=>wpIn_seq (h g a w b c)
theorem zSZ{P:Program}{X:Cx}{n:Nat}{c:Code}{Q:Exit->Act->World->Prop}{g0:Gh}{w0:World}{e:Env}{st:S}(φ:S->Prop)(a:φ st)(h:∀st,φ st->awpG P X n c Q g0 w0 e st):awpG P X n c Q g0 w0 e st:=h st a
end Go.Al
namespace Go.Den
open Go.Al
structure RestOk(s s':S)(rs rs':List Res):Prop where
 box:∀b c,.inr b∉rs->Al.look s.box b=some c->Al.look s'.box b=some c/\.inr b∉rs'
 ob:∀b c,.ob b∉rs->zQ s.ob b=some c->zQ s'.ob b=some c/\.ob b∉rs'
 tg:∀t,.inl t∉rs->t∈s.tg->t∈s'.tg
theorem qg{P:Program}{f:FuncId}{i:List V}{Q j:Outc->S->Prop}{s:S}(h:FnC P f i s Q)(k:∀oc a,Q oc a->j oc a):FnC P f i s j:=λB g w vs hi b l=>
 (h B g w vs hi b l).mono λe w' ⟨g',a,m,n,d⟩=>by
  refine⟨g',a,m,n,?_⟩;cases e with
  |outgrown=>exact d.elim
  |panicked c=>exact k _ _ d
  |returned v=>obtain⟨r,o,p⟩:=d;exact⟨r,o,k _ _ p⟩
section
variable{U:TyU}{C:Cod U}
theorem zVc{P:Program}{syn:List PanicEntry}{f:Nat}{c:CP U}(h:CPOk C P syn f c){x:zA c.io}{a:zA c.as}{y:zA c.oo×zA c.rs}(T:c.fn x a (none:Option (zA c.oo×zA c.rs)) (λu v=>some (u,v))=some y)
 {s:S} {A G:List V} {m n:List Res} (L:VKs C s c.io x A m) (M:VKs C s c.as a G n) (N:(m++n).Nodup) :
 FnC P f (A++G) s λoc B=>∃D k l,oc=.ret (finV D)/\VKs C B c.oo y.1 A k/\VKs C B c.rs y.2 D l/\(k++l).Nodup/\RestOk s B (m++n) (k++l):=by
 obtain⟨oc,E,W⟩:=h x a none (λu v=>some (u,v)) y T;cases oc with
 |none=>cases E
 |some F=>
  injection E with E
  subst E;have H:∀z∈m++n,InS s z:=λz g=>by
   rcases zWe.1 g with g|g
   .exact jN c.io x L z g
   .exact jN c.as a M z g
  refine qg (zDb (W s A G m n L M N) (zCD N H)) ?_;rintro oc B ⟨X,O,rfl,j⟩;cases oc with
  |pan e=>exact O.elim
  |ret w=>
   obtain⟨D,k,l,Q,R,Y,rfl⟩:=O;have o:=jN c.oo F.1 Q;have p:=jN c.rs F.2 R;have i:∀z∈k++l,InS X z:=λz g=>by
    rcases zWe.1 g with g|g
    .exact o z g
    .exact p z g
   refine⟨D,k,l,rfl,xG c.oo F.1 Q (zAQ _ _ _ _),xG c.rs F.2 R (zAQ _ _ _ _),Y,λb c q r=>?_,λb c q r=>?_,λb q r=>?_⟩
   .obtain⟨I,J⟩:=zCB j q r;refine⟨I,λK=>?_⟩;obtain⟨d,t⟩:=i _ K;rw[J]at t;cases t
   .obtain⟨I,J⟩:=zE2 j q r;refine⟨I,λK=>?_⟩;obtain⟨d,t⟩:=i _ K;rw[J]at t;cases t
   .exact(zGl j q r).1
end
end Go.Den
end
namespace Go.Proofs.YtfjiiknfopmcjaaGreatDoor
section
open Go.Al Go.Den Go.RowKit Go.Shelf
attribute [local congr] qy jb jw zAB xx jE xP xN qk jV qo j0 qr jD xF xW qn jt jx qL jY qp qQ qO qv ql qR jG qm qK zAA j9 jv jZ ja je qq qN qM
attribute [local go_sem] Oper.semAt_some
abbrev ptV(b:Nat):V:=.at (.pointer (some ⟨b,0,none⟩))
def kY(n k:Nat):List (Fin n):=(List.finRange n).reverse.take k
theorem zIm(n k m:Nat)(h:m+k+1=n):kY n (k+1)=kY n k++[⟨m,by omega⟩]:=by
 unfold kY;rw[zYh (by simp;omega)];congr 2;rw[List.getElem_reverse];apply Fin.ext;simp;omega
theorem zLO(n k:Nat)(h:k<=n):(kY n k).length=k:=by simp[kY,h]
theorem zMt{P:Program}{L:Pol}{ds:List (Option Nat)}{KP:List PanicEntry->S->Prop}{b:List Oper}{K:Env->S->Prop}{e:Env}{st:S}{d:Option Nat}{ty:TypeId}{a:String}{f:Array Edge}(c:Fn)(xs:List Operand) :
 AL P L ds KP (⟨d,.makeFunc c #[] xs.toArray,ty,a,f,none⟩::b) K e st=zI4 c [] (xs.map e.ev) λv=>AL P L ds KP b K (e.putO d v) st:=propext zXt
set_option maxRecDepth 100000 in
theorem ok20x{es:List V}{tg:Tag}{s:S}(a:zx (.lst tg es)=.lst tg es):FnC Tryz.prog 20 [.lst tg es] s λoc c=>∃b,Al.look s.box b=none/\oc=.ret (.clo (.func 43) [ptV b])/\c=⟨lay s.box b ([.lst tg es],1),s.tg,s.nx,s.ob⟩:=by
 refine zAU Tryz.func20 rfl Tryz.ntmps20 Tryz.results20 (by show 1<=4;decide) λB=>?_;simp only[zWY,zWR,zWc,jh,Nat.reduceAdd]
 (repeat (first|(refine zn ?_)|(refine zd ?_;simp -failIfUnchanged only[zC,zE])|(refine zo ?_;simp -failIfUnchanged only[zb,zY,zk,za])|(refine zh ?_;simp -failIfUnchanged only[zX,zW,zC,zE,reduceIte])|(refine zZ ?_)|((first|(refine zp polN ks20 _ rfl rfl ?_)|(refine zi polN mixed ks20 _ rfl rfl (by kernel_rfl) (by kernel_rfl) ?_));simp only[↓yE,↓zAK,↓zRo,zC,zF,zG,zI,zP,zT,zg,zj,V.flat,zWE,zWA,Nat.reduceEqDiff,reduceCtorEq,ks20])))
 refine⟨rfl,λb d=>?_⟩
 (repeat (first|(refine zn ?_)|(refine zd ?_;simp -failIfUnchanged only[zC,zE])|(refine zo ?_;simp -failIfUnchanged only[zb,zY,zk,za])|(refine zh ?_;simp -failIfUnchanged only[zX,zW,zC,zE,reduceIte])|(refine zZ ?_)|((first|(refine zp polN ks20 _ rfl rfl ?_)|(refine zi polN mixed ks20 _ rfl rfl (by kernel_rfl) (by kernel_rfl) ?_));simp only[↓yE,↓zAK,zC,yM,zF,zG,zI,zP,zg,zj,zV6,zV9,zWC,zWI,zWE,zWA,Nat.reduceEqDiff,zWP,ks20,zMt])))
 refine⟨rfl,?_⟩
 (repeat (first|(refine zn ?_)|(refine zd ?_;simp -failIfUnchanged only[zC,zE])|(refine zo ?_;simp -failIfUnchanged only[zb,zY,zk,za])|(refine zh ?_;simp -failIfUnchanged only[zX,zW,zC,zE,reduceIte])|(refine zZ ?_)|((first|(refine zp polN ks20 _ rfl rfl ?_)|(refine zi polN mixed ks20 _ rfl rfl (by kernel_rfl) (by kernel_rfl) ?_));simp only[])))
 simp only[yk];refine⟨rfl,b,d,rfl,rfl⟩
def KpN(Bs:Nat)(a:Option Addr)(n:Nat)(A B:World):Prop:=(∀v,A.cell? ⟨Bs,0,none⟩=some v->B.cell? ⟨Bs,0,none⟩=some v)/\∀b o,a=some ⟨b,o,none⟩->∀j v,j<n*5->A.cell? ⟨b,o+j,none⟩=some v->B.cell? ⟨b,o+j,none⟩=some v
theorem KpN.refl(Bs:Nat)(a:Option Addr)(n:Nat)(A:World):KpN Bs a n A A:=⟨λ_ h=>h,λ_ _ _ _ _ _ h=>h⟩
theorem KpN.trans{Bs n:Nat}{a:Option Addr}{A B C:World}(h:KpN Bs a n A B)(k:KpN Bs a n B C):KpN Bs a n A C:=⟨λv e=>k.1 v (h.1 v e),λb o q j v c e=>k.2 b o q j v c (h.2 b o q j v c e)⟩
theorem KpN.put{Bs n:Nat}{a:Option Addr}(W:World)(l:Nat)(o o':Obj)(f:W.heap[l]?=some o)(g:o.isCells=false):KpN Bs a n W (W.putObj l o'):=by
 have c:∀b j v,W.cell? ⟨b,j,none⟩=some v->(W.putObj l o').cell? ⟨b,j,none⟩=some v:=λb j v e=>by
  refine(World.cell?_of_block (World.putObj_heap_other ?_)).trans e;intro d;have d:b=l:=d;subst d;unfold World.cell? at e;simp only[f]at e;cases o<;>first|(cases g;done)|(cases e;done)|(simp at e;done)
 exact⟨λv e=>c _ _ _ e,λb o _ j v _ e=>c _ _ _ e⟩
structure McC where
 a:Value
 b:Value
 c:Value
 d:Value
 e:Value
def McC.enc(x:McC):Value:=.agg #[x.a,x.b,x.c,x.d,x.e]
def Mc5(w:World)(b o:Nat)(x:McC):Prop:=w.cell? ⟨b,o,none⟩=some x.a/\w.cell? ⟨b,o+1,none⟩=some x.b/\w.cell? ⟨b,o+2,none⟩=some x.c/\w.cell? ⟨b,o+3,none⟩=some x.d/\w.cell? ⟨b,o+4,none⟩=some x.e
set_option maxRecDepth 100000 in
set_option maxHeartbeats 2000000 in
theorem zQm(F:Fence)(n:Nat)(X:F.fn 43)(C:F.round=none)(hn:1<=n)(l Bs cap b o:Nat)(a:Option Addr)(xs:List McC)(D:xs≠[]->a=some ⟨b,o,none⟩)(A:xs.length<1000000)(J K:List (Fin xs.length)->World->Prop)
 (Y:∀pre x W,J pre W->pre.length<xs.length->YieldAt F (n-1) Tryz.prog l #[.int .i64 (x.1:Int),(xs[x.1]'x.2).enc] W λe h=>
  (e=.returned (.bool true)/\J (pre++[x]) h/\KpN Bs a xs.length W h)\/(e=.returned (.bool false)/\K (pre++[x]) h))
 (W:World) (E:W.cell? ⟨Bs,0,none⟩=some (.slice a xs.length cap)) (L:∀j (Z:j<xs.length),Mc5 W b (o+j*5) (xs[j]'Z)) (h0:J [] W) :
 CallsIn F n Tryz.prog 43 #[.func (.yield l) #[] #[],.pointer (some ⟨Bs,0,none⟩)] W λe h=>(∃v,e=.returned v) /\
  ((∃ys,ys=kY xs.length xs.length/\J ys h)\/(∃pre,(∃k,k<=xs.length/\pre=kY xs.length k)/\K pre h)):=by
 refine callsIn_of_wp Tryz.func43 rfl X ?_ C;simp only[Tryz.ntmps43,zXS,zWC,zWI,Nat.reduceAdd,Nat.reduceSub,zXN,zXO,zXX,zXQ,zWR,zWY];have M:IntKind.i64.wrap ((xs.length:Int)-1)=(xs.length:Int)-1:=IntWalk.i64_in _ (by omega);gi_wp2
 gi_loopw [3] (λi wr=>∃k:Nat,k<=xs.length/\i=.int .i64 ((xs.length:Int)-1-k)/\J (kY xs.length k) wr/\KpN Bs a xs.length W wr)
  (λi _=>(intOf i+1).toNat)
 case atStart=>exact⟨0,zWd _,by simp,h0,KpN.refl _ _ _ _⟩
 case round=>
  obtain⟨k,hk,rfl,q,g⟩:=hrel;have N:=g.1 _ E;by_cases r:k<xs.length
  .obtain rfl:=D (by rintro rfl;simp at r);obtain⟨m,O⟩:∃m:Nat,m+k+1=xs.length:=⟨xs.length-1-k,by omega⟩;have f:m<xs.length:=by omega
   obtain⟨P,Q,c3,c4,R⟩:=L m f;have s:=g.2 b o rfl (m*5) _ (by omega) P;have t:wr.cell? ⟨b,o+m*5+1,none⟩=some (xs[m]'f).b:=g.2 b o rfl (m*5+1) _ (by omega) Q;have u:wr.cell? ⟨b,o+m*5+2,none⟩=some (xs[m]'f).c:=g.2 b o rfl (m*5+2) _ (by omega) c3;have w:wr.cell? ⟨b,o+m*5+3,none⟩=some (xs[m]'f).d:=g.2 b o rfl (m*5+3) _ (by omega) c4;have y:wr.cell? ⟨b,o+m*5+4,none⟩=some (xs[m]'f).e:=g.2 b o rfl (m*5+4) _ (by omega) R;have ei:(xs.length:Int)-1-(k:Int)=(m:Int):=by omega
   rw[ei];obtain⟨fn,S,B,T,p,hR⟩:=Y _ ⟨m,f⟩ wr q (by rw[zLO _ _ hk];exact r);dsimp only[McC.enc]at p;clear P Q c3 c4 R L;generalize(xs[m]'f).a=xa at s p;generalize(xs[m]'f).b=xb at t p;generalize(xs[m]'f).c=xc at u p;generalize(xs[m]'f).d=xd at w p;generalize(xs[m]'f).e=xe at y p;have U:(m:Int)<(xs.length:Int):=by omega
   have V:¬((m:Int)<0):=by omega
   gi_wp2;refine hR.mono ?_;have aa:m=xs.length-1-k:=by omega
   rintro e W3 (⟨rfl,G,H⟩|⟨rfl,z⟩)
   .have I:IntKind.i64.wrap ((m:Int)-1)=(m:Int)-1:=IntWalk.i64_in _ (by omega);gi_wp2;go_roundw
    case rel=>exact⟨k+1,by omega,by congr 1;omega,by rw[zIm _ _ _ O];exact G,g.trans H⟩
    case measure=>simp[intOf];omega
   .gi_wp2;refine bodyPost_ret (results_none rfl _ _ _) rfl ?_;exact⟨⟨_,rfl⟩,.inr ⟨_,⟨k+1,by omega,(zIm _ _ _ O).symm⟩,z⟩⟩
  .obtain rfl:k=xs.length:=by omega
   gi_wp2;go_end0;exact⟨⟨_,rfl⟩,.inl ⟨_,rfl,q⟩⟩
theorem zMC(F:Fence)(n:Nat)(m:F.fn 43)(g:F.round=none)(q:1<=n)(Bs cap b o:Nat)(a:Option Addr)(xs:List McC)(h:xs≠[]->a=some ⟨b,o,none⟩)(d:xs.length<1000000)(w:World)(r:Bs<w.heap.size)(s:xs≠[]->b<w.heap.size)
 (i:w.cell? ⟨Bs,0,none⟩=some (.slice a xs.length cap)) (t:∀j (f:j<xs.length),Mc5 w b (o+j*5) (xs[j]'f)) :
 SeqStopsK F n Tryz.prog 43 #[.pointer (some ⟨Bs,0,none⟩)] (λx:Fin xs.length=>#[Value.int .i64 (x.1:Int),(xs[x.1]'x.2).enc]) (KpN Bs a xs.length) (λys=>ys=kY xs.length xs.length)
  (λpre=>∃k,k<=xs.length/\pre=kY xs.length k) xs.length w:=λl J u W e _ _ v y=>
 zQm F n m g q l Bs cap b o a xs h d J u v W ((e.cell (p:=⟨Bs,0,none⟩) r).trans i) (λj f=>by
  have c:=s (by rintro rfl;simp at f);obtain⟨z,A,B,C,D⟩:=t j f;exact⟨(e.cell (p:=⟨b,o+j*5,none⟩) c).trans z,(e.cell (p:=⟨b,o+j*5+1,none⟩) c).trans A,(e.cell (p:=⟨b,o+j*5+2,none⟩) c).trans B,(e.cell (p:=⟨b,o+j*5+3,none⟩) c).trans C,(e.cell (p:=⟨b,o+j*5+4,none⟩) c).trans D⟩) y
end
section
open Go.Al Go.Den Go.Shelf
def zJB:Go.Shelf.Ren:=⟨λ|4=>64|n=>n,λ|22=>63|25=>92|n=>n,λn=>n⟩
theorem lays64:Go.Proofs.Lays8.n4 Tryz.prog zJB:={
 mixed:=by kernel_rfl
 f4:=⟨Tryz.f64.name,by kernel_rfl,Tryz.func64.trans (zWp some (by kernel_rfl))⟩
 t0:=Tryz.underlying0
 a0:=Tryz.isAgg0
 z0:=Tryz.sizeOf0
 v0:=Tryz.zeroValue0
 t3:=Tryz.underlying3
 a3:=Tryz.isAgg3
 z3:=Tryz.sizeOf3
 v3:=Tryz.zeroValue3
 t4:=Tryz.underlying4
 a4:=Tryz.isAgg4
 z4:=Tryz.sizeOf4
 v4:=Tryz.zeroValue4
 t9:=Tryz.underlying9
 a9:=Tryz.isAgg9
 z9:=Tryz.sizeOf9
 v9:=Tryz.zeroValue9
 t20:=Tryz.underlying20
 a20:=Tryz.isAgg20
 z20:=Tryz.sizeOf20
 v20:=Tryz.zeroValue20
 t22:=Tryz.underlying63
 a22:=Tryz.isAgg63
 z22:=Tryz.sizeOf63
 v22:=Tryz.zeroValue63 }
def zIw:Go.Shelf.Ren:=⟨λ|4=>93|n=>n,λ|22=>22|25=>9|n=>n,λn=>n⟩
theorem lays93:Go.Proofs.Lays8.n4 Tryz.prog zIw:={
 mixed:=by kernel_rfl
 f4:=⟨Tryz.f93.name,by kernel_rfl,Tryz.func93.trans (zWp some (by kernel_rfl))⟩
 t0:=Tryz.underlying0
 a0:=Tryz.isAgg0
 z0:=Tryz.sizeOf0
 v0:=Tryz.zeroValue0
 t3:=Tryz.underlying3
 a3:=Tryz.isAgg3
 z3:=Tryz.sizeOf3
 v3:=Tryz.zeroValue3
 t4:=Tryz.underlying4
 a4:=Tryz.isAgg4
 z4:=Tryz.sizeOf4
 v4:=Tryz.zeroValue4
 t9:=Tryz.underlying9
 a9:=Tryz.isAgg9
 z9:=Tryz.sizeOf9
 v9:=Tryz.zeroValue9
 t20:=Tryz.underlying20
 a20:=Tryz.isAgg20
 z20:=Tryz.sizeOf20
 v20:=Tryz.zeroValue20
 t22:=Tryz.underlying22
 a22:=Tryz.isAgg22
 z22:=Tryz.sizeOf22
 v22:=Tryz.zeroValue22 }
theorem info92:∃a z,Tryz.prog.info? 92=some a/\a.zero=some z/\a.size=9/\a.bytes=88/\z.cells.size=9:=by
 have h:(match Tryz.prog.info? 92 with|some i=>(match i.zero with|some z=>i.size==9&&i.bytes==88&&z.cells.size==9|none=>false)|none=>false)=true:=by kernel_rfl
 split at h
 .rename_i a b;split at h
  .rename_i z c;simp only[zV5,zXq]at h;exact⟨a,z,b,c,h.1.1,h.1.2,h.2⟩
  .cases h
 .cases h
theorem info9:∃a z,Tryz.prog.info? 9=some a/\a.zero=some z/\a.size=1/\a.bytes=16/\z.cells.size=1:=by
 have h:(match Tryz.prog.info? 9 with|some i=>(match i.zero with|some z=>i.size==1&&i.bytes==16&&z.cells.size==1|none=>false)|none=>false)=true:=by kernel_rfl
 split at h
 .rename_i a b;split at h
  .rename_i z c;simp only[zV5,zXq]at h;exact⟨a,z,b,c,h.1.1,h.1.2,h.2⟩
  .cases h
 .cases h
def zEz{i:TI}(a:List (denI i)×Int×Unit):Option (Option (List (denI i))×Unit):=
 bif a.1.isEmpty&&decide (0<=a.2.1)&&decide (a.2.1<=100000000)then(if a.2.1=0 then some (none,())else some (some [],()))else none
theorem zC3{f:Nat}{m:TI}{e:TypeId}{sz by_:Nat}(F:zM4 m=sz)(H:by_<=1000)(ρ:Go.Shelf.Ren)(L:Go.Proofs.Lays8.n4 Tryz.prog ρ)(S:ρ.f 4=f)(U:ρ.t 25=e)
 (hi:∃o z,Tryz.prog.info? e=some o/\o.zero=some z/\o.size=sz/\o.bytes=by_/\z.cells.size=sz) (hp:0<sz) :
 CPOk CC Tryz.prog syn f (cF ([.dl m,.int .i64]:LK) ([.arr m]:LK) (zEz (i:=m))):=by
 intro x a R V K r l;obtain⟨xs,n,u⟩:=a;change List (denI m)at xs;change Int at n;replace l:Option.bind (zEz (i:=m) (xs,n,u)) (λy=>K () y)=some r:=l;unfold zEz at l;cases E:(xs.isEmpty&&decide (0<=n)&&decide (n<=100000000))with
 |false=>simp only[E,zWH]at l;cases l
 |true=>
  simp only[E,zWQ]at l;simp only[zV5,zWV]at E;obtain⟨⟨I,W⟩,h3⟩:=E;have I:xs=[]:=by simpa using I
  subst I;obtain⟨k,rfl⟩:∃k:Nat,n=(k:Int):=⟨n.toNat,(Int.toNat_of_nonneg W).symm⟩;by_cases T:((k:Int):Int)=0
  .have A:k=0:=by omega
   subst A;rw[if_pos T]at l;refine⟨some ((),(none,())),l,λs Y Z r1 r2 c d hn=>?_⟩;simp only[VKs,VK]at c d;obtain⟨rfl,rfl⟩:=c;obtain⟨v,w,q1,q2,rfl,rfl,⟨rfl,rfl⟩,v2,w2,q3,q4,rfl,rfl,⟨rfl,rfl⟩,rfl,rfl⟩:=d;intro B g w us h J M;cases M with
   |cons p b=>
    cases b with
    |cons b q=>
     cases q;have N:=zEN p;have O:=zr b;subst N O;rw[<-S];refine(Any8.slices_Grow_room L none 0 0 0 w (by omega) (by omega) (by omega) (by omega)).mono ?_;rintro ex w' ⟨rfl,rfl⟩;refine⟨g,_,.refl _ _ _,h,.lst .nil [],?_,?_⟩
     .exact xR (by unfold RC;exact .inl ⟨rfl,rfl,trivial⟩)
     .exact⟨[.lst .nil []],[],[],by simp only[VKs];exact⟨trivial,trivial⟩,by simp only[VKs,VK];exact⟨_,[],[],[],rfl,rfl,⟨rfl,rfl⟩,rfl,rfl⟩,by simp,rfl⟩
  .have A:0<k:=by omega
   rw[if_neg T]at l;refine⟨some ((),(some [],())),l,λs Y Z r1 r2 c d hn=>?_⟩;simp only[VKs,VK]at c d;obtain⟨rfl,rfl⟩:=c;obtain⟨v,w,q1,q2,rfl,rfl,⟨rfl,rfl⟩,v2,w2,q3,q4,rfl,rfl,⟨rfl,rfl⟩,rfl,rfl⟩:=d;intro B g w us h J M;cases M with
   |cons p b=>
    cases b with
    |cons b q=>
     cases q;have N:=zEN p;have O:=zr b;subst N O;rw[<-S];obtain⟨o,z,i1,i2,i3,i4,i5⟩:=hi;rw[<-U]at i1;have P:(0+k)*o.bytes<=140737488355328:=by
      rw[i4,zWP];have:k*by_<=100000000*1000:=Nat.mul_le_mul (by omega) H
      omega
     refine(Any8.slices_Grow_grow L o z i1 i2 (by omega) none 0 0 k [] w (by omega) (by omega) P (by omega) (by simp) (λ_=>rfl) (λa e=>by cases e)).mono ?_;rintro ex w' ⟨rfl,rfl⟩;have hG:=grownCap_ge w (0+k) 0 (ρ.t 25);generalize grownCap w (0+k) 0 (ρ.t 25)=G at hG ⊢;have C:=zBd h (w.drawn+1);have j:(Builtin.zeroCells z.cells (0+k-0)).toList.length+(Builtin.zeroCells z.cells (G-(0+k))).toList.length=G*sz:=by
      rw[zWi,zWi,size_zeroCells,size_zeroCells,i5,<-zWs];have:0+k-0+(G-(0+k))=G:=by omega
      rw[this]
     generalize Builtin.zeroCells z.cells (0+k-0)=ZA at j ⊢;generalize Builtin.zeroCells z.cells (G-(0+k))=ZB at j ⊢;obtain⟨g',Q⟩:=zUN (X:=⟨B,⟨0,[]⟩,none,[]⟩) (w:=w.drew) C.inv (es:=[]) (us:=[]) (by simp[RCs]) rfl (ρ.t 25) (ZA.toList++ZB.toList) (G*sz) (by
      rw[zWI,zWP,zWD];exact j)
     have D:([]++(ZA.toList++ZB.toList)).toArray=([]:List Value).toArray++ZA++ZB:=by
      apply zXK;rw[zYp,zYp];rfl
     rw[D]at Q;refine⟨g',_,C.step.trans Q.step,Q.inv,.at (.slice (some ⟨w.heap.size,0,none⟩) 0 G),RV_at_mk rfl,?_⟩;refine⟨[.at (.slice (some ⟨w.heap.size,0,none⟩) 0 G)],[],[.inr w.heap.size],by simp only[VKs];exact⟨trivial,trivial⟩,?_,zXx.2 ⟨zWu,zW7⟩,rfl⟩;simp only[VKs,VK];refine⟨_,[],[.inr w.heap.size],[],rfl,rfl,⟨w.heap.size,G,rfl,zWd _,?_,rfl⟩,rfl,rfl⟩;show Al.look (lay _ w.drew.heap.size (zf [],G*sz)) w.heap.size=some (zf [],G*zM4 m);rw[zR];exact(if_pos rfl).trans (by rw[F])
def c64:=zEz (i:=.tk)
theorem ok64:CPOk CC Tryz.prog syn 64 (cF ([.dl TI.tk,.int .i64]:LK) ([.arr TI.tk]:LK) c64):=zC3 (sz:=9) (by_:=88) rfl (by omega) zJB lays64 rfl rfl info92 (by omega)
def c93:=zEz (i:=.str)
theorem ok93:CPOk CC Tryz.prog syn 93 (cF ([.dl TI.str,.int .i64]:LK) ([.arr TI.str]:LK) c93):=zC3 (sz:=1) (by_:=16) rfl (by omega) zIw lays93 rfl rfl info9 (by omega)
end
section
open Go.Al Go.Den
abbrev as22:List (AK UU):=[.ls TI.tok]
abbrev rs22:List (AK UU):=[.dl TI.tk]
abbrev as23:List (AK UU):=[.ls TI.tk]
abbrev rs23:List (AK UU):=[.dl TI.tok]
abbrev as44:List (AK UU):=[.st TI.tk,.str]
abbrev rs44:List (AK UU):=[.bool]
abbrev as45:List (AK UU):=[.st TI.tk,.str]
abbrev rs45:List (AK UU):=[.bool]
abbrev as51:List (AK UU):=[.st TI.mac,.str]
abbrev rs51:List (AK UU):=[.int .i64]
abbrev as80:List (AK UU):=[.st TI.mac,.int .i64]
abbrev rs80:List (AK UU):=[.int .i64]
abbrev as82:List (AK UU):=[.st TI.mac,.int .i64]
abbrev rs82:List (AK UU):=[.bool]
def kf22:Nat->List Nat
 |0=>[0]
 |1=>[0,3]
 |2=>[0,3,4]
 |3=>[3,4,7,8,9]
 |4=>[3,4,7,8,9,10]
 |5=>[3,4,6,7,8,9]
 |6=>[3,4,6,7,8,9,15]
 |7=>[3,4,7,8,9]
 |8=>[3,6,7,8,9]
 |9=>[3,4,6,7,8,9]
 |10=>[3,4,7,8,9]
 |11=>[3,4,7,8,9]
 |12=>[2]
 |_=>[]
def hd22:List (Nat×Head UU):=[(4,⟨[7,8],[(3,.ow true TI.tk),(4,.bool),(9,.int .i64)],[]⟩)]
noncomputable def fd22:FD UU:=⟨⟨λd=>hasN [] d,λd=>hasN [] d,kf22,zB hd22,zB [],yK [],yF []⟩,ze Tryz.f22,29,[.tmp 2]⟩
def kf23:Nat->List Nat
 |0=>[0]
 |1=>[0,3]
 |2=>[3,6,7,8]
 |3=>[3,6,7,8,9]
 |4=>[3,5,6,7,8]
 |5=>[3,6,7,8]
 |6=>[3,6,7,8]
 |7=>[2]
 |_=>[]
def hd23:List (Nat×Head UU):=[(3,⟨[6,7],[(3,.ow true TI.tok),(8,.int .i64)],[]⟩)]
noncomputable def fd23:FD UU:=⟨⟨λd=>hasN [] d,λd=>hasN [] d,kf23,zB hd23,zB [],yK [],yF []⟩,ze Tryz.f23,19,[.tmp 2]⟩
def kf44:Nat->List Nat
 |0=>[1,2]
 |1=>[4]
 |_=>[]
noncomputable def fd44:FD UU:=⟨⟨λd=>hasN [] d,λd=>hasN [] d,kf44,zB [],zB [],yK [],yF []⟩,ze Tryz.f44,9,[.tmp 4]⟩
def kf50:Nat->List Nat
 |0=>[0,1]
 |1=>[4]
 |_=>[]
noncomputable def fd50:FD UU:=⟨⟨λd=>hasN [] d,λd=>hasN [] d,kf50,zB [],zB [],yK [],yF []⟩,ze Tryz.f50,9,[.tmp 4]⟩
def kf65:Nat->List Nat
 |0=>[0,1]
 |1=>[0,1,7,8]
 |2=>[0,1,7,8,9]
 |3=>[0,1,5,7,8]
 |4=>[0,1,5,7,8,16]
 |5=>[4]
 |6=>[0,1,7,8]
 |7=>[4]
 |_=>[]
def hd65:List (Nat×Head UU):=[(2,⟨[0,1,7],[(8,.int .i64)],[]⟩)]
noncomputable def fd65:FD UU:=⟨⟨λd=>hasN [] d,λd=>hasN [] d,kf65,zB hd65,zB [],yK [],yF []⟩,ze Tryz.f65,19,[.tmp 4]⟩
def kf80:Nat->List Nat
 |0=>[1,2]
 |1=>[1,2,27]
 |2=>[4]
 |3=>[4]
 |_=>[]
noncomputable def fd80:FD UU:=⟨⟨λd=>hasN [] d,λd=>hasN [] d,kf80,zB [],zB [],yK [],yF []⟩,ze Tryz.f80,36,[.tmp 4]⟩
def kf82:Nat->List Nat
 |0=>[1,2]
 |1=>[4]
 |_=>[]
noncomputable def fd82:FD UU:=⟨⟨λd=>hasN [] d,λd=>hasN [] d,kf82,zB [],zB [],yK [],yF []⟩,ze Tryz.f82,36,[.tmp 4]⟩
noncomputable def run22(fu:Nat)(a:Nat->Bool)(b:List TokT):Option (zS rs22):=
 xr CC Tb fu 2 (zB []) (zB []) (zB []) (zB []) fd22 as22 rs22 a (b,())
theorem fdok22:FDOk Tryz.prog (hasN []) (hasN []) 22 fd22:=fdk Tryz.func22 Tryz.ntmps22 Tryz.results22
noncomputable def run23(fu:Nat)(a:Nat->Bool)(b:List TkT):Option (zS rs23):=
 xr CC Tb fu 2 (zB []) (zB []) (zB []) (zB []) fd23 as23 rs23 a (b,())
theorem fdok23:FDOk Tryz.prog (hasN []) (hasN []) 23 fd23:=fdk Tryz.func23 Tryz.ntmps23 Tryz.results23
noncomputable def run44(fu:Nat)(a:Nat->Bool)(b:TkT)(c:List UInt8):Option (zS rs44):=
 xr CC Tb fu 4 (zB [(50,fd50),(65,fd65)]) (zB []) (zB []) (zB []) fd44 as44 rs44 a (b,c,())
theorem fdok44:FDOk Tryz.prog (hasN []) (hasN []) 44 fd44:=fdk Tryz.func44 Tryz.ntmps44 Tryz.results44
theorem zRZ:FDOk Tryz.prog (hasN []) (hasN []) 50 fd50:=fdk Tryz.func50 Tryz.ntmps50 Tryz.results50
theorem zRx:FDOk Tryz.prog (hasN []) (hasN []) 65 fd65:=fdk Tryz.func65 Tryz.ntmps65 Tryz.results65
noncomputable def run80(fu:Nat)(a:Nat->Bool)(b:MacT)(c:Int):Option (zS rs80):=
 xr CC Tb fu 2 (zB []) (zB [(51,(⟨as51,rs51,nn as51 rs51⟩:Con UU))]) (zB []) (zB []) fd80 as80 rs80 a (b,c,())
theorem fdok80:FDOk Tryz.prog (hasN [51]) (hasN []) 80 fd80:=fdk Tryz.func80 Tryz.ntmps80 Tryz.results80
noncomputable def run82(fu:Nat)(c80:MacT×Int×Unit->Option (Int×Unit))(a:Nat->Bool)(b:MacT)(c:Int):Option (zS rs82):=
 xr CC Tb fu 2 (zB []) (zB [(80,(⟨as80,rs80,c80⟩:Con UU))]) (zB []) (zB []) fd82 as82 rs82 a (b,c,())
theorem fdok82:FDOk Tryz.prog (hasN [80]) (hasN []) 82 fd82:=fdk Tryz.func82 Tryz.ntmps82 Tryz.results82
end
section
open Go.Al Go.Den
abbrev as61:List (AK UU):=[.ls TI.str,.ls TI.str]
abbrev rs61:List (AK UU):=[.dl TI.str]
abbrev as74:List (AK UU):=[.st TI.mac,.ls TI.tkl,.ls TI.tkl]
abbrev rs74:List (AK UU):=[.dl TI.tk]
abbrev as77:List (AK UU):=[.dl TI.str,.dl TI.str]
abbrev rs77:List (AK UU):=[.dl TI.str]
abbrev as81:List (AK UU):=[.st TI.mac,.int .i64]
abbrev rs81:List (AK UU):=[.bool]
abbrev as83:List (AK UU):=[.st TI.tok,.st TI.tok]
abbrev rs83:List (AK UU):=[.st TI.tok,.int .i64]
abbrev as84:List (AK UU):=[.ls TI.tok]
abbrev rs84:List (AK UU):=[.st TI.tok]
abbrev as85:List (AK UU):=[.ls TI.tk,.bool]
abbrev rs85:List (AK UU):=[.dl TI.tk]
abbrev as87:List (AK UU):=[.ls TI.strs]
abbrev rs87:List (AK UU):=[.dl TI.str]
abbrev as88:List (AK UU):=[.ls TI.str]
abbrev rs88:List (AK UU):=[]
abbrev as89:List (AK UU):=[.dl TI.str]
abbrev rs89:List (AK UU):=[.dl TI.str]
def kf73:Nat->List Nat
 |0=>[0]
 |1=>[0,4]
 |2=>[0,4,5]
 |3=>[0,4,5,13]
 |4=>[0,4,5]
 |5=>[0,4,5,33]
 |6=>[0,4,5]
 |7=>[0,4,5]
 |8=>[0,4,5,6,7]
 |9=>[0,4,5,6,7,8,9]
 |10=>[0,4,5,6,7,8,9,63]
 |11=>[2,3]
 |12=>[0,4,5]
 |13=>[0,4,5,6,7,79]
 |14=>[0,4,5,6,7,82]
 |15=>[0,4,5,6,7]
 |16=>[0,4,5]
 |17=>[2,3]
 |_=>[]
def hd73:List (Nat×Head UU):=[(3,⟨[0],[(4,.arr TI.tk),(5,.int .i64)],[]⟩)]
noncomputable def fd73:FD UU:=⟨⟨λd=>hasN [40] d,λd=>hasN [] d,kf73,zB hd73,zB [],yK [],yF []⟩,ze Tryz.f73,98,[.tmp 2,.tmp 3]⟩
def kf74:Nat->List Nat
 |0=>[1,2,3]
 |1=>[1,2,3,7]
 |2=>[1,2,3,7,8]
 |3=>[1,2,3,7,8,16]
 |4=>[1,2,3,7,8]
 |5=>[1,2,3,7,8,9]
 |6=>[1,2,3,7,8,9,10]
 |7=>[1,2,3,7,8]
 |8=>[1,2,3,7,8,9,10,32]
 |9=>[1,2,3,7,8,9,11]
 |10=>[1,2,3,7,8,11]
 |11=>[1,2,3,7,8]
 |12=>[1,2,3,7,8]
 |13=>[1,2,3,7,8,9,10,64]
 |14=>[1,2,3,7,8]
 |15=>[1,2,3,7,8,9,10,78]
 |16=>[1,2,3,7,8]
 |17=>[1,2,3,7,8,9,10,101]
 |18=>[1,2,3,7,8]
 |19=>[1,2,3,7,8,9,10,118]
 |20=>[1,2,3,7,8]
 |21=>[6]
 |_=>[]
def hd74:List (Nat×Head UU):=[(3,⟨[1,2,3],[(7,.ow true TI.tk),(8,.int .i64)],[(3,maK)]⟩)]
noncomputable def fd74:FD UU:=⟨⟨λd=>hasN [] d,λd=>hasN [] d,kf74,zB hd74,zB [],yK [(10,[(1000053,45,9),(1000054,45,9),(1000055,45,9),(1000056,45,9),(1000053,47,9),(1000054,47,9),(1000055,47,9),(1000056,47,9),(1000053,49,9),(1000054,49,9),(1000055,49,9),(1000056,49,9),(1000053,51,9),(1000054,51,9),(1000055,51,9),(1000056,51,9)])],yF []⟩,ze Tryz.f74,131,[.tmp 6]⟩
def kf75:Nat->List Nat
 |0=>[0,1]
 |1=>[0,1,5]
 |2=>[0,1,5,12]
 |3=>[4]
 |4=>[0,1,5,6]
 |5=>[0,1,5,6,19]
 |6=>[0,1,5,6]
 |7=>[0,1,5,6,7]
 |8=>[0,1,5,6,7,29]
 |9=>[0,1,5,6]
 |10=>[0,1,5,6]
 |11=>[0,5]
 |12=>[4]
 |_=>[]
def hd75:List (Nat×Head UU):=[(5,⟨[0,1],[(5,.int .i64),(6,.int .i64)],[(0,.arr TI.tk)]⟩)]
noncomputable def fd75:FD UU:=⟨⟨λd=>hasN [] d,λd=>hasN [] d,kf75,zB hd75,zB [],yK [],yF []⟩,ze Tryz.f75,42,[.tmp 4]⟩
def kf76:Nat->List Nat
 |0=>[1]
 |1=>[2]
 |_=>[]
noncomputable def fd76:FD UU:=⟨⟨λd=>hasN [] d,λd=>hasN [] d,kf76,zB [],zB [],yK [],yF []⟩,ze Tryz.f76,5,[.tmp 2]⟩
def kf77:Nat->List Nat
 |0=>[0,1]
 |1=>[5]
 |2=>[5]
 |3=>[4]
 |_=>[]
noncomputable def fd77:FD UU:=⟨⟨λd=>hasN [] d,λd=>hasN [] d,kf77,zB [],zB [],yK [],yF []⟩,ze Tryz.f77,14,[.tmp 4]⟩
def kf86:Nat->List Nat
 |0=>[0,1]
 |1=>[0,1,7,8]
 |2=>[0,1,7,8,9]
 |3=>[0,1,5,7,8]
 |4=>[0,1,5,7,8,16]
 |5=>[4]
 |6=>[0,1,7,8]
 |7=>[4]
 |_=>[]
def hd86:List (Nat×Head UU):=[(2,⟨[0,1,7],[(8,.int .i64)],[(0,.arr TI.tk)]⟩)]
noncomputable def fd86:FD UU:=⟨⟨λd=>hasN [] d,λd=>hasN [] d,kf86,zB hd86,zB [],yK [],yF []⟩,ze Tryz.f86,19,[.tmp 4]⟩
noncomputable def run74(fu:Nat)(c23:List TkT×Unit->Option (List TokT×Unit))(c80:MacT×Int×Unit->Option (Int×Unit))(c82:MacT×Int×Unit->Option (Bool×Unit))(a:Nat->Bool)(b:MacT)(c:List (Bool×List TkT))(d:List (Bool×List TkT)):Option (zS rs74):=
 xr CC Tb fu 2 (zB []) (zB [(23,(⟨as23,rs23,c23⟩:Con UU)),(80,(⟨as80,rs80,c80⟩:Con UU)),(81,(⟨as81,rs81,nn as81 rs81⟩:Con UU)),(82,(⟨as82,rs82,c82⟩:Con UU)),(84,(⟨as84,rs84,nn as84 rs84⟩:Con UU)),(85,(⟨as85,rs85,nn as85 rs85⟩:Con UU))]) (zB []) (zB []) fd74 as74 rs74 a (b,c,d,())
theorem fdok74:FDOk Tryz.prog (hasN [23,80,81,82,84,85]) (hasN []) 74 fd74:=fdk Tryz.func74 Tryz.ntmps74 Tryz.results74
noncomputable def run73(fu:Nat)(x:zA k0)(a:zA kD):Option (Option (zA k0×zA kF)):=
 zDc CC Tb fu 2 (zB []) (zB [(61,(⟨as61,rs61,nn as61 rs61⟩:Con UU)),(83,(⟨as83,rs83,nn as83 rs83⟩:Con UU))]) (zB []) (zB []) fd73 k0 k0 kD kF x a
theorem fdok73:FDOk Tryz.prog (hasN [61,83]) (hasN []) 73 fd73:=fdk Tryz.func73 Tryz.ntmps73 Tryz.results73
noncomputable def run75(fu:Nat)(x:zA k0)(a:zA ([.arr TI.tk,.fn 76]:LK)):Option (Option (zA k0×zA kA)):=
 zDc CC Tb fu 4 (zB [(76,fd76),(86,fd86)]) (zB []) (zB []) (zB []) fd75 k0 k0 ([.arr TI.tk,.fn 76]:LK) kA x a
theorem fdok75:FDOk Tryz.prog (hasN []) (hasN []) 75 fd75:=fdk Tryz.func75 Tryz.ntmps75 Tryz.results75
theorem zRh:FDOk Tryz.prog (hasN []) (hasN []) 76 fd76:=fdk Tryz.func76 Tryz.ntmps76 Tryz.results76
theorem zR5:FDOk Tryz.prog (hasN []) (hasN []) 86 fd86:=fdk Tryz.func86 Tryz.ntmps86 Tryz.results86
noncomputable def run77(fu:Nat)(c87:(List (Bool×List (List UInt8)))×Unit->Option (List (List UInt8)×Unit))(c88:List (List UInt8)×Unit->Option (Unit))(c89:List (List UInt8)×Unit->Option (List (List UInt8)×Unit))(a:Nat->Bool)(b:List (List UInt8))(c:List (List UInt8)):Option (zS rs77):=
 xr CC Tb fu 2 (zB []) (zB [(87,(⟨as87,rs87,c87⟩:Con UU)),(88,(⟨as88,rs88,c88⟩:Con UU)),(89,(⟨as89,rs89,c89⟩:Con UU))]) (zB []) (zB []) fd77 as77 rs77 a (b,c,())
theorem fdok77:FDOk Tryz.prog (hasN [87,88,89]) (hasN []) 77 fd77:=fdk Tryz.func77 Tryz.ntmps77 Tryz.results77
end
section
open Go.Al Go.Den
abbrev as48:List (AK UU):=[.ls TI.tkl]
abbrev rs48:List (AK UU):=[.dl TI.tk]
abbrev as60:List (AK UU):=[.ls TI.tk]
abbrev rs60:List (AK UU):=[.dl TI.tkl,.dl TI.tk,.int .i64]
abbrev as62:List (AK UU):=[.st TI.mac,.ls TI.tkl,.ls TI.tk]
abbrev rs62:List (AK UU):=[.dl TI.tkl,.int .i64]
abbrev as78:List (AK UU):=[.dl TI.str]
abbrev rs78:List (AK UU):=[.dl TI.str]
def kf21:Nat->List Nat
 |0=>[0,1]
 |1=>[0,1,6]
 |2=>[0,1,6,16]
 |3=>[0,1,6,7]
 |4=>[0,1,6,7,8,9]
 |5=>[0,1,6,7,8,61]
 |6=>[0,1,6]
 |7=>[0,1,6,68]
 |8=>[0,4,5]
 |9=>[0,1,6]
 |10=>[0,1,6,7,10,11,12]
 |11=>[0,1,6,7,10,11,12,80]
 |12=>[0,4,5]
 |13=>[0,6,7,10,13]
 |14=>[0,6,7,10,13,86]
 |15=>[0,6,10,13]
 |16=>[0,6,10,13,97]
 |17=>[0,6,10,13]
 |18=>[0,6,10,13]
 |19=>[0,1,6]
 |20=>[0,4,5]
 |_=>[]
def hd21:List (Nat×Head UU):=[(2,⟨[0],[(1,.bl TI.tk),(6,.ow true TI.tk)],[(0,woK)]⟩)]
noncomputable def fd21:FD UU:=⟨⟨λd=>hasN [] d,λd=>hasN [] d,kf21,zB hd21,zB [],yK [],yF [(19,[10,13])]⟩,ze Tryz.f21,117,[.tmp 4,.tmp 5]⟩
def kf46:Nat->List Nat
 |0=>[0,2,4,7]
 |1=>[0,2,4,7,9]
 |2=>[0,2,4,7,9,10]
 |3=>[0,2,4,7,9,10,11]
 |4=>[0,2,4,7,9,10,11,17]
 |5=>[0,2,4,7,9,10,11]
 |6=>[0,2,4,7,9,10,11,26]
 |7=>[0,6,7,8]
 |8=>[0,4,7,9,10,11]
 |9=>[0,4,7,9,10,11,38]
 |10=>[0,6,7,8]
 |11=>[0,4,7,9,10,11]
 |12=>[0,4,7,9,10,11,47]
 |13=>[0,4,7,8,9,11]
 |14=>[0,4,7,8,9,11,56]
 |15=>[0,6,7,8]
 |16=>[0,6,7,8]
 |17=>[0,6,7,8]
 |_=>[]
def jn46:List (Nat×Head UU):=[(16,⟨[0,4,11],[(7,.int .i64),(9,.dl TI.tkl)],[(0,woK),(4,maK)]⟩),(9,⟨[0,4],[(7,.int .i64),(9,.dl TI.tkl),(10,.dl TI.tk),(11,.dl TI.str)],[(0,woK),(4,maK)]⟩)]
noncomputable def fd46:FD UU:=⟨⟨λd=>hasN [] d,λd=>hasN [] d,kf46,zB [],zB jn46,yK [],yF []⟩,ze Tryz.f46,69,[.tmp 6,.tmp 7,.tmp 8]⟩
def kf47:Nat->List Nat
 |0=>[0]
 |1=>[0,4]
 |2=>[0,2]
 |3=>[0,2]
 |_=>[]
noncomputable def fd47:FD UU:=⟨⟨λd=>hasN [5,7] d,λd=>hasN [] d,kf47,zB [],zB [],yK [],yF []⟩,ze Tryz.f47,8,[.tmp 2]⟩
def kf63:Nat->List Nat
 |0=>[0,2,3,5]
 |1=>[0,2,3,5,10,11]
 |2=>[0,2,3,5,10,11,22]
 |3=>[0,8,9]
 |4=>[0,3,5,11,12]
 |5=>[0,3,5,11,12,33]
 |6=>[0,8,9]
 |7=>[0,3,5,12]
 |8=>[0,3,5,12,38,39]
 |9=>[0,3,5,12,38,39,40]
 |10=>[0,3,5,12,13,38,39]
 |11=>[0,3,5,12,13,38,39]
 |12=>[0,3,5,12,38,39]
 |13=>[0,3,5,12,38,39]
 |14=>[0,12,65]
 |15=>[0,8,9]
 |16=>[0,8,9]
 |_=>[]
def hd63:List (Nat×Head UU):=[(9,⟨[0,3,5,12,38],[(39,.int .i64)],[(0,woK),(5,maK),(12,.arr TI.tk)]⟩)]
noncomputable def fd63:FD UU:=⟨⟨λd=>hasN [] d,λd=>hasN [] d,kf63,zB hd63,zB [],yK [],yF []⟩,ze Tryz.f63,67,[.tmp 8,.tmp 9]⟩
def kf78:Nat->List Nat
 |0=>[0]
 |1=>[0,4]
 |2=>[2]
 |3=>[2]
 |_=>[]
noncomputable def fd78:FD UU:=⟨⟨λd=>hasN [] d,λd=>hasN [] d,kf78,zB [],zB [],yK [],yF []⟩,ze Tryz.f78,8,[.tmp 2]⟩
noncomputable def run47(fu:Nat)(x:zA k0)(a:zA kL):Option (Option (zA k0×zA kA)):=
 zDc CC Tb fu 2 (zB []) (zB []) (zB []) (zB []) fd47 k0 k0 kL kA x a
theorem fdok47:FDOk Tryz.prog (hasN []) (hasN []) 47 fd47:=fdk Tryz.func47 Tryz.ntmps47 Tryz.results47
noncomputable def run46(fu:Nat)(c63:zA ([.st TI.mac,.dl TI.tkl,.dl TI.str]:LK)->WW (zA kF))(x:zA [woK])(a:zA kM):Option (Option (zA [woK]×zA kG)):=
 zDc CC Tb fu 2 (zB []) (zB [(60,(⟨as60,rs60,nn as60 rs60⟩:Con UU)),(61,(⟨as61,rs61,nn as61 rs61⟩:Con UU)),(62,(⟨as62,rs62,nn as62 rs62⟩:Con UU))]) (zB []) (zB [(63,cW ([.st TI.mac,.dl TI.tkl,.dl TI.str]:LK) kF c63)]) fd46 [woK] [woK] kM kG x a
theorem fdok46:FDOk Tryz.prog (hasN [60,61,62]) (hasN []) 46 fd46:=fdk Tryz.func46 Tryz.ntmps46 Tryz.results46
noncomputable def run63(fu:Nat)(c74:MacT×(List (Bool×List TkT))×(List (Bool×List TkT))×Unit->Option (List TkT×Unit))(c77:List (List UInt8)×List (List UInt8)×Unit->Option (List (List UInt8)×Unit))(c78:List (List UInt8)×Unit->Option (List (List UInt8)×Unit))(c72:zA ([.st TI.mac,.dl TI.tkl]:LK)->WW (zA ([.bl TI.tkl,.int .i64]:LK)))(c73:zA kD->Option (zA kF))(c75:zA ([.arr TI.tk,.fn 76]:LK)->Option (zA kA))(x:zA [woK])(a:zA ([.st TI.mac,.dl TI.tkl,.dl TI.str]:LK)):Option (Option (zA [woK]×zA kF)):=
 zDc CC Tb fu 2 (zB []) (zB [(74,(⟨as74,rs74,c74⟩:Con UU)),(77,(⟨as77,rs77,c77⟩:Con UU)),(78,(⟨as78,rs78,c78⟩:Con UU))]) (zB []) (zB [(72,cW ([.st TI.mac,.dl TI.tkl]:LK) ([.bl TI.tkl,.int .i64]:LK) c72),(73,cF kD kF c73),(75,cF ([.arr TI.tk,.fn 76]:LK) kA c75)]) fd63 [woK] [woK] ([.st TI.mac,.dl TI.tkl,.dl TI.str]:LK) kF x a
theorem fdok63:FDOk Tryz.prog (hasN [74,77,78]) (hasN []) 63 fd63:=fdk Tryz.func63 Tryz.ntmps63 Tryz.results63
noncomputable def run21(fu:Nat)(c44:TkT×List UInt8×Unit->Option (Bool×Unit))(c48:(List (Bool×List TkT))×Unit->Option (List TkT×Unit))(c46:zA kM->WW (zA kG))(c47:zA kL->Option (zA kA))(x:zA [woK])(a:zA kL):Option (Option (zA [woK]×zA kE)):=
 runP CC Tb fu 2 (zB []) (zB [(44,(⟨as44,rs44,c44⟩:Con UU)),(45,(⟨as45,rs45,nn as45 rs45⟩:Con UU)),(48,(⟨as48,rs48,c48⟩:Con UU))]) (zB []) (zB [(46,cW kM kG c46),(47,cF kL kA c47)]) fd21 [woK] [woK] kL kE x a
theorem fdok21:FDOk Tryz.prog (hasN [44,45,48]) (hasN []) 21 fd21:=fdk Tryz.func21 Tryz.ntmps21 Tryz.results21
noncomputable def run78(fu:Nat)(a:Nat->Bool)(b:List (List UInt8)):Option (zS rs78):=
 xr CC Tb fu 2 (zB []) (zB []) (zB []) (zB []) fd78 as78 rs78 a (b,())
theorem fdok78:FDOk Tryz.prog (hasN []) (hasN []) 78 fd78:=fdk Tryz.func78 Tryz.ntmps78 Tryz.results78
end
section
open Go.Al Go.Den
def kf48:Nat->List Nat
 |0=>[0]
 |1=>[0,3]
 |2=>[0,3,9,10,11]
 |3=>[0,3,9,10,11,12]
 |4=>[0,3,5,9,10,11]
 |5=>[0,3,9,10,11]
 |6=>[0,3,9,10,11,20]
 |7=>[0,3,9,10,11]
 |8=>[0,3,9,10,11]
 |9=>[0,6]
 |10=>[6,25,26,27]
 |11=>[6,25,26,27,28]
 |12=>[6,8,25,26,27]
 |13=>[6,25,26,27]
 |14=>[6,25,26,27]
 |15=>[2]
 |_=>[]
def hd48:List (Nat×Head UU):=[(3,⟨[0,9,10],[(3,.int .i64),(11,.int .i64)],[]⟩),(11,⟨[25,26],[(6,.arr TI.tk),(27,.int .i64)],[]⟩)]
noncomputable def fd48:FD UU:=⟨⟨λd=>hasN [33] d,λd=>hasN [] d,kf48,zB hd48,zB [],yK [],yF []⟩,ze Tryz.f48,36,[.tmp 2]⟩
def kf87:Nat->List Nat
 |0=>[0]
 |1=>[0,3]
 |2=>[0,3,9,10,11]
 |3=>[0,3,9,10,11,12]
 |4=>[0,3,5,9,10,11]
 |5=>[0,3,9,10,11]
 |6=>[0,3,9,10,11,20]
 |7=>[0,3,9,10,11]
 |8=>[0,3,9,10,11]
 |9=>[0,6]
 |10=>[6,25,26,27]
 |11=>[6,25,26,27,28]
 |12=>[6,8,25,26,27]
 |13=>[6,25,26,27]
 |14=>[6,25,26,27]
 |15=>[2]
 |_=>[]
def hd87:List (Nat×Head UU):=[(3,⟨[0,9,10],[(3,.int .i64),(11,.int .i64)],[]⟩),(11,⟨[25,26],[(6,.arr TI.str),(27,.int .i64)],[]⟩)]
noncomputable def fd87:FD UU:=⟨⟨λd=>hasN [33] d,λd=>hasN [] d,kf87,zB hd87,zB [],yK [],yF []⟩,ze Tryz.f87,36,[.tmp 2]⟩
def kf89:Nat->List Nat
 |0=>[0]
 |1=>[0,8]
 |2=>[2]
 |3=>[0,3]
 |4=>[0,3,13]
 |5=>[0,3]
 |6=>[0,3,25]
 |7=>[0,3,4]
 |8=>[0,3,4,5]
 |9=>[0,3,4,5,32]
 |10=>[0,3,4,5]
 |11=>[0,3,4,5,44]
 |12=>[0,3,4,5]
 |13=>[0,3,4,5]
 |14=>[0,3]
 |15=>[2]
 |16=>[2]
 |_=>[]
def hd89:List (Nat×Head UU):=[(4,⟨[0],[(3,.int .i64)],[]⟩),(9,⟨[0,4],[(3,.int .i64),(5,.int .i64)],[]⟩)]
noncomputable def fd89:FD UU:=⟨⟨λd=>hasN [] d,λd=>hasN [] d,kf89,zB hd89,zB [],yK [],yF []⟩,ze Tryz.f89,61,[.tmp 2]⟩
noncomputable def run48(fu:Nat)(c64:zA kE->Option (zA kA))(a:Nat->Bool)(b:List (Bool×List TkT)):Option (zS rs48):=
 xr CC Tb fu 2 (zB []) (zB []) (zB []) (zB [(64,cF kE kA c64)]) fd48 as48 rs48 a (b,())
theorem fdok48:FDOk Tryz.prog (hasN []) (hasN []) 48 fd48:=fdk Tryz.func48 Tryz.ntmps48 Tryz.results48
noncomputable def run87(fu:Nat)(c93:zA ([.dl TI.str,.int .i64]:LK)->Option (zA ([.arr TI.str]:LK)))(a:Nat->Bool)(b:List (Bool×List (List UInt8))):Option (zS rs87):=
 xr CC Tb fu 2 (zB []) (zB []) (zB []) (zB [(93,cF ([.dl TI.str,.int .i64]:LK) ([.arr TI.str]:LK) c93)]) fd87 as87 rs87 a (b,())
theorem fdok87:FDOk Tryz.prog (hasN []) (hasN []) 87 fd87:=fdk Tryz.func87 Tryz.ntmps87 Tryz.results87
noncomputable def run89(fu:Nat)(a:Nat->Bool)(b:List (List UInt8)):Option (zS rs89):=
 xr CC Tb fu 2 (zB []) (zB []) (zB []) (zB []) fd89 as89 rs89 a (b,())
theorem fdok89:FDOk Tryz.prog (hasN []) (hasN []) 89 fd89:=fdk Tryz.func89 Tryz.ntmps89 Tryz.results89
end
section
open Go.Al Go.Den Go.RowKit Go.Shelf
attribute [local go_sem] Oper.semAt_some
set_option maxRecDepth 100000 in
set_option maxHeartbeats 2000000 in
theorem zS4(m n:Nat)(b:n<=1)(p:Option Addr)(cap:Nat)(k:Int)(w:World):CallsIn Fence.wide m Tryz.prog 110 #[.int .u64 (n:Int)] w λe w'=>(∃k:Int,e=.returned (.int .i64 k))/\w'=w:=by
 have c:∀f,Fence.wide.fn f:=λ_=>trivial;have a:∀k:Nat,(Fence.wide.depth.isSome=true->1<=k):=λk h=>by cases h
 have:n=0\/n=1:=by omega
 rcases this with rfl|rfl
 all_goals
  refine callsIn_of_wp Tryz.func110 rfl trivial ?_ rfl;simp only[Tryz.ntmps110,zXS,zWC,zWI,Nat.reduceAdd,Nat.reduceSub,zXN,zXO,zXX,zXQ,zWR,zWY];gi_wp2;go_ret;exact⟨⟨_,rfl⟩,rfl⟩
set_option maxRecDepth 100000 in
set_option maxHeartbeats 2000000 in
theorem len_in(m n:Nat)(b:n<=1)(p:Option Addr)(cap:Nat)(k:Int)(w:World):CallsIn Fence.wide m Tryz.prog 95 #[.int .u64 (n:Int)] w λe w'=>(∃k:Int,e=.returned (.int .i64 k))/\w'=w:=by
 have c:∀f,Fence.wide.fn f:=λ_=>trivial;have a:∀k:Nat,(Fence.wide.depth.isSome=true->1<=k):=λk h=>by cases h
 have:n=0\/n=1:=by omega
 rcases this with rfl|rfl
 all_goals
  refine callsIn_of_wp Tryz.func95 rfl trivial ?_ rfl;simp only[Tryz.ntmps95,zXS,zWC,zWI,Nat.reduceAdd,Nat.reduceSub,zXN,zXO,zXX,zXQ,zWR,zWY]
  gi_wp2_with ((try refine⟨a _,?_⟩);gi_at_call 110;refine(zS4 _ _ (by omega) p cap k _).mono ?_;rintro e w' ⟨⟨d,rfl⟩,rfl⟩)
  go_ret;exact⟨⟨_,rfl⟩,rfl⟩
set_option maxRecDepth 100000 in
set_option maxHeartbeats 2000000 in
theorem ins_in(m n:Nat)(b:n<=1)(p:Option Addr)(cap:Nat)(k:Int)(w:World):CallsIn Fence.wide m Tryz.prog 100 #[.slice p n cap,.int .i64 0,.int .i64 (n:Int)] w λe w'=>e=.returned (.tuple #[])/\w'=w:=by
 have c:∀f,Fence.wide.fn f:=λ_=>trivial;have a:∀k:Nat,(Fence.wide.depth.isSome=true->1<=k):=λk h=>by cases h
 have:n=0\/n=1:=by omega
 rcases this with rfl|rfl
 all_goals
  refine callsIn_of_wp Tryz.func100 rfl trivial ?_ rfl;simp only[Tryz.ntmps100,zXS,zWC,zWI,Nat.reduceAdd,Nat.reduceSub,zXN,zXO,zXX,zXQ,zWR,zWY];gi_wp2;refine wpIn_loop_rounds 1 ?_;rw[roundsIn_succ];gi_wp2;go_end0;exact⟨rfl,rfl⟩
set_option maxRecDepth 100000 in
set_option maxHeartbeats 2000000 in
theorem pdq_in(m n:Nat)(b:n<=1)(p:Option Addr)(cap:Nat)(k:Int)(w:World):CallsIn Fence.wide m Tryz.prog 94 #[.slice p n cap,.int .i64 0,.int .i64 (n:Int),.int .i64 k] w λe w'=>e=.returned (.tuple #[])/\w'=w:=by
 have c:∀f,Fence.wide.fn f:=λ_=>trivial;have a:∀k:Nat,(Fence.wide.depth.isSome=true->1<=k):=λk h=>by cases h
 have:n=0\/n=1:=by omega
 rcases this with rfl|rfl
 all_goals
  refine callsIn_of_wp Tryz.func94 rfl trivial ?_ rfl;simp only[Tryz.ntmps94,zXS,zWC,zWI,Nat.reduceAdd,Nat.reduceSub,zXN,zXO,zXX,zXQ,zWR,zWY];gi_wp2;refine wpIn_loop_rounds 1 ?_;rw[roundsIn_succ]
  gi_wp2_with ((try refine⟨a _,?_⟩);gi_at_call 100;refine(ins_in _ _ (by omega) p cap k _).mono ?_;rintro e w' ⟨rfl,rfl⟩)
  (try simp only[Exit.inBlock,Exit.then]);refine bodyPost_ret (results_none rfl _ _ _) rfl ?_
  exact⟨rfl,rfl⟩
set_option maxRecDepth 100000 in
set_option maxHeartbeats 2000000 in
theorem zUL(m n:Nat)(c:n<=1)(p:Option Addr)(cap:Nat)(k:Int)(w:World):CallsIn Fence.wide m Tryz.prog 88 #[.slice p n cap] w λe w'=>e=.returned (.tuple #[])/\w'=w:=by
 have d:∀f,Fence.wide.fn f:=λ_=>trivial;have a:∀k:Nat,(Fence.wide.depth.isSome=true->1<=k):=λk h=>by cases h
 have:n=0\/n=1:=by omega
 rcases this with rfl|rfl
 all_goals
  refine callsIn_of_wp Tryz.func88 rfl trivial ?_ rfl;simp only[Tryz.ntmps88,zXS,zWC,zWI,Nat.reduceAdd,Nat.reduceSub,zXN,zXO,zXX,zXQ,zWR,zWY]
  gi_wp2_with (first
   |((try refine⟨a _,?_⟩);gi_at_call 95;refine(len_in _ _ (by omega) p cap k _).mono ?_;rintro e w' ⟨⟨b,rfl⟩,rfl⟩)
   |((try refine⟨a _,?_⟩);gi_at_call 94;refine(pdq_in _ _ (by omega) p cap b _).mono ?_;rintro e w' ⟨rfl,rfl⟩))
  go_end0;exact⟨rfl,rfl⟩
def c88(x:List Str×Unit):Option Unit:=if x.1.length<=1 then some ()else none
theorem ok88:ConOk CC Tryz.prog 88 ⟨as88,rs88,c88⟩:=λx y c vs a=>by
 obtain⟨l,u⟩:=x;change List Str at l;by_cases h:l.length<=1
 .obtain⟨v,vs',rfl,f,a⟩:=a;replace a:vs'=[]:=a;subst a;have f:∃tg,v=.lst tg (l.map (CC.encV TI.str)):=by
   obtain⟨n,q⟩:=f;exact⟨_,q⟩
  obtain⟨tg,rfl⟩:=f;intro r w us g s t;cases t with
  |cons i j=>
   cases j;have k:∃p cap,(‹Value›:Value)=.slice p l.length cap:=by
    obtain⟨z,d,m⟩:=i;simp only[RC]at d;rcases d with⟨d,A,_⟩|⟨b,o,cap,B,d,_⟩
    .have:l=[]:=zYq.1 d;subst this;subst A;exact⟨_,_,m⟩
    .subst d;have C:(List.map (CC.encV TI.str) l).length=l.length:=zWG ..;exact⟨some ⟨b,o,none⟩,cap,m.trans (zWp (λn=>Value.slice (some ⟨b,o,none⟩) n cap) C)⟩
   obtain⟨p,cap,rfl⟩:=k;refine(callsIn_wide.1 (zUL 0 l.length h p cap 0 w)).mono ?_;rintro e w' ⟨rfl,rfl⟩;obtain⟨D,E⟩:=kO g (Below.refl _ _);replace c:(if l.length<=1 then some ()else none)=some y:=c;rw[if_pos h]at c;injection c with c
   exact⟨_,r,rfl,D,E,[],.nil,rfl⟩
 .replace c:(if l.length<=1 then some ()else none)=some y:=c;rw[if_neg h]at c;cases c
end
section
open Go.Al Go.Den Go.RowKit Go.Shelf
attribute [local go_sem] Oper.semAt_some
theorem info63:∃a z,Tryz.prog.info? 63=some a/\a.zero=some z/\a.bytes=24:=by
 have h:(match Tryz.prog.info? 63 with|some i=>(match i.zero with|some z=>i.bytes==24|none=>false)|none=>false)=true:=by kernel_rfl
 split at h
 .rename_i a b;split at h
  .rename_i z c;exact⟨a,z,b,c,by simpa using h⟩
  .cases h
 .cases h
set_option maxRecDepth 100000 in
set_option maxHeartbeats 2000000 in
theorem zNe(m:Nat)(pv c d g u4 i:Value)(w:World) :
 CallsIn Fence.wide m Tryz.prog 72 #[pv,.agg #[c,d,g,u4,i],.slice none 0 0] w λe w'=>(∃b,e=.returned (.tuple #[.slice (some ⟨b,0,none⟩) 0 0,.int .i64 0]))/\Below w.heap.size w w':=by
 have t:∀f,Fence.wide.fn f:=λ_=>trivial;have p:∀k:Nat,(Fence.wide.depth.isSome=true->1<=k):=λk h=>by cases h
 obtain⟨n,z,i1,r,u⟩:=info63;obtain⟨o,a,j,l⟩:=run_make_full (P:=Tryz.prog) (w.alloc (.cells #[c,d,g,u4,i] 32)) w.heap.size 105 63 n z n.size Tryz.underlying105 i1 r rfl .i64 .i64 0 (by omega) (by simp only[maxLen];omega) (by simp);replace a:(Instr.makeSlice 105 (.int .i64 0) (.int .i64 0)).run Tryz.prog (w.alloc (.cells #[c,d,g,u4,i] 32))=.ok (.slice (some ⟨(w.alloc (.cells #[c,d,g,u4,i] 32)).heap.size,0,none⟩) 0 0) o:=a;have s:Below w.heap.size w o:=((Below.refl _ w).alloc (zV7 _) _).grown l (by simp) (λk e=>by cases e);generalize(w.alloc (.cells #[c,d,g,u4,i] 32)).heap.size=q at a;clear j l;refine callsIn_of_wp Tryz.func72 rfl trivial ?_ rfl;simp only[Tryz.ntmps72,zXS,zWC,zWI,Nat.reduceAdd,Nat.reduceSub,zXN,zXO,zXX,zXQ,zWR,zWY];gi_wp2;refine wpIn_loop_rounds 1 ?_;rw[roundsIn_succ];gi_wp2
 go_ret2
 exact⟨⟨_,rfl⟩,s⟩
def c72(a:MacT×List (Bool×List TkT)×Unit)(b:MapM)(n:Int):Option (((Bool×List (Bool×List TkT))×Int×Unit)×MapM×Int):=if a.2.1.isEmpty then some (((false,[]),0,()),b,n)else none
theorem ok72:CPOk CC Tryz.prog syn 72 (cW ([.st TI.mac,.dl TI.tkl]:LK) ([.bl TI.tkl,.int .i64]:LK) c72):=by
 intro x a R W K r d;obtain⟨⟨I,n,u⟩,X⟩:=x;obtain⟨m,l,J⟩:=a;change List (Bool×List TkT)at l;replace d:Option.bind (c72 (m,l,J) I n) (λy=>K ((y.2.1,y.2.2,()),()) y.1)=some r:=d;unfold c72 at d;by_cases h:l.isEmpty=true
 .have:l=[]:=by simpa using h
  subst this;rw[if_pos h]at d;refine⟨some (((I,n,()),()),((false,[]),(0:Int),())),d,λs Y Z L M f A hn=>?_⟩;have G:=xG ([woK]:LK) (((I,n,u),X):zA ([woK]:LK)) f ((zCF s (L++M)).mono λy hy=>zXV _ hy);have N:=(zXI.1 hn).1;generalize subS s (L++M)=s0 at G ⊢;obtain⟨C,w1,H,D,rfl,rfl,⟨O,cs,p3,rfl,_⟩,rfl,rfl⟩:∃C w1 H D,Y=C::w1/\L=H++D/\(∃O cs p3,C=.at (.pointer (some ⟨O,0,none⟩))/\Al.look s.box O=some (cs,cs.length))/\w1=[]/\D=[]:=by
   simp only[VKs,VK]at f;obtain⟨C,w1,H,D,P,h2,⟨b,vs,aa,h3,h4,_⟩,h5,h6⟩:=f;exact⟨C,w1,H,D,P,h2,⟨b,vs,(),h3,h4⟩,h5,h6⟩
  obtain⟨v2,w2,q1,q2,rfl,rfl,⟨rfl,rfl⟩,v3,w3,q3,q4,rfl,rfl,⟨rfl,rfl⟩,rfl,rfl⟩:∃v w p q,Z=v::w/\M=p++q/\(v=CC.encV TI.mac m/\p=[])/\∃v' w' U V,w=v'::w'/\q=U++V/\(v'=.lst .nil []/\U=[])/\w'=[]/\V=[]:=by
   simp only[VKs,VK]at A;exact A
  intro B g w us c ab hu;cases hu with
  |cons Q i=>
   cases i with
   |cons i j=>
    cases j with
    |cons j S=>
     cases S;have e1:=zr Q;have e3:=zEN j;subst e1 e3;obtain⟨E,P,rfl⟩:=zDV (fs:=[.at (.string ⟨List.toArray (MacT.name m)⟩),.at (.bool (MacT.func m)),.lst (yL ((MacT.params m).map zCN)) ((MacT.params m).map zCN),.at (.bool (MacT.variadic m)),.lst (if(MacT.body m).1 then .nil else .no) ((MacT.body m).2.map kq)]) i;have hl:E.length=5:=yG _ _ _ _ P
     match E,hl with
     |[u1,J,u3,u4,u5],_=>
      refine(callsIn_wide.1 (zNe 0 _ u1 J u3 u4 u5 w)).mono ?_;rintro e w' ⟨⟨b,rfl⟩,z⟩;have F:Later g w g w':=⟨λ_=>zV7 _,λ_ _ h=>h,λb o ho=>by
       have T:b<w.heap.size:=by
        rcases zW5 b w.heap.size with h|h
        .exact h
        .rw[c.fresh b h]at ho;omega
       exact World.cell?_of_block (z.block b T)⟩
      refine⟨g,s0,⟨F,z.mono c.base,λb h=>⟨?_,rfl⟩,λ_ _=>rfl,rfl⟩,c.grow F z.size (λb h=>z.block b h) (λ_ _=>rfl) (λb h=>c.fresh b (zWv z.size h)) rfl rfl,.tup [.lst .no [],.at (.int .i64 0)],?_,?_⟩
      .exact z.block b (c.ex.frz b h).1
      .exact⟨_,.cons (xR (by
        simp only[RC];refine .inr ⟨b,0,0,[],rfl,zV7 _,trivial,by simp[RCs],⟨0,?_,?_⟩,?_⟩
        .intro x hx;cases hx
        .intro t nb s e;cases e
        .intro k u G;simp at G)) (.cons (RV_at_mk rfl) .nil),rfl⟩
      .refine⟨[.lst .no [],.at (.int .i64 0)],_,[],G,?_,?_,rfl⟩
       .simp only[VKs,VK];exact⟨_,_,[],[],rfl,rfl,⟨rfl,rfl⟩,_,_,[],[],rfl,rfl,⟨rfl,rfl⟩,rfl,rfl⟩
       .simpa using N
 .rw[if_neg h]at d;cases d
end
section
open Go.Al Go.Den
def sh22(fu:Nat)(d:Nat->Bool)(b:LT):(Option ((List TkT)×Unit)):=iter fu (λ(c:(((List TkT)×(Bool×(Int×Unit)))×Unit)->Option ((List TkT)×Unit))(a:(((List TkT)×(Bool×(Int×Unit)))×Unit))=>cond (ilt a.1.2.2.1 (lenI b)) (cond (inB a.1.2.2.1 b.length) (cond (ieq (List.getD b a.1.2.2.1.toNat tokD).kind 7) (c ((a.1.1,(true,((iadd .i64 a.1.2.2.1 1),()))),())) (cond (List.getD b a.1.2.2.1.toNat tokD).blank (cond (okN 88 (a.1.1.length+(List.length [(TkT.mk (List.getD b a.1.2.2.1.toNat tokD).kind (List.getD b a.1.2.2.1.toNat tokD).text (List.getD b a.1.2.2.1.toNat tokD).file (List.getD b a.1.2.2.1.toNat tokD).ffrom (List.getD b a.1.2.2.1.toNat tokD).fto true [] false false)]))) (c (((a.1.1++[(TkT.mk (List.getD b a.1.2.2.1.toNat tokD).kind (List.getD b a.1.2.2.1.toNat tokD).text (List.getD b a.1.2.2.1.toNat tokD).file (List.getD b a.1.2.2.1.toNat tokD).ffrom (List.getD b a.1.2.2.1.toNat tokD).fto true [] false false)]),(false,((iadd .i64 a.1.2.2.1 1),()))),())) (none)) (cond (okN 88 (a.1.1.length+(List.length [(TkT.mk (List.getD b a.1.2.2.1.toNat tokD).kind (List.getD b a.1.2.2.1.toNat tokD).text (List.getD b a.1.2.2.1.toNat tokD).file (List.getD b a.1.2.2.1.toNat tokD).ffrom (List.getD b a.1.2.2.1.toNat tokD).fto a.1.2.1 [] false false)]))) (c (((a.1.1++[(TkT.mk (List.getD b a.1.2.2.1.toNat tokD).kind (List.getD b a.1.2.2.1.toNat tokD).text (List.getD b a.1.2.2.1.toNat tokD).file (List.getD b a.1.2.2.1.toNat tokD).ffrom (List.getD b a.1.2.2.1.toNat tokD).fto a.1.2.1 [] false false)]),(false,((iadd .i64 a.1.2.2.1 1),()))),())) (none)))) (none)) (some (a.1.1,()))) (([],(false,(0,()))),())
theorem eq22:@run22=@sh22:=by kernel_rfl
def sh23(fu:Nat)(d:Nat->Bool)(b:(List TkT)):(Option (LT×Unit)):=iter fu (λ(c:((LT×(Int×Unit))×Unit)->Option (LT×Unit))(a:((LT×(Int×Unit))×Unit))=>cond (ilt a.1.2.1 (lenI b)) (cond (inB a.1.2.1 b.length) (cond (okN 56 (a.1.1.length+(List.length [(TokT.mk (List.getD b a.1.2.1.toNat tkD).kind (List.getD b a.1.2.1.toNat tkD).text (List.getD b a.1.2.1.toNat tkD).file (List.getD b a.1.2.1.toNat tkD).ffrom (List.getD b a.1.2.1.toNat tkD).fto (List.getD b a.1.2.1.toNat tkD).blank)]))) (c (((a.1.1++[(TokT.mk (List.getD b a.1.2.1.toNat tkD).kind (List.getD b a.1.2.1.toNat tkD).text (List.getD b a.1.2.1.toNat tkD).file (List.getD b a.1.2.1.toNat tkD).ffrom (List.getD b a.1.2.1.toNat tkD).fto (List.getD b a.1.2.1.toNat tkD).blank)]),((iadd .i64 a.1.2.1 1),())),())) (none)) (none)) (some (a.1.1,()))) (([],(0,())),())
theorem eq23:@run23=@sh23:=by kernel_rfl
def sh44(fu:Nat)(e:Nat->Bool)(c:TkT)(d:Str):(Option (Bool×Unit)):=iter fu (λ(a:((Int×Unit)×Unit)->Option (Bool×Unit))(b:((Int×Unit)×Unit))=>cond (ilt b.1.1 (lenI (TkT.hide c))) (cond (inB b.1.1 (List.length (TkT.hide c))) (cond (seq d (List.getD (TkT.hide c) b.1.1.toNat [])) (some ((ile 0 b.1.1),())) (a (((iadd .i64 b.1.1 1),()),()))) (none)) (some ((ile 0 (Neg.neg 1)),()))) ((0,()),())
theorem eq44:@run44=@sh44:=by kernel_rfl
def sh80(fu:Nat)(c:Nat->Bool)(a:MacT)(b:Int):(Option (Int×Unit)):=cond (ilt b 0) (some ((Neg.neg 1),())) (cond (ile (lenI (MacT.body a).2) b) (some ((Neg.neg 1),())) (cond (inB b (List.length (MacT.body a).2)) (cond (ine (TokT.kind (List.getD (MacT.body a).2 b.toNat tokD)) 1) (some ((Neg.neg 1),())) (cond (!(MacT.func a)) (some ((Neg.neg 1),())) (cond (inB b (List.length (MacT.body a).2)) (none) (none)))) (none)))
theorem eq80:@run80=@sh80:=by kernel_rfl
def sh82(fu:Nat)(c80:(MacT×(Int×Unit))->(Option (Int×Unit)))(d:Nat->Bool)(a:MacT)(b:Int):(Option (Bool×Unit)):=cond (MacT.func a) (cond (ile 0 b) (cond (inB b (List.length (MacT.body a).2)) (cond (ieq (TokT.kind (List.getD (MacT.body a).2 b.toNat tokD)) 5) (cond (inB b (List.length (MacT.body a).2)) (cond (seq (TokT.text (List.getD (MacT.body a).2 b.toNat tokD)) [35]) (Option.bind (c80 (a,((iadd .i64 b 1),()))) λc=>some ((ile 0 c.1),())) (some (false,()))) (none)) (some (false,()))) (none)) (some (false,()))) (some (false,()))
theorem eq82:@run82=@sh82:=by kernel_rfl
theorem con22(fu:Nat) :ConOk CC Tryz.prog 22 ⟨as22,rs22,λx=>sh22 fu (λ_=>false) x.1⟩:=
 rfk zD zD zD zD fdok22 rfl (ya rfl) (λa x=>by show run22 fu a x.1=_;rw[eq22];rfl)
theorem con23(fu:Nat) :ConOk CC Tryz.prog 23 ⟨as23,rs23,λx=>sh23 fu (λ_=>false) x.1⟩:=
 rfk zD zD zD zD fdok23 rfl (ya rfl) (λa x=>by show run23 fu a x.1=_;rw[eq23];rfl)
theorem con44(fu:Nat) :ConOk CC Tryz.prog 44 ⟨as44,rs44,λx=>sh44 fu (λ_=>false) x.1 x.2.1⟩:=
 rfk (lo:=[]) (lr:=[]) (zK zRZ (zK zRx zD)) zD zD zD fdok44 rfl (ya rfl) (λa x=>by show run44 fu a x.1 x.2.1=_;rw[eq44];rfl)
theorem con80(fu:Nat) :ConOk CC Tryz.prog 80 ⟨as80,rs80,λx=>sh80 fu (λ_=>false) x.1 x.2.1⟩:=
 rfk zD (zK (OrcOk.of ⟨zRr,zB2⟩ rfl) zD) zD zD fdok80 rfl (ya rfl) (λa x=>by show run80 fu a x.1 x.2.1=_;rw[eq80];rfl)
theorem con82(fu:Nat)(c80:zS as80->Option (zS rs80))(a:ConOk CC Tryz.prog 80 ⟨as80,rs80,c80⟩):ConOk CC Tryz.prog 82 ⟨as82,rs82,λx=>sh82 fu c80 (λ_=>false) x.1 x.2.1⟩:=
 rfk zD (zK (OrcOk.of ⟨zQg,a⟩ rfl) zD) zD zD fdok82 rfl (ya rfl) (λb x=>by show run82 fu c80 b x.1 x.2.1=_;rw[eq82];rfl)
end
section
open Go.Al Go.Den
def sh74(fu:Nat)(c23:((List TkT)×Unit)->(Option (LT×Unit)))(c80:(MacT×(Int×Unit))->(Option (Int×Unit)))(c82:(MacT×(Int×Unit))->(Option (Bool×Unit)))(i:Nat->Bool)(d:MacT)(e:(List (Bool×(List TkT))))(f:(List (Bool×(List TkT)))):(Option ((List TkT)×Unit)):=iter fu (λ(b:(((List TkT)×(Int×Unit))×((Str×(Bool×((List Str)×(Bool×((Bool×LT)×Unit)))))×Unit))->Option ((List TkT)×Unit))(a:(((List TkT)×(Int×Unit))×((Str×(Bool×((List Str)×(Bool×((Bool×LT)×Unit)))))×Unit)))=>cond (ilt a.1.2.1 (lenI a.2.1.2.2.2.2.1.2)) (cond (inB a.1.2.1 a.2.1.2.2.2.2.1.2.length) (Option.bind (c80 ((MacT.mk a.2.1.1 a.2.1.2.1 a.2.1.2.2.1 a.2.1.2.2.2.1 (a.2.1.2.2.2.2.1.1,a.2.1.2.2.2.2.1.2)),(a.1.2.1,()))) λc=>Option.bind (c82 ((MacT.mk a.2.1.1 a.2.1.2.1 a.2.1.2.2.1 a.2.1.2.2.2.1 (a.2.1.2.2.2.2.1.1,a.2.1.2.2.2.2.1.2)),(a.1.2.1,()))) λh=>cond h.1 (Option.bind (c80 ((MacT.mk a.2.1.1 a.2.1.2.1 a.2.1.2.2.1 a.2.1.2.2.2.1 (a.2.1.2.2.2.2.1.1,a.2.1.2.2.2.2.1.2)),((iadd .i64 a.1.2.1 1),()))) λg=>cond (inB g.1 e.length) (Option.bind (c23 ((List.getD e g.1.toNat (true,[])).2,())) λj=>none) (none)) (cond (ieq (List.getD a.2.1.2.2.2.2.1.2 a.1.2.1.toNat tokD).kind 5) (cond (seq (List.getD a.2.1.2.2.2.2.1.2 a.1.2.1.toNat tokD).text [35,35]) (cond (okN 88 (a.1.1.length+(List.length [(TkT.mk (List.getD a.2.1.2.2.2.2.1.2 a.1.2.1.toNat tokD).kind (List.getD a.2.1.2.2.2.2.1.2 a.1.2.1.toNat tokD).text (List.getD a.2.1.2.2.2.2.1.2 a.1.2.1.toNat tokD).file (List.getD a.2.1.2.2.2.2.1.2 a.1.2.1.toNat tokD).ffrom (List.getD a.2.1.2.2.2.2.1.2 a.1.2.1.toNat tokD).fto (List.getD a.2.1.2.2.2.2.1.2 a.1.2.1.toNat tokD).blank [] false true)]))) (b (((a.1.1++[(TkT.mk (List.getD a.2.1.2.2.2.2.1.2 a.1.2.1.toNat tokD).kind (List.getD a.2.1.2.2.2.2.1.2 a.1.2.1.toNat tokD).text (List.getD a.2.1.2.2.2.2.1.2 a.1.2.1.toNat tokD).file (List.getD a.2.1.2.2.2.2.1.2 a.1.2.1.toNat tokD).ffrom (List.getD a.2.1.2.2.2.2.1.2 a.1.2.1.toNat tokD).fto (List.getD a.2.1.2.2.2.2.1.2 a.1.2.1.toNat tokD).blank [] false true)]),((iadd .i64 a.1.2.1 1),())),((a.2.1.1,(a.2.1.2.1,(a.2.1.2.2.1,(a.2.1.2.2.2.1,((a.2.1.2.2.2.2.1.1,a.2.1.2.2.2.2.1.2),()))))),()))) (none)) (cond (ile 0 c.1) (none) (cond (ile 0 c.1) (none) (cond (ile 0 c.1) (cond (inB c.1 f.length) (none) (none)) (cond (okN 88 (a.1.1.length+(List.length [(TkT.mk (List.getD a.2.1.2.2.2.2.1.2 a.1.2.1.toNat tokD).kind (List.getD a.2.1.2.2.2.2.1.2 a.1.2.1.toNat tokD).text (List.getD a.2.1.2.2.2.2.1.2 a.1.2.1.toNat tokD).file (List.getD a.2.1.2.2.2.2.1.2 a.1.2.1.toNat tokD).ffrom (List.getD a.2.1.2.2.2.2.1.2 a.1.2.1.toNat tokD).fto (List.getD a.2.1.2.2.2.2.1.2 a.1.2.1.toNat tokD).blank [] false false)]))) (b (((a.1.1++[(TkT.mk (List.getD a.2.1.2.2.2.2.1.2 a.1.2.1.toNat tokD).kind (List.getD a.2.1.2.2.2.2.1.2 a.1.2.1.toNat tokD).text (List.getD a.2.1.2.2.2.2.1.2 a.1.2.1.toNat tokD).file (List.getD a.2.1.2.2.2.2.1.2 a.1.2.1.toNat tokD).ffrom (List.getD a.2.1.2.2.2.2.1.2 a.1.2.1.toNat tokD).fto (List.getD a.2.1.2.2.2.2.1.2 a.1.2.1.toNat tokD).blank [] false false)]),((iadd .i64 a.1.2.1 1),())),((a.2.1.1,(a.2.1.2.1,(a.2.1.2.2.1,(a.2.1.2.2.2.1,((a.2.1.2.2.2.2.1.1,a.2.1.2.2.2.2.1.2),()))))),()))) (none)))))) (cond (ile 0 c.1) (none) (cond (ile 0 c.1) (none) (cond (ile 0 c.1) (cond (inB c.1 f.length) (none) (none)) (cond (okN 88 (a.1.1.length+(List.length [(TkT.mk (List.getD a.2.1.2.2.2.2.1.2 a.1.2.1.toNat tokD).kind (List.getD a.2.1.2.2.2.2.1.2 a.1.2.1.toNat tokD).text (List.getD a.2.1.2.2.2.2.1.2 a.1.2.1.toNat tokD).file (List.getD a.2.1.2.2.2.2.1.2 a.1.2.1.toNat tokD).ffrom (List.getD a.2.1.2.2.2.2.1.2 a.1.2.1.toNat tokD).fto (List.getD a.2.1.2.2.2.2.1.2 a.1.2.1.toNat tokD).blank [] false false)]))) (b (((a.1.1++[(TkT.mk (List.getD a.2.1.2.2.2.2.1.2 a.1.2.1.toNat tokD).kind (List.getD a.2.1.2.2.2.2.1.2 a.1.2.1.toNat tokD).text (List.getD a.2.1.2.2.2.2.1.2 a.1.2.1.toNat tokD).file (List.getD a.2.1.2.2.2.2.1.2 a.1.2.1.toNat tokD).ffrom (List.getD a.2.1.2.2.2.2.1.2 a.1.2.1.toNat tokD).fto (List.getD a.2.1.2.2.2.2.1.2 a.1.2.1.toNat tokD).blank [] false false)]),((iadd .i64 a.1.2.1 1),())),((a.2.1.1,(a.2.1.2.1,(a.2.1.2.2.1,(a.2.1.2.2.2.1,((a.2.1.2.2.2.2.1.1,a.2.1.2.2.2.2.1.2),()))))),()))) (none))))))) (none)) (some (a.1.1,()))) (([],(0,())),(((MacT.name d),((MacT.func d),((MacT.params d),((MacT.variadic d),(((MacT.body d).1,(MacT.body d).2),()))))),()))
theorem eq74:@run74=@sh74:=by kernel_rfl
def sh73(fu:Nat)(x:Unit)(a:((List TkT)×Unit)):(Option (Option (Unit×((Option (List TkT))×(Int×Unit))))):=iter fu (λ(d:(((Option (List TkT))×(Int×Unit))×Unit)->Option (Option (Unit×((Option (List TkT))×(Int×Unit)))))(b:(((Option (List TkT))×(Int×Unit))×Unit))=>z8 b.1.1 (cond (ilt b.1.2.1 (lenI a.1)) (cond (inB b.1.2.1 a.1.length) (cond (!(List.getD a.1 b.1.2.1.toNat tkD).op) (cond (inB b.1.2.1 a.1.length) (cond (okN 88 (List.length [(List.getD a.1 b.1.2.1.toNat tkD)])) (cond (eqN (List.length [(List.getD a.1 b.1.2.1.toNat tkD)]) (List.length (zL (List.length [(List.getD a.1 b.1.2.1.toNat tkD)]) [(List.getD a.1 b.1.2.1.toNat tkD)]))) (d (((some (zL (List.length [(List.getD a.1 b.1.2.1.toNat tkD)]) [(List.getD a.1 b.1.2.1.toNat tkD)])),((iadd .i64 b.1.2.1 1),())),())) (none)) (none)) (none)) (cond (ieq 0 0) (cond (inB b.1.2.1 a.1.length) (cond (okN 88 (List.length [(List.getD a.1 b.1.2.1.toNat tkD)])) (cond (eqN (List.length [(List.getD a.1 b.1.2.1.toNat tkD)]) (List.length (zL (List.length [(List.getD a.1 b.1.2.1.toNat tkD)]) [(List.getD a.1 b.1.2.1.toNat tkD)]))) (d (((some (zL (List.length [(List.getD a.1 b.1.2.1.toNat tkD)]) [(List.getD a.1 b.1.2.1.toNat tkD)])),((iadd .i64 b.1.2.1 1),())),())) (none)) (none)) (none)) (cond (ieq (iadd .i64 b.1.2.1 1) (lenI a.1)) (cond (inB b.1.2.1 a.1.length) (cond (okN 88 (List.length [(List.getD a.1 b.1.2.1.toNat tkD)])) (cond (eqN (List.length [(List.getD a.1 b.1.2.1.toNat tkD)]) (List.length (zL (List.length [(List.getD a.1 b.1.2.1.toNat tkD)]) [(List.getD a.1 b.1.2.1.toNat tkD)]))) (d (((some (zL (List.length [(List.getD a.1 b.1.2.1.toNat tkD)]) [(List.getD a.1 b.1.2.1.toNat tkD)])),((iadd .i64 b.1.2.1 1),())),())) (none)) (none)) (none)) (none)))) (none)) (some (some ((),(none,(0,())))))) λc=>cond (ilt b.1.2.1 (lenI a.1)) (cond (inB b.1.2.1 a.1.length) (cond (!(List.getD a.1 b.1.2.1.toNat tkD).op) (cond (inB b.1.2.1 a.1.length) (cond ((Nat.ble c.length c.length)&&(okN 88 (c.length+(List.length [(List.getD a.1 b.1.2.1.toNat tkD)])))) (cond (eqN (c.length+(List.length [(List.getD a.1 b.1.2.1.toNat tkD)])) (List.length (zL (c.length+(List.length [(List.getD a.1 b.1.2.1.toNat tkD)])) ((List.take c.length c)++[(List.getD a.1 b.1.2.1.toNat tkD)])))) (d (((some (zL (c.length+(List.length [(List.getD a.1 b.1.2.1.toNat tkD)])) ((List.take c.length c)++[(List.getD a.1 b.1.2.1.toNat tkD)]))),((iadd .i64 b.1.2.1 1),())),())) (none)) (none)) (none)) (cond (ieq (Int.ofNat c.length) 0) (cond (inB b.1.2.1 a.1.length) (cond ((Nat.ble c.length c.length)&&(okN 88 (c.length+(List.length [(List.getD a.1 b.1.2.1.toNat tkD)])))) (cond (eqN (c.length+(List.length [(List.getD a.1 b.1.2.1.toNat tkD)])) (List.length (zL (c.length+(List.length [(List.getD a.1 b.1.2.1.toNat tkD)])) ((List.take c.length c)++[(List.getD a.1 b.1.2.1.toNat tkD)])))) (d (((some (zL (c.length+(List.length [(List.getD a.1 b.1.2.1.toNat tkD)])) ((List.take c.length c)++[(List.getD a.1 b.1.2.1.toNat tkD)]))),((iadd .i64 b.1.2.1 1),())),())) (none)) (none)) (none)) (cond (ieq (iadd .i64 b.1.2.1 1) (lenI a.1)) (cond (inB b.1.2.1 a.1.length) (cond ((Nat.ble c.length c.length)&&(okN 88 (c.length+(List.length [(List.getD a.1 b.1.2.1.toNat tkD)])))) (cond (eqN (c.length+(List.length [(List.getD a.1 b.1.2.1.toNat tkD)])) (List.length (zL (c.length+(List.length [(List.getD a.1 b.1.2.1.toNat tkD)])) ((List.take c.length c)++[(List.getD a.1 b.1.2.1.toNat tkD)])))) (d (((some (zL (c.length+(List.length [(List.getD a.1 b.1.2.1.toNat tkD)])) ((List.take c.length c)++[(List.getD a.1 b.1.2.1.toNat tkD)]))),((iadd .i64 b.1.2.1 1),())),())) (none)) (none)) (none)) (cond (inB (isub .i64 (Int.ofNat c.length) 1) c.length) (cond (inB (iadd .i64 b.1.2.1 1) a.1.length) (cond (TkT.mark (List.getD a.1 (Int.toNat (iadd .i64 b.1.2.1 1)) tkD)) (cond (eqN c.length (List.length (zL c.length c))) (d (((some (zL c.length c)),((iadd .i64 (iadd .i64 b.1.2.1 1) 1),())),())) (none)) (cond (Nat.blt (Int.toNat (isub .i64 (Int.ofNat c.length) 1)) c.length) (cond (TkT.mark (List.getD c (Int.toNat (isub .i64 (Int.ofNat c.length) 1)) tkD)) (cond (Nat.blt (Int.toNat (isub .i64 (Int.ofNat c.length) 1)) c.length) (cond (Nat.blt (Int.toNat (isub .i64 (Int.ofNat c.length) 1)) c.length) (cond (eqN c.length (List.length (zL c.length (List.set c (Int.toNat (isub .i64 (Int.ofNat c.length) 1)) (tkBl (List.getD a.1 (Int.toNat (iadd .i64 b.1.2.1 1)) tkD) (TkT.blank (List.getD c (Int.toNat (isub .i64 (Int.ofNat c.length) 1)) tkD))))))) (d (((some (zL c.length (List.set c (Int.toNat (isub .i64 (Int.ofNat c.length) 1)) (tkBl (List.getD a.1 (Int.toNat (iadd .i64 b.1.2.1 1)) tkD) (TkT.blank (List.getD c (Int.toNat (isub .i64 (Int.ofNat c.length) 1)) tkD)))))),((iadd .i64 (iadd .i64 b.1.2.1 1) 1),())),())) (none)) (none)) (none)) (cond (Nat.blt (Int.toNat (isub .i64 (Int.ofNat c.length) 1)) c.length) (none) (none))) (none))) (none)) (none))))) (none)) (cond (eqN c.length c.length) (some (some ((),((some c),(0,()))))) (none))) ((none,(0,())),())
theorem eq73:@run73=@sh73:=by kernel_rfl
def sh75(fu:Nat)(x:Unit)(a:((Option (List TkT))×(Unit×Unit))):(Option (Option (Unit×((Option (List TkT))×Unit)))):=z8 a.1 (iter fu (λ(h:((Int×Unit)×((Option (List TkT))×Unit))->Option (Option (Unit×((Option (List TkT))×Unit))))(f:((Int×Unit)×((Option (List TkT))×Unit)))=>z8 f.2.1 (cond (ilt f.1.1 0) (none) (cond (ieq (Neg.neg 1) (Neg.neg 1)) (some (some ((),(none,())))) (iter fu (λ(e:((Int×(Int×Unit))×((Option (List TkT))×Unit))->Option (Option (Unit×((Option (List TkT))×Unit))))(b:((Int×(Int×Unit))×((Option (List TkT))×Unit)))=>z8 b.2.1 (cond (ilt b.1.2.1 0) (none) (none)) λc=>none) (((Neg.neg 1),((iadd .i64 (Neg.neg 1) 1),())),(none,()))))) λc=>none) ((0,()),(none,()))) λc=>cond (eqN c.length (List.length (zL c.length c))) (iter fu (λ(h:((Int×Unit)×((Option (List TkT))×Unit))->Option (Option (Unit×((Option (List TkT))×Unit))))(f:((Int×Unit)×((Option (List TkT))×Unit)))=>z8 f.2.1 (none) λg=>cond (ilt f.1.1 (Int.ofNat c.length)) (cond (inB f.1.1 c.length) (cond (Nat.blt f.1.1.toNat g.length) (cond (List.getD g f.1.1.toNat tkD).mark (cond (ieq f.1.1 (Neg.neg 1)) (cond (eqN c.length g.length) (some (some ((),((some g),())))) (none)) (cond (eqN c.length (List.length (zL c.length g))) (iter fu (λ(e:((Int×(Int×Unit))×((Option (List TkT))×Unit))->Option (Option (Unit×((Option (List TkT))×Unit))))(b:((Int×(Int×Unit))×((Option (List TkT))×Unit)))=>z8 b.2.1 (none) λd=>cond (ilt b.1.2.1 (Int.ofNat c.length)) (cond (inB b.1.2.1 c.length) (cond (Nat.blt b.1.2.1.toNat d.length) (cond (!(List.getD d b.1.2.1.toNat tkD).mark) (cond (inB b.1.1 c.length) (cond (Nat.blt b.1.1.toNat d.length) (cond (eqN c.length (List.length (zL c.length (List.set d b.1.1.toNat (List.getD d b.1.2.1.toNat tkD))))) (e (((iadd .i64 b.1.1 1),((iadd .i64 b.1.2.1 1),())),((some (zL c.length (List.set d b.1.1.toNat (List.getD d b.1.2.1.toNat tkD)))),()))) (none)) (none)) (none)) (cond (eqN c.length (List.length (zL c.length d))) (e ((b.1.1,((iadd .i64 b.1.2.1 1),())),((some (zL c.length d)),()))) (none))) (none)) (none)) (cond (inS b.1.1 (Int.ofNat c.length) d.length) (cond (Nat.ble (b.1.1.toNat+((Int.toNat (Int.ofNat c.length))-b.1.1.toNat)) d.length) (cond (Nat.beq ((Int.toNat (Int.ofNat c.length))-b.1.1.toNat) 0) (cond (inS 0 b.1.1 d.length) (cond (eqN b.1.1.toNat d.length) (some (some ((),((some d),())))) (none)) (none)) (cond (inS 0 b.1.1 (List.length (zL b.1.1.toNat d))) (cond (eqN b.1.1.toNat (List.length (zL b.1.1.toNat d))) (some (some ((),((some (zL b.1.1.toNat d)),())))) (none)) (none))) (none)) (none))) ((f.1.1,((iadd .i64 f.1.1 1),())),((some (zL c.length g)),()))) (none))) (cond (eqN c.length (List.length (zL c.length g))) (h (((iadd .i64 f.1.1 1),()),((some (zL c.length g)),()))) (none))) (none)) (none)) (cond (ieq (Neg.neg 1) (Neg.neg 1)) (cond (eqN c.length g.length) (some (some ((),((some g),())))) (none)) (cond (eqN c.length (List.length (zL c.length g))) (iter fu (λ(e:((Int×(Int×Unit))×((Option (List TkT))×Unit))->Option (Option (Unit×((Option (List TkT))×Unit))))(b:((Int×(Int×Unit))×((Option (List TkT))×Unit)))=>z8 b.2.1 (none) λd=>cond (ilt b.1.2.1 (Int.ofNat c.length)) (cond (inB b.1.2.1 c.length) (cond (Nat.blt b.1.2.1.toNat d.length) (cond (!(List.getD d b.1.2.1.toNat tkD).mark) (cond (inB b.1.1 c.length) (cond (Nat.blt b.1.1.toNat d.length) (cond (eqN c.length (List.length (zL c.length (List.set d b.1.1.toNat (List.getD d b.1.2.1.toNat tkD))))) (e (((iadd .i64 b.1.1 1),((iadd .i64 b.1.2.1 1),())),((some (zL c.length (List.set d b.1.1.toNat (List.getD d b.1.2.1.toNat tkD)))),()))) (none)) (none)) (none)) (cond (eqN c.length (List.length (zL c.length d))) (e ((b.1.1,((iadd .i64 b.1.2.1 1),())),((some (zL c.length d)),()))) (none))) (none)) (none)) (cond (inS b.1.1 (Int.ofNat c.length) d.length) (cond (Nat.ble (b.1.1.toNat+((Int.toNat (Int.ofNat c.length))-b.1.1.toNat)) d.length) (cond (Nat.beq ((Int.toNat (Int.ofNat c.length))-b.1.1.toNat) 0) (cond (inS 0 b.1.1 d.length) (cond (eqN b.1.1.toNat d.length) (some (some ((),((some d),())))) (none)) (none)) (cond (inS 0 b.1.1 (List.length (zL b.1.1.toNat d))) (cond (eqN b.1.1.toNat (List.length (zL b.1.1.toNat d))) (some (some ((),((some (zL b.1.1.toNat d)),())))) (none)) (none))) (none)) (none))) (((Neg.neg 1),((iadd .i64 (Neg.neg 1) 1),())),((some (zL c.length g)),()))) (none)))) ((0,()),((some (zL c.length c)),()))) (none)
theorem eq75:@run75=@sh75:=by kernel_rfl
def sh77(fu:Nat)(c87:((List (Bool×(List Str)))×Unit)->(Option ((List Str)×Unit)))(c88:((List Str)×Unit)->(Option Unit))(c89:((List Str)×Unit)->(Option ((List Str)×Unit)))(e:Nat->Bool)(a:(List Str))(b:(List Str)):(Option ((List Str)×Unit)):=Option.bind (c87 ([((List.isEmpty a),a),((List.isEmpty b),b)],())) λc=>Option.bind (c88 (c.1,())) λf=>Option.bind (c89 (c.1,())) λd=>some (d.1,())
theorem eq77:@run77=@sh77:=by kernel_rfl
theorem con74(fu:Nat)(c23:zS as23->Option (zS rs23))(a:ConOk CC Tryz.prog 23 ⟨as23,rs23,c23⟩)(c80:zS as80->Option (zS rs80))(b:ConOk CC Tryz.prog 80 ⟨as80,rs80,c80⟩)(c82:zS as82->Option (zS rs82))(c:ConOk CC Tryz.prog 82 ⟨as82,rs82,c82⟩):ConOk CC Tryz.prog 74 ⟨as74,rs74,λx=>sh74 fu c23 c80 c82 (λ_=>false) x.1 x.2.1 x.2.2.1⟩:=
 rfk zD (zK (OrcOk.of ⟨zQ1,a⟩ rfl) (zK (OrcOk.of ⟨zQg,b⟩ rfl) (zK (OrcOk.of ⟨code81,zB2⟩ rfl) (zK (OrcOk.of ⟨code82,c⟩ rfl) (zK (OrcOk.of ⟨code84,zB2⟩ rfl) (zK (OrcOk.of ⟨code85,zB2⟩ rfl) zD)))))) zD zD fdok74 rfl (ya rfl) (λd x=>by show run74 fu c23 c80 c82 d x.1 x.2.1 x.2.2.1=_;rw[eq74];rfl)
theorem con73(fu:Nat) :CQ 73 (cF kD kF (mF (sh73 fu))):=
 zO2 (zBe (syn:=syn) (fu:=fu) (d:=2) (inl:=zB []) (orc:=zB [(61,(⟨as61,rs61,nn as61 rs61⟩:Con UU)),(83,(⟨as83,rs83,nn as83 rs83⟩:Con UU))]) (orr:=zB []) (orp:=zB []) (pf:=hasN [61,83]) (rf:=hasN []) zCX CCok mixed (λg=>(yT (α:=Con UU) (l:=[(61,(⟨as61,rs61,nn as61 rs61⟩:Con UU)),(83,(⟨as83,rs83,nn as83 rs83⟩:Con UU))]) g).symm) (λg=>(yT (α:=CR UU) (l:=[]) g).symm) zD (zK (OrcOk.of ⟨zQO,zB2⟩ rfl) (zK (OrcOk.of ⟨code83,zB2⟩ rfl) zD)) zD zD fdok73 (by show(k0:LK).length+(kD:LK).length<=98;decide) (λx a=>by show run73 fu x a=sh73 fu x a;rw[eq73]))
theorem con75(fu:Nat) :CQ 75 (cF ([.arr TI.tk,.fn 76]:LK) kA (mF (sh75 fu))):=
 zO2 (zBe (syn:=syn) (fu:=fu) (d:=4) (inl:=zB [(76,fd76),(86,fd86)]) (orc:=zB []) (orr:=zB []) (orp:=zB []) (pf:=hasN []) (rf:=hasN []) zCX CCok mixed (λg=>(yT (α:=Con UU) (l:=[]) g).symm) (λg=>(yT (α:=CR UU) (l:=[]) g).symm) (zK zRh (zK zR5 zD)) zD zD zD fdok75 (by show(k0:LK).length+(([.arr TI.tk,.fn 76]:LK):LK).length<=42;decide) (λx a=>by show run75 fu x a=sh75 fu x a;rw[eq75]))
theorem con77(fu:Nat)(c87:zS as87->Option (zS rs87))(a:ConOk CC Tryz.prog 87 ⟨as87,rs87,c87⟩)(c88:zS as88->Option (zS rs88))(b:ConOk CC Tryz.prog 88 ⟨as88,rs88,c88⟩)(c89:zS as89->Option (zS rs89))(c:ConOk CC Tryz.prog 89 ⟨as89,rs89,c89⟩):ConOk CC Tryz.prog 77 ⟨as77,rs77,λx=>sh77 fu c87 c88 c89 (λ_=>false) x.1 x.2.1⟩:=
 rfk zD (zK (OrcOk.of ⟨code87,a⟩ rfl) (zK (OrcOk.of ⟨code88,b⟩ rfl) (zK (OrcOk.of ⟨code89,c⟩ rfl) zD))) zD zD fdok77 rfl (ya rfl) (λd x=>by show run77 fu c87 c88 c89 d x.1 x.2.1=_;rw[eq77];rfl)
end
section
open Go.Al Go.Den
def sh46(fu:Nat)(c63:(MacT×((List (Bool×(List TkT)))×((List Str)×Unit)))->(List (Str×MacT))->Int->(Option (((Option (List TkT))×(Int×Unit))×((List (Str×MacT))×Int))))(x:(((List (Str×MacT))×(Int×Unit))×Unit))(a:(MacT×((Bool×(List TkT))×Unit))):(Option (Option ((((List (Str×MacT))×(Int×Unit))×Unit)×((Option (List TkT))×(Int×(Int×Unit)))))):=cond (inB 0 a.2.1.2.length) (qU (λ(b:((Int×((List (Bool×(List TkT)))×((List TkT)×((List Str)×Unit))))×(((List (Str×MacT))×(Int×Unit))×((Str×(Bool×((List Str)×(Bool×((Bool×LT)×Unit)))))×Unit)))->Option (Option ((((List (Str×MacT))×(Int×Unit))×Unit)×((Option (List TkT))×(Int×(Int×Unit))))))=>cond (MacT.func a.1) (cond (inS 1 (lenI a.2.1.2) a.2.1.2.length) (none) (none)) (b ((0,([],([],((List.getD a.2.1.2 0 tkD).hide,())))),((x.1.1,(x.1.2.1,())),(((MacT.name a.1),((MacT.func a.1),((MacT.params a.1),((MacT.variadic a.1),(((MacT.body a.1).1,(MacT.body a.1).2),()))))),()))))) (λ(c:((Int×((List (Bool×(List TkT)))×((List TkT)×((List Str)×Unit))))×(((List (Str×MacT))×(Int×Unit))×((Str×(Bool×((List Str)×(Bool×((Bool×LT)×Unit)))))×Unit))))=>cond (ieq c.2.1.2.1 1000) (some (some (((c.2.1.1,(c.2.1.2.1,())),()),(none,(0,(82,())))))) (qU (λ(b:((Int×((List (Bool×(List TkT)))×Unit))×(((List (Str×MacT))×(Int×Unit))×((Str×(Bool×((List Str)×(Bool×((Bool×LT)×Unit)))))×Unit)))->Option (Option ((((List (Str×MacT))×(Int×Unit))×Unit)×((Option (List TkT))×(Int×(Int×Unit))))))=>cond c.2.2.1.2.1 (none) (b ((c.1.1,(c.1.2.1,())),((c.2.1.1,((iadd .i64 c.2.1.2.1 1),())),((c.2.2.1.1,(c.2.2.1.2.1,(c.2.2.1.2.2.1,(c.2.2.1.2.2.2.1,((c.2.2.1.2.2.2.2.1.1,c.2.2.1.2.2.2.2.1.2),()))))),()))))) (λ(d:((Int×((List (Bool×(List TkT)))×Unit))×(((List (Str×MacT))×(Int×Unit))×((Str×(Bool×((List Str)×(Bool×((Bool×LT)×Unit)))))×Unit))))=>Option.bind (c63 ((MacT.mk d.2.2.1.1 d.2.2.1.2.1 d.2.2.1.2.2.1 d.2.2.1.2.2.2.1 (d.2.2.1.2.2.2.2.1.1,d.2.2.1.2.2.2.2.1.2)),(d.1.2.1,(c.1.2.2.2.1,()))) d.2.1.1 d.2.1.2.1) λe=>z8 e.1.1 (some (some (((e.2.1,(e.2.2,())),()),(none,(d.1.1,(e.1.2.1,())))))) λf=>cond (eqN f.length f.length) (some (some (((e.2.1,(e.2.2,())),()),((some f),(d.1.1,(e.1.2.1,())))))) (none))))) (none)
theorem eq46:@run46=@sh46:=by kernel_rfl
def sh63(fu:Nat)(c74:(MacT×((List (Bool×(List TkT)))×((List (Bool×(List TkT)))×Unit)))->(Option ((List TkT)×Unit)))(c77:((List Str)×((List Str)×Unit))->(Option ((List Str)×Unit)))(c78:((List Str)×Unit)->(Option ((List Str)×Unit)))(c72:(MacT×((List (Bool×(List TkT)))×Unit))->(List (Str×MacT))->Int->(Option (((Bool×(List (Bool×(List TkT))))×(Int×Unit))×((List (Str×MacT))×Int))))(c73:((List TkT)×Unit)->(Option ((Option (List TkT))×(Int×Unit))))(c75:((Option (List TkT))×(Unit×Unit))->(Option ((Option (List TkT))×Unit)))(x:(((List (Str×MacT))×(Int×Unit))×Unit))(a:(MacT×((List (Bool×(List TkT)))×((List Str)×Unit)))):(Option (Option ((((List (Str×MacT))×(Int×Unit))×Unit)×((Option (List TkT))×(Int×Unit))))):=Option.bind (c72 (a.1,(a.2.1,())) x.1.1 x.1.2.1) λd=>cond (ine d.1.2.1 0) (some (some (((d.2.1,(d.2.2,())),()),(none,(d.1.2.1,()))))) (Option.bind (c74 (a.1,(a.2.1,(d.1.1.2,())))) λl=>Option.bind (c73 (l.1,())) λi=>z8 i.1 (cond (ine i.2.1 0) (some (some (((d.2.1,(d.2.2,())),()),(none,(i.2.1,()))))) (Option.bind (c75 (none,((),()))) λj=>z8 j.1 (iter fu (λ(e:((Int×Unit)×(((List (Str×MacT))×(Int×Unit))×((Str×(Bool×((List Str)×(Bool×((Bool×LT)×Unit)))))×((Option (List TkT))×Unit))))->Option (Option ((((List (Str×MacT))×(Int×Unit))×Unit)×((Option (List TkT))×(Int×Unit)))))(b:((Int×Unit)×(((List (Str×MacT))×(Int×Unit))×((Str×(Bool×((List Str)×(Bool×((Bool×LT)×Unit)))))×((Option (List TkT))×Unit)))))=>z8 b.2.2.2.1 (cond (ilt b.1.1 0) (none) (cond (ilt 4000 0) (some (some (((b.2.1.1,(b.2.1.2.1,())),()),(none,(82,()))))) (some (some (((b.2.1.1,(b.2.1.2.1,())),()),(none,(0,()))))))) λf=>none) ((0,()),((d.2.1,(d.2.2,())),(((MacT.name a.1),((MacT.func a.1),((MacT.params a.1),((MacT.variadic a.1),(((MacT.body a.1).1,(MacT.body a.1).2),()))))),(none,()))))) λf=>cond (eqN f.length (List.length (zL f.length f))) (iter fu (λ(e:((Int×Unit)×(((List (Str×MacT))×(Int×Unit))×((Str×(Bool×((List Str)×(Bool×((Bool×LT)×Unit)))))×((Option (List TkT))×Unit))))->Option (Option ((((List (Str×MacT))×(Int×Unit))×Unit)×((Option (List TkT))×(Int×Unit)))))(b:((Int×Unit)×(((List (Str×MacT))×(Int×Unit))×((Str×(Bool×((List Str)×(Bool×((Bool×LT)×Unit)))))×((Option (List TkT))×Unit)))))=>z8 b.2.2.2.1 (none) λc=>cond (ilt b.1.1 (Int.ofNat f.length)) (cond (inB b.1.1 f.length) (cond (Nat.blt b.1.1.toNat c.length) (Option.bind (c78 (a.2.2.1,())) λg=>cond (List.isEmpty g.1) (cond (okN 16 (List.length [b.2.2.1.1])) (Option.bind (c77 ((List.getD c b.1.1.toNat tkD).hide,([b.2.2.1.1],()))) λh=>cond (inB b.1.1 f.length) (cond (Nat.blt b.1.1.toNat c.length) (cond (inB b.1.1 f.length) (cond (Nat.blt b.1.1.toNat (List.length (List.set c b.1.1.toNat (tkHd (List.getD c b.1.1.toNat tkD) h.1)))) (cond (eqN f.length (List.length (zL f.length (List.set (List.set c b.1.1.toNat (tkHd (List.getD c b.1.1.toNat tkD) h.1)) b.1.1.toNat (tkOp (List.getD (List.set c b.1.1.toNat (tkHd (List.getD c b.1.1.toNat tkD) h.1)) b.1.1.toNat tkD) false))))) (e (((iadd .i64 b.1.1 1),()),((b.2.1.1,(b.2.1.2.1,())),((b.2.2.1.1,(b.2.2.1.2.1,(b.2.2.1.2.2.1,(b.2.2.1.2.2.2.1,((b.2.2.1.2.2.2.2.1.1,b.2.2.1.2.2.2.2.1.2),()))))),((some (zL f.length (List.set (List.set c b.1.1.toNat (tkHd (List.getD c b.1.1.toNat tkD) h.1)) b.1.1.toNat (tkOp (List.getD (List.set c b.1.1.toNat (tkHd (List.getD c b.1.1.toNat tkD) h.1)) b.1.1.toNat tkD) false)))),()))))) (none)) (none)) (none)) (none)) (none)) (none)) (none)) (none)) (none)) (cond (ilt 4000 (Int.ofNat f.length)) (some (some (((b.2.1.1,(b.2.1.2.1,())),()),(none,(82,()))))) (cond (eqN f.length c.length) (some (some (((b.2.1.1,(b.2.1.2.1,())),()),((some c),(0,()))))) (none)))) ((0,()),((d.2.1,(d.2.2,())),(((MacT.name a.1),((MacT.func a.1),((MacT.params a.1),((MacT.variadic a.1),(((MacT.body a.1).1,(MacT.body a.1).2),()))))),((some (zL f.length f)),()))))) (none))) λj=>cond (ine i.2.1 0) (some (some (((d.2.1,(d.2.2,())),()),(none,(i.2.1,()))))) (cond (eqN j.length j.length) (Option.bind (c75 ((some j),((),()))) λf=>z8 f.1 (iter fu (λ(e:((Int×Unit)×(((List (Str×MacT))×(Int×Unit))×((Str×(Bool×((List Str)×(Bool×((Bool×LT)×Unit)))))×((Option (List TkT))×Unit))))->Option (Option ((((List (Str×MacT))×(Int×Unit))×Unit)×((Option (List TkT))×(Int×Unit)))))(b:((Int×Unit)×(((List (Str×MacT))×(Int×Unit))×((Str×(Bool×((List Str)×(Bool×((Bool×LT)×Unit)))))×((Option (List TkT))×Unit)))))=>z8 b.2.2.2.1 (cond (ilt b.1.1 0) (none) (cond (ilt 4000 0) (some (some (((b.2.1.1,(b.2.1.2.1,())),()),(none,(82,()))))) (some (some (((b.2.1.1,(b.2.1.2.1,())),()),(none,(0,()))))))) λc=>none) ((0,()),((d.2.1,(d.2.2,())),(((MacT.name a.1),((MacT.func a.1),((MacT.params a.1),((MacT.variadic a.1),(((MacT.body a.1).1,(MacT.body a.1).2),()))))),(none,()))))) λc=>cond (eqN c.length (List.length (zL c.length c))) (iter fu (λ(e:((Int×Unit)×(((List (Str×MacT))×(Int×Unit))×((Str×(Bool×((List Str)×(Bool×((Bool×LT)×Unit)))))×((Option (List TkT))×Unit))))->Option (Option ((((List (Str×MacT))×(Int×Unit))×Unit)×((Option (List TkT))×(Int×Unit)))))(b:((Int×Unit)×(((List (Str×MacT))×(Int×Unit))×((Str×(Bool×((List Str)×(Bool×((Bool×LT)×Unit)))))×((Option (List TkT))×Unit)))))=>z8 b.2.2.2.1 (none) λg=>cond (ilt b.1.1 (Int.ofNat c.length)) (cond (inB b.1.1 c.length) (cond (Nat.blt b.1.1.toNat g.length) (Option.bind (c78 (a.2.2.1,())) λh=>cond (List.isEmpty h.1) (cond (okN 16 (List.length [b.2.2.1.1])) (Option.bind (c77 ((List.getD g b.1.1.toNat tkD).hide,([b.2.2.1.1],()))) λk=>cond (inB b.1.1 c.length) (cond (Nat.blt b.1.1.toNat g.length) (cond (inB b.1.1 c.length) (cond (Nat.blt b.1.1.toNat (List.length (List.set g b.1.1.toNat (tkHd (List.getD g b.1.1.toNat tkD) k.1)))) (cond (eqN c.length (List.length (zL c.length (List.set (List.set g b.1.1.toNat (tkHd (List.getD g b.1.1.toNat tkD) k.1)) b.1.1.toNat (tkOp (List.getD (List.set g b.1.1.toNat (tkHd (List.getD g b.1.1.toNat tkD) k.1)) b.1.1.toNat tkD) false))))) (e (((iadd .i64 b.1.1 1),()),((b.2.1.1,(b.2.1.2.1,())),((b.2.2.1.1,(b.2.2.1.2.1,(b.2.2.1.2.2.1,(b.2.2.1.2.2.2.1,((b.2.2.1.2.2.2.2.1.1,b.2.2.1.2.2.2.2.1.2),()))))),((some (zL c.length (List.set (List.set g b.1.1.toNat (tkHd (List.getD g b.1.1.toNat tkD) k.1)) b.1.1.toNat (tkOp (List.getD (List.set g b.1.1.toNat (tkHd (List.getD g b.1.1.toNat tkD) k.1)) b.1.1.toNat tkD) false)))),()))))) (none)) (none)) (none)) (none)) (none)) (none)) (none)) (none)) (none)) (cond (ilt 4000 (Int.ofNat c.length)) (some (some (((b.2.1.1,(b.2.1.2.1,())),()),(none,(82,()))))) (cond (eqN c.length g.length) (some (some (((b.2.1.1,(b.2.1.2.1,())),()),((some g),(0,()))))) (none)))) ((0,()),((d.2.1,(d.2.2,())),(((MacT.name a.1),((MacT.func a.1),((MacT.params a.1),((MacT.variadic a.1),(((MacT.body a.1).1,(MacT.body a.1).2),()))))),((some (zL c.length c)),()))))) (none)) (none)))
theorem eq63:@run63=@sh63:=by kernel_rfl
def sh47(fu:Nat)(x:Unit)(a:((Bool×(List TkT))×Unit)):(Option (Option (Unit×((Option (List TkT))×Unit)))):=cond (nilT (TM.b a.1.1) a.1.2) (some (some ((),(none,())))) (cond (okN 88 (0+a.1.2.length)) (cond (eqN (0+a.1.2.length) (List.length ((List.take 0 [])++a.1.2))) (some (some ((),((some ((List.take 0 [])++a.1.2)),())))) (none)) (none))
theorem eq47:@run47=@sh47:=by kernel_rfl
def sh21(fu:Nat)(c44:(TkT×(Str×Unit))->(Option (Bool×Unit)))(c48:((List (Bool×(List TkT)))×Unit)->(Option ((List TkT)×Unit)))(c46:(MacT×((Bool×(List TkT))×Unit))->(List (Str×MacT))->Int->(Option (((Option (List TkT))×(Int×(Int×Unit)))×((List (Str×MacT))×Int))))(c47:((Bool×(List TkT))×Unit)->(Option ((Option (List TkT))×Unit)))(x:(((List (Str×MacT))×(Int×Unit))×Unit))(a:((Bool×(List TkT))×Unit)):(Option (Option ((((List (Str×MacT))×(Int×Unit))×Unit)×((List TkT)×(Int×Unit))))):=iter fu (λ(c:(((Bool×(List TkT))×((List TkT)×Unit))×(((List (Str×MacT))×(Int×Unit))×Unit))->Option (Option ((((List (Str×MacT))×(Int×Unit))×Unit)×((List TkT)×(Int×Unit)))))(b:(((Bool×(List TkT))×((List TkT)×Unit))×(((List (Str×MacT))×(Int×Unit))×Unit)))=>cond (ilt 0 (lenI b.1.1.2)) (cond (inB 0 b.1.1.2.length) (cond (ine (List.getD b.1.1.2 0 tkD).kind 1) (cond (okN 88 (b.1.2.1.length+(List.length [(List.getD b.1.1.2 0 tkD)]))) (cond (ilt 4000 (lenI (b.1.2.1++[(List.getD b.1.1.2 0 tkD)]))) (some (some (((b.2.1.1,(b.2.1.2.1,())),()),([],(82,()))))) (cond (inS 1 (lenI b.1.1.2) b.1.1.2.length) (c (((b.1.1.1,(cutL b.1.1.2 1 (lenI b.1.1.2))),((b.1.2.1++[(List.getD b.1.1.2 0 tkD)]),())),((b.2.1.1,(b.2.1.2.1,())),()))) (none))) (none)) (Option.bind (c44 ((List.getD b.1.1.2 0 tkD),((List.getD b.1.1.2 0 tkD).text,()))) λi=>cond i.1 (cond (okN 88 (b.1.2.1.length+(List.length [(List.getD b.1.1.2 0 tkD)]))) (cond (ilt 4000 (lenI (b.1.2.1++[(List.getD b.1.1.2 0 tkD)]))) (some (some (((b.2.1.1,(b.2.1.2.1,())),()),([],(82,()))))) (cond (inS 1 (lenI b.1.1.2) b.1.1.2.length) (c (((b.1.1.1,(cutL b.1.1.2 1 (lenI b.1.1.2))),((b.1.2.1++[(List.getD b.1.1.2 0 tkD)]),())),((b.2.1.1,(b.2.1.2.1,())),()))) (none))) (none)) (cond (!(mcH b.2.1.1 (List.getD b.1.1.2 0 tkD).text)) (cond (okN 88 (b.1.2.1.length+(List.length [(List.getD b.1.1.2 0 tkD)]))) (cond (ilt 4000 (lenI (b.1.2.1++[(List.getD b.1.1.2 0 tkD)]))) (some (some (((b.2.1.1,(b.2.1.2.1,())),()),([],(82,()))))) (cond (inS 1 (lenI b.1.1.2) b.1.1.2.length) (c (((b.1.1.1,(cutL b.1.1.2 1 (lenI b.1.1.2))),((b.1.2.1++[(List.getD b.1.1.2 0 tkD)]),())),((b.2.1.1,(b.2.1.2.1,())),()))) (none))) (none)) (cond (MacT.func (mcV macD b.2.1.1 (List.getD b.1.1.2 0 tkD).text)) (cond (ilt (lenI b.1.1.2) 2) (cond (okN 88 (b.1.2.1.length+(List.length [(List.getD b.1.1.2 0 tkD)]))) (cond (ilt 4000 (lenI (b.1.2.1++[(List.getD b.1.1.2 0 tkD)]))) (some (some (((b.2.1.1,(b.2.1.2.1,())),()),([],(82,()))))) (cond (inS 1 (lenI b.1.1.2) b.1.1.2.length) (c (((b.1.1.1,(cutL b.1.1.2 1 (lenI b.1.1.2))),((b.1.2.1++[(List.getD b.1.1.2 0 tkD)]),())),((b.2.1.1,(b.2.1.2.1,())),()))) (none))) (none)) (cond (inB 1 b.1.1.2.length) (none) (none))) (Option.bind (c46 ((MacT.mk (MacT.name (mcV macD b.2.1.1 (List.getD b.1.1.2 0 tkD).text)) (MacT.func (mcV macD b.2.1.1 (List.getD b.1.1.2 0 tkD).text)) (MacT.params (mcV macD b.2.1.1 (List.getD b.1.1.2 0 tkD).text)) (MacT.variadic (mcV macD b.2.1.1 (List.getD b.1.1.2 0 tkD).text)) ((MacT.body (mcV macD b.2.1.1 (List.getD b.1.1.2 0 tkD).text)).1,(MacT.body (mcV macD b.2.1.1 (List.getD b.1.1.2 0 tkD).text)).2)),((b.1.1.1,b.1.1.2),())) b.2.1.1 b.2.1.2.1) λd=>z8 d.1.1 (cond (ine d.1.2.2.1 0) (some (some (((d.2.1,(d.2.2,())),()),([],(d.1.2.2.1,()))))) (cond (inS (iadd .i64 d.1.2.1 1) (lenI b.1.1.2) b.1.1.2.length) (cond (ilt 0 0) (none) (cond (List.getD b.1.1.2 0 tkD).blank (cond (ilt 0 (lenI (cutL b.1.1.2 (iadd .i64 d.1.2.1 1) (lenI b.1.1.2)))) (Option.bind (c47 ((b.1.1.1,(cutL b.1.1.2 (iadd .i64 d.1.2.1 1) (lenI b.1.1.2))),())) λe=>z8 e.1 (none) λf=>cond (inB 0 f.length) (cond (Nat.blt 0 f.length) (cond (Nat.ble f.length (List.length (List.set f 0 (tkBl (List.getD f 0 tkD) true)))) (Option.bind (c48 ([(true,[]),(false,(zL f.length (List.set f 0 (tkBl (List.getD f 0 tkD) true))))],())) λg=>c ((((List.isEmpty g.1),g.1),(b.1.2.1,())),((d.2.1,(d.2.2,())),()))) (none)) (none)) (none)) (Option.bind (c48 ([(true,[]),(b.1.1.1,(cutL b.1.1.2 (iadd .i64 d.1.2.1 1) (lenI b.1.1.2)))],())) λe=>c ((((List.isEmpty e.1),e.1),(b.1.2.1,())),((d.2.1,(d.2.2,())),())))) (Option.bind (c48 ([(true,[]),(b.1.1.1,(cutL b.1.1.2 (iadd .i64 d.1.2.1 1) (lenI b.1.1.2)))],())) λe=>c ((((List.isEmpty e.1),e.1),(b.1.2.1,())),((d.2.1,(d.2.2,())),()))))) (none))) λe=>cond (ine d.1.2.2.1 0) (some (some (((d.2.1,(d.2.2,())),()),([],(d.1.2.2.1,()))))) (cond (inS (iadd .i64 d.1.2.1 1) (lenI b.1.1.2) b.1.1.2.length) (cond (ilt 0 (Int.ofNat e.length)) (cond (inB 0 e.length) (cond (Nat.blt 0 e.length) (cond (Nat.ble e.length (List.length (List.set e 0 (tkBl (List.getD e 0 tkD) (List.getD b.1.1.2 0 tkD).blank)))) (Option.bind (c48 ([(false,(zL e.length (List.set e 0 (tkBl (List.getD e 0 tkD) (List.getD b.1.1.2 0 tkD).blank)))),(b.1.1.1,(cutL b.1.1.2 (iadd .i64 d.1.2.1 1) (lenI b.1.1.2)))],())) λf=>c ((((List.isEmpty f.1),f.1),(b.1.2.1,())),((d.2.1,(d.2.2,())),()))) (none)) (none)) (none)) (cond (List.getD b.1.1.2 0 tkD).blank (cond (ilt 0 (lenI (cutL b.1.1.2 (iadd .i64 d.1.2.1 1) (lenI b.1.1.2)))) (Option.bind (c47 ((b.1.1.1,(cutL b.1.1.2 (iadd .i64 d.1.2.1 1) (lenI b.1.1.2))),())) λf=>z8 f.1 (none) λg=>cond (inB 0 g.length) (cond (Nat.blt 0 g.length) (cond (Nat.ble e.length e.length) (cond (Nat.ble g.length (List.length (List.set g 0 (tkBl (List.getD g 0 tkD) true)))) (Option.bind (c48 ([(false,(zL e.length e)),(false,(zL g.length (List.set g 0 (tkBl (List.getD g 0 tkD) true))))],())) λh=>c ((((List.isEmpty h.1),h.1),(b.1.2.1,())),((d.2.1,(d.2.2,())),()))) (none)) (none)) (none)) (none)) (cond (Nat.ble e.length e.length) (Option.bind (c48 ([(false,(zL e.length e)),(b.1.1.1,(cutL b.1.1.2 (iadd .i64 d.1.2.1 1) (lenI b.1.1.2)))],())) λf=>c ((((List.isEmpty f.1),f.1),(b.1.2.1,())),((d.2.1,(d.2.2,())),()))) (none))) (cond (Nat.ble e.length e.length) (Option.bind (c48 ([(false,(zL e.length e)),(b.1.1.1,(cutL b.1.1.2 (iadd .i64 d.1.2.1 1) (lenI b.1.1.2)))],())) λf=>c ((((List.isEmpty f.1),f.1),(b.1.2.1,())),((d.2.1,(d.2.2,())),()))) (none)))) (none))))))) (none)) (some (some (((b.2.1.1,(b.2.1.2.1,())),()),(b.1.2.1,(0,())))))) (((a.1.1,a.1.2),([],())),((x.1.1,(x.1.2.1,())),()))
theorem eq21:@run21=@sh21:=by kernel_rfl
def sh78(fu:Nat)(b:Nat->Bool)(a:(List Str)):(Option ((List Str)×Unit)):=cond (nilT TM.dl a) (some ([],())) (none)
theorem eq78:@run78=@sh78:=by kernel_rfl
theorem con46(fu:Nat)(c63:zA ([.st TI.mac,.dl TI.tkl,.dl TI.str]:LK)->WW (zA kF))(b:CQ 63 (cW ([.st TI.mac,.dl TI.tkl,.dl TI.str]:LK) kF c63)):CQ 46 (cW kM kG (mW (sh46 fu c63))):=
 zPs (zBe (syn:=syn) (fu:=fu) (d:=2) (inl:=zB []) (orc:=zB [(60,(⟨as60,rs60,nn as60 rs60⟩:Con UU)),(61,(⟨as61,rs61,nn as61 rs61⟩:Con UU)),(62,(⟨as62,rs62,nn as62 rs62⟩:Con UU))]) (orr:=zB []) (orp:=zB [(63,cW ([.st TI.mac,.dl TI.tkl,.dl TI.str]:LK) kF c63)]) (pf:=hasN [60,61,62]) (rf:=hasN []) zCX CCok mixed (λg=>(yT (α:=Con UU) (l:=[(60,(⟨as60,rs60,nn as60 rs60⟩:Con UU)),(61,(⟨as61,rs61,nn as61 rs61⟩:Con UU)),(62,(⟨as62,rs62,nn as62 rs62⟩:Con UU))]) g).symm) (λg=>(yT (α:=CR UU) (l:=[]) g).symm) zD (zK (OrcOk.of ⟨code60,zB2⟩ rfl) (zK (OrcOk.of ⟨zQO,zB2⟩ rfl) (zK (OrcOk.of ⟨code62,zB2⟩ rfl) zD))) zD (zK ⟨code63,b⟩ zD) fdok46 (by show([woK]:LK).length+(kM:LK).length<=69;decide) (λx a=>by show run46 fu c63 x a=sh46 fu c63 x a;rw[eq46]))
theorem con63(fu:Nat)(c74:zS as74->Option (zS rs74))(b:ConOk CC Tryz.prog 74 ⟨as74,rs74,c74⟩)(c77:zS as77->Option (zS rs77))(c:ConOk CC Tryz.prog 77 ⟨as77,rs77,c77⟩)(c78:zS as78->Option (zS rs78))(e:ConOk CC Tryz.prog 78 ⟨as78,rs78,c78⟩)(c72:zA ([.st TI.mac,.dl TI.tkl]:LK)->WW (zA ([.bl TI.tkl,.int .i64]:LK)))(f:CQ 72 (cW ([.st TI.mac,.dl TI.tkl]:LK) ([.bl TI.tkl,.int .i64]:LK) c72))(c73:zA kD->Option (zA kF))(h:CQ 73 (cF kD kF c73))(c75:zA ([.arr TI.tk,.fn 76]:LK)->Option (zA kA))(i:CQ 75 (cF ([.arr TI.tk,.fn 76]:LK) kA c75)):CQ 63 (cW ([.st TI.mac,.dl TI.tkl,.dl TI.str]:LK) kF (mW (sh63 fu c74 c77 c78 c72 c73 c75))):=
 zPs (zBe (syn:=syn) (fu:=fu) (d:=2) (inl:=zB []) (orc:=zB [(74,(⟨as74,rs74,c74⟩:Con UU)),(77,(⟨as77,rs77,c77⟩:Con UU)),(78,(⟨as78,rs78,c78⟩:Con UU))]) (orr:=zB []) (orp:=zB [(72,cW ([.st TI.mac,.dl TI.tkl]:LK) ([.bl TI.tkl,.int .i64]:LK) c72),(73,cF kD kF c73),(75,cF ([.arr TI.tk,.fn 76]:LK) kA c75)]) (pf:=hasN [74,77,78]) (rf:=hasN []) zCX CCok mixed (λg=>(yT (α:=Con UU) (l:=[(74,(⟨as74,rs74,c74⟩:Con UU)),(77,(⟨as77,rs77,c77⟩:Con UU)),(78,(⟨as78,rs78,c78⟩:Con UU))]) g).symm) (λg=>(yT (α:=CR UU) (l:=[]) g).symm) zD (zK (OrcOk.of ⟨code74,b⟩ rfl) (zK (OrcOk.of ⟨code77,c⟩ rfl) (zK (OrcOk.of ⟨code78,e⟩ rfl) zD))) zD (zK ⟨code72,f⟩ (zK ⟨code73,h⟩ (zK ⟨code75,i⟩ zD))) fdok63 (by show([woK]:LK).length+(([.st TI.mac,.dl TI.tkl,.dl TI.str]:LK):LK).length<=67;decide) (λx a=>by show run63 fu c74 c77 c78 c72 c73 c75 x a=sh63 fu c74 c77 c78 c72 c73 c75 x a;rw[eq63]))
theorem con78(fu:Nat) :ConOk CC Tryz.prog 78 ⟨as78,rs78,λx=>sh78 fu (λ_=>false) x.1⟩:=
 rfk zD zD zD zD fdok78 rfl (ya rfl) (λa x=>by show run78 fu a x.1=_;rw[eq78];rfl)
theorem con47(fu:Nat) :CQ 47 (cF kL kA (mF (sh47 fu))):=
 zO2 (zBe (syn:=syn) (fu:=fu) (d:=2) (inl:=zB []) (orc:=zB []) (orr:=zB []) (orp:=zB []) (pf:=hasN []) (rf:=hasN []) zCX CCok mixed (λg=>(yT (α:=Con UU) (l:=[]) g).symm) (λg=>(yT (α:=CR UU) (l:=[]) g).symm) zD zD zD zD fdok47 (by show(k0:LK).length+(kL:LK).length<=8;decide) (λx a=>by show run47 fu x a=sh47 fu x a;rw[eq47]))
theorem con21(fu:Nat)(c44:zS as44->Option (zS rs44))(b:ConOk CC Tryz.prog 44 ⟨as44,rs44,c44⟩)(c48:zS as48->Option (zS rs48))(c:ConOk CC Tryz.prog 48 ⟨as48,rs48,c48⟩)(c46:zA kM->WW (zA kG))(d:CQ 46 (cW kM kG c46))(c47:zA kL->Option (zA kA))(e:CQ 47 (cF kL kA c47)):CQ 21 (cW kL kE (mW (sh21 fu c44 c48 c46 c47))):=
 zPs (rpk zD (zK (OrcOk.of ⟨code44,b⟩ rfl) (zK (OrcOk.of ⟨code45,zB2⟩ rfl) (zK (OrcOk.of ⟨code48,c⟩ rfl) zD))) zD (zK ⟨code46,d⟩ (zK ⟨code47,e⟩ zD)) fdok21 rfl (λx a=>by rw[<-eq21];rfl))
end
section
open Go.Al Go.Den
def sh48(fu:Nat)(c64:((List TkT)×(Int×Unit))->(Option ((Option (List TkT))×Unit)))(i:Nat->Bool)(b:(List (Bool×(List TkT)))):(Option ((List TkT)×Unit)):=iter fu (λ(g:((Int×(Int×Unit))×Unit)->Option ((List TkT)×Unit))(f:((Int×(Int×Unit))×Unit))=>cond (ilt f.1.2.1 (lenI b)) (cond (inB f.1.2.1 b.length) (cond (ilt (iadd .i64 f.1.1 (lenI (List.getD b f.1.2.1.toNat (true,[])).2)) 0) (none) (g (((iadd .i64 f.1.1 (lenI (List.getD b f.1.2.1.toNat (true,[])).2)),((iadd .i64 f.1.2.1 1),())),()))) (none)) (Option.bind (c64 ([],(f.1.1,()))) λh=>z8 h.1 (iter fu (λ(e:(((Option (List TkT))×(Int×Unit))×Unit)->Option ((List TkT)×Unit))(a:(((Option (List TkT))×(Int×Unit))×Unit))=>z8 a.1.1 (cond (ilt a.1.2.1 (lenI b)) (cond (inB a.1.2.1 b.length) (cond (okN 88 (List.length (List.getD b a.1.2.1.toNat (true,[])).2)) (cond (!(List.isEmpty (List.getD b a.1.2.1.toNat (true,[])).2)) (cond (eqN (List.length (List.getD b a.1.2.1.toNat (true,[])).2) (List.length (zL (List.length (List.getD b a.1.2.1.toNat (true,[])).2) (List.getD b a.1.2.1.toNat (true,[])).2))) (e (((some (zL (List.length (List.getD b a.1.2.1.toNat (true,[])).2) (List.getD b a.1.2.1.toNat (true,[])).2)),((iadd .i64 a.1.2.1 1),())),())) (none)) (none)) (none)) (none)) (some ([],()))) λc=>cond (ilt a.1.2.1 (lenI b)) (cond (inB a.1.2.1 b.length) (cond ((Nat.ble c.length c.length)&&(okN 88 (c.length+(List.length (List.getD b a.1.2.1.toNat (true,[])).2)))) (cond (eqN (c.length+(List.length (List.getD b a.1.2.1.toNat (true,[])).2)) (List.length (zL (c.length+(List.length (List.getD b a.1.2.1.toNat (true,[])).2)) ((List.take c.length c)++(List.getD b a.1.2.1.toNat (true,[])).2)))) (e (((some (zL (c.length+(List.length (List.getD b a.1.2.1.toNat (true,[])).2)) ((List.take c.length c)++(List.getD b a.1.2.1.toNat (true,[])).2))),((iadd .i64 a.1.2.1 1),())),())) (none)) (none)) (none)) (cond (Nat.ble c.length c.length) (cond (cond false (List.isEmpty (zL c.length c)) (!(List.isEmpty (zL c.length c)))) (some ((zL c.length c),())) (none)) (none))) ((none,(0,())),())) λc=>cond (eqN c.length (List.length (zL c.length c))) (iter fu (λ(e:(((Option (List TkT))×(Int×Unit))×Unit)->Option ((List TkT)×Unit))(a:(((Option (List TkT))×(Int×Unit))×Unit))=>z8 a.1.1 (cond (ilt a.1.2.1 (lenI b)) (cond (inB a.1.2.1 b.length) (cond (okN 88 (List.length (List.getD b a.1.2.1.toNat (true,[])).2)) (cond (!(List.isEmpty (List.getD b a.1.2.1.toNat (true,[])).2)) (cond (eqN (List.length (List.getD b a.1.2.1.toNat (true,[])).2) (List.length (zL (List.length (List.getD b a.1.2.1.toNat (true,[])).2) (List.getD b a.1.2.1.toNat (true,[])).2))) (e (((some (zL (List.length (List.getD b a.1.2.1.toNat (true,[])).2) (List.getD b a.1.2.1.toNat (true,[])).2)),((iadd .i64 a.1.2.1 1),())),())) (none)) (none)) (none)) (none)) (some ([],()))) λd=>cond (ilt a.1.2.1 (lenI b)) (cond (inB a.1.2.1 b.length) (cond ((Nat.ble d.length d.length)&&(okN 88 (d.length+(List.length (List.getD b a.1.2.1.toNat (true,[])).2)))) (cond (eqN (d.length+(List.length (List.getD b a.1.2.1.toNat (true,[])).2)) (List.length (zL (d.length+(List.length (List.getD b a.1.2.1.toNat (true,[])).2)) ((List.take d.length d)++(List.getD b a.1.2.1.toNat (true,[])).2)))) (e (((some (zL (d.length+(List.length (List.getD b a.1.2.1.toNat (true,[])).2)) ((List.take d.length d)++(List.getD b a.1.2.1.toNat (true,[])).2))),((iadd .i64 a.1.2.1 1),())),())) (none)) (none)) (none)) (cond (Nat.ble d.length d.length) (cond (cond false (List.isEmpty (zL d.length d)) (!(List.isEmpty (zL d.length d)))) (some ((zL d.length d),())) (none)) (none))) (((some (zL c.length c)),(0,())),())) (none))) ((0,(0,())),())
theorem eq48:@run48=@sh48:=by kernel_rfl
def sh87(fu:Nat)(c93:((List Str)×(Int×Unit))->(Option ((Option (List Str))×Unit)))(i:Nat->Bool)(b:(List (Bool×(List Str)))):(Option ((List Str)×Unit)):=iter fu (λ(g:((Int×(Int×Unit))×Unit)->Option ((List Str)×Unit))(f:((Int×(Int×Unit))×Unit))=>cond (ilt f.1.2.1 (lenI b)) (cond (inB f.1.2.1 b.length) (cond (ilt (iadd .i64 f.1.1 (lenI (List.getD b f.1.2.1.toNat (true,[])).2)) 0) (none) (g (((iadd .i64 f.1.1 (lenI (List.getD b f.1.2.1.toNat (true,[])).2)),((iadd .i64 f.1.2.1 1),())),()))) (none)) (Option.bind (c93 ([],(f.1.1,()))) λh=>z8 h.1 (iter fu (λ(e:(((Option (List Str))×(Int×Unit))×Unit)->Option ((List Str)×Unit))(a:(((Option (List Str))×(Int×Unit))×Unit))=>z8 a.1.1 (cond (ilt a.1.2.1 (lenI b)) (cond (inB a.1.2.1 b.length) (cond (okN 16 (List.length (List.getD b a.1.2.1.toNat (true,[])).2)) (cond (!(List.isEmpty (List.getD b a.1.2.1.toNat (true,[])).2)) (cond (eqN (List.length (List.getD b a.1.2.1.toNat (true,[])).2) (List.length (zL (List.length (List.getD b a.1.2.1.toNat (true,[])).2) (List.getD b a.1.2.1.toNat (true,[])).2))) (e (((some (zL (List.length (List.getD b a.1.2.1.toNat (true,[])).2) (List.getD b a.1.2.1.toNat (true,[])).2)),((iadd .i64 a.1.2.1 1),())),())) (none)) (none)) (none)) (none)) (some ([],()))) λc=>cond (ilt a.1.2.1 (lenI b)) (cond (inB a.1.2.1 b.length) (cond ((Nat.ble c.length c.length)&&(okN 16 (c.length+(List.length (List.getD b a.1.2.1.toNat (true,[])).2)))) (cond (eqN (c.length+(List.length (List.getD b a.1.2.1.toNat (true,[])).2)) (List.length (zL (c.length+(List.length (List.getD b a.1.2.1.toNat (true,[])).2)) ((List.take c.length c)++(List.getD b a.1.2.1.toNat (true,[])).2)))) (e (((some (zL (c.length+(List.length (List.getD b a.1.2.1.toNat (true,[])).2)) ((List.take c.length c)++(List.getD b a.1.2.1.toNat (true,[])).2))),((iadd .i64 a.1.2.1 1),())),())) (none)) (none)) (none)) (cond (Nat.ble c.length c.length) (cond (cond false (List.isEmpty (zL c.length c)) (!(List.isEmpty (zL c.length c)))) (some ((zL c.length c),())) (none)) (none))) ((none,(0,())),())) λc=>cond (eqN c.length (List.length (zL c.length c))) (iter fu (λ(e:(((Option (List Str))×(Int×Unit))×Unit)->Option ((List Str)×Unit))(a:(((Option (List Str))×(Int×Unit))×Unit))=>z8 a.1.1 (cond (ilt a.1.2.1 (lenI b)) (cond (inB a.1.2.1 b.length) (cond (okN 16 (List.length (List.getD b a.1.2.1.toNat (true,[])).2)) (cond (!(List.isEmpty (List.getD b a.1.2.1.toNat (true,[])).2)) (cond (eqN (List.length (List.getD b a.1.2.1.toNat (true,[])).2) (List.length (zL (List.length (List.getD b a.1.2.1.toNat (true,[])).2) (List.getD b a.1.2.1.toNat (true,[])).2))) (e (((some (zL (List.length (List.getD b a.1.2.1.toNat (true,[])).2) (List.getD b a.1.2.1.toNat (true,[])).2)),((iadd .i64 a.1.2.1 1),())),())) (none)) (none)) (none)) (none)) (some ([],()))) λd=>cond (ilt a.1.2.1 (lenI b)) (cond (inB a.1.2.1 b.length) (cond ((Nat.ble d.length d.length)&&(okN 16 (d.length+(List.length (List.getD b a.1.2.1.toNat (true,[])).2)))) (cond (eqN (d.length+(List.length (List.getD b a.1.2.1.toNat (true,[])).2)) (List.length (zL (d.length+(List.length (List.getD b a.1.2.1.toNat (true,[])).2)) ((List.take d.length d)++(List.getD b a.1.2.1.toNat (true,[])).2)))) (e (((some (zL (d.length+(List.length (List.getD b a.1.2.1.toNat (true,[])).2)) ((List.take d.length d)++(List.getD b a.1.2.1.toNat (true,[])).2))),((iadd .i64 a.1.2.1 1),())),())) (none)) (none)) (none)) (cond (Nat.ble d.length d.length) (cond (cond false (List.isEmpty (zL d.length d)) (!(List.isEmpty (zL d.length d)))) (some ((zL d.length d),())) (none)) (none))) (((some (zL c.length c)),(0,())),())) (none))) ((0,(0,())),())
theorem eq87:@run87=@sh87:=by kernel_rfl
def sh89(fu:Nat)(f:Nat->Bool)(a:(List Str)):(Option ((List Str)×Unit)):=cond (ilt (lenI a) 2) (some (a,())) (iter fu (λ(d:((Int×Unit)×Unit)->Option ((List Str)×Unit))(b:((Int×Unit)×Unit))=>cond (ilt b.1.1 (lenI a)) (cond (inB b.1.1 a.length) (cond (inB (isub .i64 b.1.1 1) a.length) (cond (seq (List.getD a b.1.1.toNat []) (List.getD a (Int.toNat (isub .i64 b.1.1 1)) [])) (cond (inS b.1.1 (lenI a) a.length) (iter fu (λ(e:((Int×(Int×Unit))×Unit)->Option ((List Str)×Unit))(c:((Int×(Int×Unit))×Unit))=>cond (ilt c.1.2.1 (lenI (cutL a b.1.1 (lenI a)))) (cond (inB c.1.2.1 (List.length (cutL a b.1.1 (lenI a)))) (cond (inB (isub .i64 c.1.2.1 1) (List.length (cutL a b.1.1 (lenI a)))) (cond (!(seq (List.getD (cutL a b.1.1 (lenI a)) c.1.2.1.toNat []) (List.getD (cutL a b.1.1 (lenI a)) (Int.toNat (isub .i64 c.1.2.1 1)) []))) (cond (inB c.1.2.1 (List.length (cutL a b.1.1 (lenI a)))) (cond (inB c.1.1 a.length) (none) (none)) (none)) (e ((c.1.1,((iadd .i64 c.1.2.1 1),())),()))) (none)) (none)) (cond (inS c.1.1 (lenI a) a.length) (none) (none))) ((b.1.1,(1,())),())) (none)) (d (((iadd .i64 b.1.1 1),()),()))) (none)) (none)) (some (a,()))) ((1,()),()))
theorem eq89:@run89=@sh89:=by kernel_rfl
theorem con48(fu:Nat)(c64:zA kE->Option (zA kA))(a:CQ 64 (cF kE kA c64)):ConOk CC Tryz.prog 48 ⟨as48,rs48,λx=>sh48 fu c64 (λ_=>false) x.1⟩:=
 rfk zD zD zD (zK ⟨zRi,a⟩ zD) fdok48 rfl (ya rfl) (λb x=>by show run48 fu c64 b x.1=_;rw[eq48];rfl)
theorem con87(fu:Nat)(c93:zA ([.dl TI.str,.int .i64]:LK)->Option (zA ([.arr TI.str]:LK)))(a:CQ 93 (cF ([.dl TI.str,.int .i64]:LK) ([.arr TI.str]:LK) c93)):ConOk CC Tryz.prog 87 ⟨as87,rs87,λx=>sh87 fu c93 (λ_=>false) x.1⟩:=
 rfk zD zD zD (zK ⟨code93,a⟩ zD) fdok87 rfl (ya rfl) (λb x=>by show run87 fu c93 b x.1=_;rw[eq87];rfl)
theorem con89(fu:Nat) :ConOk CC Tryz.prog 89 ⟨as89,rs89,λx=>sh89 fu (λ_=>false) x.1⟩:=
 rfk zD zD zD zD fdok89 rfl (ya rfl) (λa x=>by show run89 fu a x.1=_;rw[eq89];rfl)
end
section
open Go.Al Go.Den
def hd48e:List (Nat×Head UU):=[(3,⟨[0,9,10],[(3,.int .i64),(11,.int .i64)],[]⟩),(11,⟨[25,26],[(6,.ow true TI.tk),(27,.int .i64)],[]⟩)]
noncomputable def fd48e:FD UU:=⟨⟨λd=>hasN [] d,λd=>hasN [] d,kf48,zB hd48e,zB [],yK [],yF []⟩,ze Tryz.f48,36,[.tmp 2]⟩
noncomputable def zRm(fu:Nat)(c64:zA kE->Option (zA kA))(a:Nat->Bool)(b:List (Bool×List TkT)):Option (zS rs48):=
 xr CC Tb fu 2 (zB []) (zB []) (zB []) (zB [(64,cF kE kA c64)]) fd48e as48 rs48 a (b,())
theorem zV3:FDOk Tryz.prog (hasN []) (hasN []) 48 fd48e:=fdk Tryz.func48 Tryz.ntmps48 Tryz.results48
end
section
open Go.Al Go.Den
def zK9(fu:Nat)(c64:((List TkT)×(Int×Unit))->(Option ((Option (List TkT))×Unit)))(g:Nat->Bool)(a:(List (Bool×(List TkT)))):(Option ((List TkT)×Unit)):=iter fu (λ(d:((Int×(Int×Unit))×Unit)->Option ((List TkT)×Unit))(b:((Int×(Int×Unit))×Unit))=>cond (ilt b.1.2.1 (lenI a)) (cond (inB b.1.2.1 a.length) (cond (ilt (iadd .i64 b.1.1 (lenI (List.getD a b.1.2.1.toNat (true,[])).2)) 0) (none) (d (((iadd .i64 b.1.1 (lenI (List.getD a b.1.2.1.toNat (true,[])).2)),((iadd .i64 b.1.2.1 1),())),()))) (none)) (Option.bind (c64 ([],(b.1.1,()))) λf=>z8 f.1 (iter fu (λ(e:(((List TkT)×(Int×Unit))×Unit)->Option ((List TkT)×Unit))(c:(((List TkT)×(Int×Unit))×Unit))=>cond (ilt c.1.2.1 (lenI a)) (cond (inB c.1.2.1 a.length) (cond (okN 88 (c.1.1.length+(List.length (List.getD a c.1.2.1.toNat (true,[])).2))) (e (((c.1.1++(List.getD a c.1.2.1.toNat (true,[])).2),((iadd .i64 c.1.2.1 1),())),())) (none)) (none)) (some (c.1.1,()))) (([],(0,())),())) λh=>none)) ((0,(0,())),())
theorem eq48e:@zRm=@zK9:=by kernel_rfl
theorem con48e(fu:Nat)(c64:zA kE->Option (zA kA))(a:CQ 64 (cF kE kA c64)):ConOk CC Tryz.prog 48 ⟨as48,rs48,λx=>zK9 fu c64 (λ_=>false) x.1⟩:=
 rfk zD zD zD (zK ⟨zRi,a⟩ zD) zV3 rfl (ya rfl) (λb x=>by show zRm fu c64 b x.1=_;rw[eq48e];rfl)
end
section
open Go.Al Go.Den
def c22(fu:Nat)(x:List TokT×Unit):Option (List TkT×Unit):=sh22 fu (λ_=>false) x.1
theorem ok22(fu:Nat):ConOk CC Tryz.prog 22 ⟨as22,rs22,c22 fu⟩:=con22 fu
def c23(fu:Nat)(x:List TkT×Unit):Option (List TokT×Unit):=sh23 fu (λ_=>false) x.1
theorem ok23(fu:Nat):ConOk CC Tryz.prog 23 ⟨as23,rs23,c23 fu⟩:=con23 fu
def c44(fu:Nat)(x:TkT×Str×Unit):Option (Bool×Unit):=sh44 fu (λ_=>false) x.1 x.2.1
theorem ok44(fu:Nat):ConOk CC Tryz.prog 44 ⟨as44,rs44,c44 fu⟩:=con44 fu
def c80(x:MacT×Int×Unit):Option (Int×Unit):=sh80 0 (λ_=>false) x.1 x.2.1
theorem ok80:ConOk CC Tryz.prog 80 ⟨as80,rs80,c80⟩:=con80 0
def c82(x:MacT×Int×Unit):Option (Bool×Unit):=sh82 0 c80 (λ_=>false) x.1 x.2.1
theorem ok82:ConOk CC Tryz.prog 82 ⟨as82,rs82,c82⟩:=con82 0 c80 ok80
def c74(fu:Nat)(x:MacT×List (Bool×List TkT)×List (Bool×List TkT)×Unit):Option (List TkT×Unit):=sh74 fu (c23 fu) c80 c82 (λ_=>false) x.1 x.2.1 x.2.2.1
theorem ok74(fu:Nat):ConOk CC Tryz.prog 74 ⟨as74,rs74,c74 fu⟩:=con74 fu (c23 fu) (ok23 fu) c80 ok80 c82 ok82
noncomputable def c73(fu:Nat):zA ([.dl TI.tk]:LK)->Option (zA ([.arr TI.tk,.int .i64]:LK)):=mF (sh73 fu)
theorem ok73(fu:Nat):CPOk CC Tryz.prog syn 73 (cF ([.dl TI.tk]:LK) ([.arr TI.tk,.int .i64]:LK) (c73 fu)):=con73 fu
noncomputable def c75(fu:Nat):zA ([.arr TI.tk,.fn 76]:LK)->Option (zA ([.arr TI.tk]:LK)):=mF (sh75 fu)
theorem ok75(fu:Nat):CPOk CC Tryz.prog syn 75 (cF ([.arr TI.tk,.fn 76]:LK) ([.arr TI.tk]:LK) (c75 fu)):=con75 fu
def c48(fu:Nat)(x:List (Bool×List TkT)×Unit):Option (List TkT×Unit):=(sh48 fu c64 (λ_=>false) x.1).or (zK9 fu c64 (λ_=>false) x.1)
theorem ok48(fu:Nat):ConOk CC Tryz.prog 48 ⟨as48,rs48,c48 fu⟩:=by
 intro x y h;replace h:(sh48 fu c64 (λ_=>false) x.1).or (zK9 fu c64 (λ_=>false) x.1)=some y:=h;cases e:sh48 fu c64 (λ_=>false) x.1 with
 |none=>rw[e]at h;exact con48e fu c64 ok64 x y h
 |some z=>rw[e]at h;exact con48 fu c64 ok64 x y (e.trans h)
noncomputable def c47(fu:Nat):zA ([.bl TI.tk]:LK)->Option (zA ([.arr TI.tk]:LK)):=mF (sh47 fu)
theorem ok47(fu:Nat):CPOk CC Tryz.prog syn 47 (cF ([.bl TI.tk]:LK) ([.arr TI.tk]:LK) (c47 fu)):=con47 fu
def c87(fu:Nat)(x:List (Bool×List Str)×Unit):Option (List Str×Unit):=sh87 fu c93 (λ_=>false) x.1
theorem ok87(fu:Nat):ConOk CC Tryz.prog 87 ⟨as87,rs87,c87 fu⟩:=con87 fu c93 ok93
def c89(x:List Str×Unit):Option (List Str×Unit):=sh89 0 (λ_=>false) x.1
theorem ok89:ConOk CC Tryz.prog 89 ⟨as89,rs89,c89⟩:=con89 0
def c77(fu:Nat)(x:List Str×List Str×Unit):Option (List Str×Unit):=sh77 fu (c87 fu) c88 c89 (λ_=>false) x.1 x.2.1
theorem ok77(fu:Nat):ConOk CC Tryz.prog 77 ⟨as77,rs77,c77 fu⟩:=con77 fu (c87 fu) (ok87 fu) c88 ok88 c89 ok89
def c78(x:List Str×Unit):Option (List Str×Unit):=sh78 0 (λ_=>false) x.1
theorem ok78:ConOk CC Tryz.prog 78 ⟨as78,rs78,c78⟩:=con78 0
noncomputable def c63(fu:Nat):zA ([.st TI.mac,.dl TI.tkl,.dl TI.str]:LK)->WW (zA ([.arr TI.tk,.int .i64]:LK)):=mW (sh63 fu (c74 fu) (c77 fu) c78 c72 (c73 fu) (c75 fu))
theorem ok63(fu:Nat):CPOk CC Tryz.prog syn 63 (cW ([.st TI.mac,.dl TI.tkl,.dl TI.str]:LK) ([.arr TI.tk,.int .i64]:LK) (c63 fu)):=con63 fu (c74 fu) (ok74 fu) (c77 fu) (ok77 fu) c78 ok78 c72 ok72 (c73 fu) (ok73 fu) (c75 fu) (ok75 fu)
noncomputable def c46(fu:Nat):zA ([.st TI.mac,.bl TI.tk]:LK)->WW (zA ([.arr TI.tk,.int .i64,.int .i64]:LK)):=mW (sh46 fu (c63 fu))
theorem ok46(fu:Nat):CPOk CC Tryz.prog syn 46 (cW ([.st TI.mac,.bl TI.tk]:LK) ([.arr TI.tk,.int .i64,.int .i64]:LK) (c46 fu)):=con46 fu (c63 fu) (ok63 fu)
noncomputable def c21(fu:Nat):zA ([.bl TI.tk]:LK)->WW (zA ([.dl TI.tk,.int .i64]:LK)):=mW (sh21 fu (c44 fu) (c48 fu) (c46 fu) (c47 fu))
theorem ok21(fu:Nat):CPOk CC Tryz.prog syn 21 (cW ([.bl TI.tk]:LK) ([.dl TI.tk,.int .i64]:LK) (c21 fu)):=con21 fu (c44 fu) (ok44 fu) (c48 fu) (ok48 fu) (c46 fu) (ok46 fu) (c47 fu) (ok47 fu)
end
end Go.Proofs.YtfjiiknfopmcjaaGreatDoor
namespace Go.Den
section
open Go.Al
theorem zPl(n:Int)(a:-9223372036854775808<=n)(b:n<=9223372036854775807):IntKind.i64.wrap n=n:=IntWalk.i64_in n (by omega)
theorem xK(a b:Int)(c:-9223372036854775808<=a+b)(d:a+b<=9223372036854775807):iadd .i64 a b=a+b:=zPl _ c d
theorem zJp(a b:Int)(c:-9223372036854775808<=a-b)(d:a-b<=9223372036854775807):isub .i64 a b=a-b:=zPl _ c d
theorem zTI(i k:Nat)(h:i+k<9223372036854775808):iadd .i64 (i:Int) (k:Int)=((i+k:Nat):Int):=by
 unfold iadd;rw[zPl _ (by omega) (by omega)];omega
theorem zA5{b n:Nat}(h:n*b<=140737488355328)(a:n<=maxLen):okN b n=true:=by simp[okN,h,a]
theorem zBl(a b:Int):ieq a b=decide (a=b):=by unfold ieq;by_cases h:a=b<;>simp[h]
theorem zEV(a b:Int):ine a b=!decide (a=b):=by unfold ine;by_cases h:a=b<;>simp[h]
theorem zBg(a b:List UInt8):seq a b=decide (a=b):=by unfold seq;by_cases h:a=b<;>simp[h]
theorem zTG{α:Type}(l:List α)(n:Nat):cutL l 0 (n:Int)=l.take n:=by unfold cutL;simp
theorem zMj{α:Type}(l:List α)(n:Nat):cutL l (n:Int) (lenI l)=l.drop n:=by unfold cutL lenI;simp
theorem zA2{σ R:Type}{F:(σ->Option R)->σ->Option R}(P:Option R->Prop)(I:σ->Prop)(μ:σ->Nat)(step:∀(rec:σ->Option R) s,I s->(∀a,I a->μ a<μ s->P (rec a))->P (F rec s)) :
 ∀(n:Nat)(s:σ),I s->μ s<n->P (iter n F s):=by
 intro n
 induction n with
 |zero=>intro s _ h;omega
 |succ n c=>
  intro s d f;simp only[iter];exact step _ s d λa b e=>c a b (by omega)
end
end Go.Den
namespace Go.Proofs.YtfjiiknfopmcjaaGreatDoor
section
open Go.Al Go.Den Go.RowKit Go.Shelf
attribute [local go_sem] Oper.semAt_some
attribute [local congr] qy jb jw zAB xx jE xP xN qk jV qo j0 qr jD xF xW qn jt jx qL jY qp qQ qO qv ql qR jG qm qK zAA j9 jv jZ ja je qq qN qM
def McC.raw(x:McC):V:=.agg [.at x.a,.at x.b,.at x.c,.at x.d,.at x.e]
abbrev MR:=List (ByteArray×(McC×MacT))
def trR(c:MR):MC:=c.map λp=>(p.1,p.2.1.raw)
def putR:MR->ByteArray->McC×MacT->MR
 |[],s,v=>[(s,v)]
 |(k,u)::r,s,v=>if(s==k)=true then(s,v)::r else(k,u)::putR r s v
theorem zL7:∀(c:MR)(s:ByteArray)(v:McC×MacT),mput (trR c) s v.1.raw=trR (putR c s v)
 |[],s,v=>rfl
 |(k,u)::r,s,v=>by
  show(if(s==k)=true then _ else _)=trR (if(s==k)=true then _ else _);split
  .rfl
  .show _::mput (trR r) s v.1.raw=_::trR (putR r s v);rw[zL7 r s v]
theorem zHU{g:Gh}{w:World}:∀{c:MR}{es:List MapEntry},MapR g w (trR c) es->∀g' w',MapR g' w' (trR c) es
 |[],_,h,_,_=>h
 |(k,z)::r,_,⟨e,a,d,f,i,j⟩,g',w'=>by
  refine⟨e,a,d,f,?_,zHU j g' w'⟩;obtain⟨us,b,l⟩:=i;refine⟨us,?_,l⟩;simp only[McC.raw,RC,RCs]at b ⊢;exact b
theorem Inv.refr{B:Nat}{l:Nat->Nat}{a:Nat->Option (Option (Nat×Nat×Nat×Nat))}{f1 f:Fr}{st:S}{w:World}(h:Al.Inv B ⟨l,a,f1⟩ st w)
 (v:∀b,f b=true->b<w.heap.size/\Al.look st.box b=none/\∀t∈st.tg,∀d,a t=some (some (b,d))->False) (x:∀b o i,zQ st.ob b=some (o,i)->∀j∈i,f j=false) (y:f.t=f1.t):Al.Inv B ⟨l,a,f⟩ st w:=by
 have r:Later ⟨l,a,f1⟩ w ⟨l,a,f⟩ w:=⟨λ_=>zV7 _,λ_ _ e=>e,λ_ _ _=>rfl⟩;refine⟨h.base,λb cs k m=>?_,h.tag,h.own,h.dist,h.nodup,h.fresh,h.names,v,λb o i m=>?_,h.ex.obd,λt z=>h.ex.ft t (by show f1.t t=true;rw[<-y];exact z)⟩
 .obtain⟨n,p,q,A,arr,el,us,C,D,E,F⟩:=h.box b cs k m;exact⟨n,p,q,A,arr,el,us,C,D,zq r _ _ E,F⟩
 .obtain⟨n,p,q⟩:=h.ex.ob b o i m;refine⟨n.local r (λ_ _=>rfl),p,λj u=>?_⟩;obtain⟨G,H,I,J,K,L⟩:=q j u;exact⟨G,H,I,J,K,x b o i m j u⟩
theorem Inv.but{B:Nat}{g:Gh}{st:S}{w w':World}(h:Al.Inv B g st w)(k:Nat)(G:Al.look st.box k=none)(H:∀t∈st.tg,∀d,g.tb t=some (some (k,d))->False)(I:∀b o p,zQ st.ob b=some (o,p)->k∉p)(J:g.wm k=0)
 (u:w.heap.size<=w'.heap.size) (v:∀j,j<w.heap.size->j≠k->w'.heap[j]?=w.heap[j]?):Al.Inv B g st w'/\Later g w g w':=by
 have A:Later g w g w':=⟨λ_=>zV7 _,λ_ _ e=>e,λb o E=>by
  refine World.cell?_of_block (v b ?_ ?_)
  .rcases zW5 b w.heap.size with q|q
   .exact q
   .rw[h.fresh b q]at E;omega
  .intro e;subst e;rw[J]at E;omega⟩
 have lt:∀{b:Nat}{o:Obj},w.heap[b]?=some o->b<w.heap.size:=λq=>(zV8.1 q).1;refine⟨⟨zWv h.base u,λb cs K a=>?_,h.tag,λt F b cap n sz r=>?_,h.dist,h.nodup,λb a=>h.fresh b (zWv u a),h.names,λb L=>?_,λb o p a=>?_,h.ex.obd,h.ex.ft⟩,A⟩
 .obtain⟨f,i,m,C,arr,el,us,x,y,D,M⟩:=h.box b cs K a;have l:b≠k:=λe=>by subst e;rw[G]at a;cases a
  exact⟨f,i,m,C,arr,el,us,(v b (lt x) l).trans x,y,zq A _ _ D,M⟩
 .obtain⟨f,i,m,C,x,arr,el,y,D⟩:=h.own t F b cap n sz r;have l:b≠k:=λe=>by subst e;exact H t F _ r
  exact⟨f,i,m,C,x,arr,el,(v b (lt y) l).trans y,D⟩
 .obtain⟨f,i⟩:=h.ex.frz b L;exact⟨zWN f u,i⟩
 .obtain⟨f,i,m⟩:=h.ex.ob b o p a;refine⟨f.local A (λj z=>v j (m j z).2.1 (λe=>by subst e;exact I b o p a z)),i,λj z=>?_⟩;obtain⟨N,O,P⟩:=m j z;exact⟨N,zWN O u,P⟩
def frzG(g:Gh)(W:World)(bm:Nat):Gh:=⟨λb=>if b=bm then 0 else if b<W.heap.size then max (g.wm b) (match W.heap[b]? with|some (.cells arr _ _)=>arr.size|_=>0)else 0,g.tb,⟨λb=>decide (b<W.heap.size)&&decide (b≠bm),λ_=>false⟩⟩
structure Keep1(bm:Nat)(w W:World):Prop where
 below:Below 0 w W
 blk:∀b,b<w.heap.size->b≠bm->W.heap[b]?=w.heap[b]?
theorem Keep1.refl(bm:Nat)(w:World):Keep1 bm w w:=⟨Below.refl _ _,λ_ _ _=>rfl⟩
theorem Keep1.trans{bm:Nat}{A B C:World}(h:Keep1 bm A B)(k:Keep1 bm B C):Keep1 bm A C:=⟨h.below.trans k.below,λb a d=>(k.blk b (zWN a h.below.size) d).trans (h.blk b a d)⟩
structure IsM(bm:Nat)(c:MR)(w W:World):Prop where
 keep:Keep1 bm w W
 mp:∃(arr:Array MapEntry)(clock:Nat),W.heap[bm]?=some (Obj.map arr clock)/\∀g w,MapR g w (trR c) arr.toList
theorem IsM.grown{bm:Nat}{c:MR}{w A C:World}(h:IsM bm c w A)(j:bm<w.heap.size){a:Option Nat}(i:A.grownBy C a)(l:∀k,a=some k->w.heap.size<=k/\∃o:Obj,A.heap[k]?=some o/\o.isCells=false):IsM bm c w C:=by
 have m:=h.keep.below.size;have d:∀b,b<w.heap.size->C.heap[b]?=A.heap[b]?:=λb f=>i.block b (by omega) (λe=>by have:=(l b e.symm).1;omega);refine⟨⟨h.keep.below.trans (Below.grown (Below.refl 0 A) i (zWd _) (λk e=>zWd _)),λb f n=>(d b f).trans (h.keep.blk b f n)⟩,?_⟩;obtain⟨arr,ck,p,q⟩:=h.mp;exact⟨arr,ck,(d bm j).trans p,q⟩
theorem zNC{W:World}{b o:Nat}{v:Value}(h:W.cell? ⟨b,o,none⟩=some v):∃arr el m,W.heap[b]?=some (.cells arr el m)/\o<arr.size:=by
 unfold World.cell? at h;simp only at h;cases e:W.heap[b]? with
 |none=>rw[e]at h;cases h
 |some x=>
  rw[e]at h;cases x with
  |cells arr el m=>
   simp only at h;refine⟨arr,el,m,rfl,?_⟩;rcases zW5 o arr.size with a|a
   .exact a
   .rw[zXH a]at h;cases h
  |_=>simp at h
section
variable{B:Nat}{g:Gh}{s:S}{w W:World}{bm:Nat}{c:MR}
theorem zKT(hi:Al.Inv B g s w)(a:g.wm bm=0)(d:Keep1 bm w W):Later g w (frzG g W bm) W:=by
 refine⟨λb=>?_,λ_ _ e=>e,λb o f=>?_⟩
 .show g.wm b<=(if b=bm then 0 else if b<W.heap.size then max (g.wm b) _ else 0);split
  .rename_i e;rw[e,a];exact zV7 _
  .split
   .exact zZC _ _
   .rename_i h;rw[hi.fresh b (by have:=d.below.size;omega)];exact zV7 _
 .have i:b<w.heap.size:=by
   rcases zW5 b w.heap.size with h|h
   .exact h
   .rw[hi.fresh b h]at f;omega
  exact World.cell?_of_block (d.blk b i (λe=>by rw[e,a]at f;omega))
theorem frz_at{b o:Nat}{ds:List Value}(a:b≠bm)(h:∀(k:Nat) u,ds[k]?=some u->W.cell? ⟨b,o+k,none⟩=some u):Al.At (frzG g W bm) W b o ds:=λk u i=>by
 have e:=h k u i;refine⟨e,?_⟩;obtain⟨arr,el,m,f,j⟩:=zNC e;have d:=(zV8.1 f).1;show _<(if b=bm then 0 else if b<W.heap.size then max (g.wm b) _ else 0);rw[if_neg a,if_pos d,f];exact zWN j (Nat.le_max_right _ _)
theorem zJs{b:Nat}{arr:Array Value}{el:TypeId}{m:Nat×Nat}(a:b≠bm)(h:W.heap[b]?=some (.cells arr el m)):Al.At (frzG g W bm) W b 0 arr.toList:=frz_at a λk u d=>by
 rw[zW3]at d;simp[World.cell?,h,d]
theorem zOL(hi:Al.Inv B g s w)(q:B<=bm)(u:bm<w.heap.size)(n:IsM bm c w W):Al.Inv B (frzG g W bm) ⟨[],[],s.nx,[(bm,.mp (trR c),[bm])]⟩ W:=by
 have i:=hi.base;have v:=n.keep.below.size;have d:∀b o f,zQ [(bm,OV.mp (trR c),[bm])] b=some (o,f)->b=bm/\o=.mp (trR c)/\f=[bm]:=λb o f h=>by
  rw[zw]at h;split at h
  .rename_i e;injection h with h;obtain⟨rfl,rfl⟩:=zYd h;exact⟨e.symm,rfl,rfl⟩
  .cases h
 refine⟨by omega,λb cs k h=>(by cases h),λt a=>(by cases a),λt a=>(by cases a),λt a=>(by cases a),zW7,λb i=>?_,λt a=>hi.names t a,λb i=>?_,λb o f h=>?_,λb o f x y r j l m _ _=>(d _ _ _ l).1.trans (d _ _ _ m).1.symm,λt a=>(by cases a)⟩
 .show(if b=bm then 0 else if b<W.heap.size then max (g.wm b) _ else 0)=0;split
  .rfl
  .rw[if_neg (by omega)]
 .have:b<W.heap.size/\b≠bm:=by simpa [frzG]using i
  exact⟨this.1,rfl,λt a=>(by cases a)⟩
 .obtain⟨rfl,rfl,rfl⟩:=d b o f h;obtain⟨arr,ck,l,m⟩:=n.mp;refine⟨⟨rfl,arr,ck,l,m _ _⟩,by simp,λj p=>?_⟩;simp only[zW1]at p;subst p;exact⟨q,by omega,if_pos rfl,rfl,λt a=>(by cases a),by simp[frzG]⟩
theorem zNH(hi:Al.Inv B g s w)(b:GlobOk B g.wm w)(d:g.wm bm=0)(f:B<=bm)(a:Keep1 bm w W):GlobOk B (frzG g W bm).wm W:=by
 have h:=hi.base;refine b.below ⟨a.below.os,a.below.tape,a.below.output,a.below.size,λk e=>a.blk k (by omega) (by omega)⟩ (zKT hi d a).wm
theorem zLa{g':Gh}{j:S}{e:World}{l:MR}(h:IsM bm c w W)(r:bm<w.heap.size)(i:Step B (frzG g W bm) W g' e)(m:Al.Inv B g' j e)(n:zQ j.ob bm=some (.mp (trR l),[bm])) :
 IsM bm l w e/\(∀b,b<W.heap.size->b≠bm->e.heap[b]?=W.heap[b]?)/\KeepsFrom w.heap.size W e:=by
 have a:∀b,b<W.heap.size->b≠bm->e.heap[b]?=W.heap[b]?:=λb f d=>(i.fz b (by simp[frzG,f,d])).1;have t:=h.keep.below.size;obtain⟨⟨_,arr,ck,p,q⟩,_⟩:=m.ex.ob _ _ _ n;refine⟨⟨⟨h.keep.below.trans (i.below.mono (zWd _)),λb f d=>(a b (by omega) d).trans (h.keep.blk b f d)⟩,arr,ck,p,zHU q⟩,a,i.below.size,λk o f d _=>?_⟩;exact(a k (zV8.1 d).1 (by omega)).trans d
end
theorem Inv.butMp{B:Nat}{g:Gh}{s:S}{w W:World}{bm:Nat}{c:MR}{o:OV}(hi:Al.Inv B g s w)(x:zQ s.ob bm=some (o,[bm]))(p:IsM bm c w W):Al.Inv B g ⟨s.box,s.tg,s.nx,(bm,.mp (trR c),[bm])::s.ob⟩ W/\Later g w g W:=by
 obtain⟨_,_,L⟩:=hi.ex.ob bm _ _ x;obtain⟨M,Y,F,G,H,N⟩:=L bm (by simp);have I:=p.keep.below.size;have lt:∀{b:Nat}{o:Obj},w.heap[b]?=some o->b<w.heap.size:=λv=>(zV8.1 v).1;have C:Later g w g W:=⟨λ_=>zV7 _,λ_ _ e=>e,λb o J=>by
  refine World.cell?_of_block (p.keep.blk b ?_ ?_)
  .rcases zW5 b w.heap.size with v|v
   .exact v
   .rw[hi.fresh b v]at J;omega
  .intro e;rw[e,F]at J;omega⟩
 have d:∀{b o' q},zQ ((bm,OV.mp (trR c),[bm])::s.ob) b=some (o',q)->(b=bm/\o'=.mp (trR c)/\q=[bm])\/(b≠bm/\zQ s.ob b=some (o',q)):=λ{b o' q} h=>by
  rw[zw]at h;split at h
  .rename_i e;injection h with h;obtain⟨rfl,rfl⟩:=zYd h;exact .inl ⟨e.symm,rfl,rfl⟩
  .rename_i e;exact .inr ⟨λr=>e r.symm,h⟩
 refine⟨⟨zWv hi.base I,λb cs k a=>?_,hi.tag,λt K b cap n sz a=>?_,hi.dist,hi.nodup,λb a=>hi.fresh b (zWv I a),hi.names,λb a=>?_,λb o' q a=>?_,λb1 o1 f1 b2 o2 f2 j (y:zQ ((bm,OV.mp (trR c),[bm])::s.ob) b1=some (o1,f1)) (r:zQ ((bm,OV.mp (trR c),[bm])::s.ob) b2=some (o2,f2)) m1 m2=>?_,hi.ex.ft⟩,C⟩
 .obtain⟨u,l,i,D,arr,el,us,z,A,E,O⟩:=hi.box b cs k a;have f:b≠bm:=λe=>by rw[e]at a;rw[G]at a;cases a
  exact⟨u,l,i,D,arr,el,us,(p.keep.blk b (lt z) f).trans z,A,zq C _ _ E,O⟩
 .obtain⟨u,l,i,D,z,arr,el,A,E⟩:=hi.own t K b cap n sz a;have f:b≠bm:=λe=>by rw[e]at a;exact H t K _ a
  exact⟨u,l,i,D,z,arr,el,(p.keep.blk b (lt A) f).trans A,E⟩
 .obtain⟨u,l,i⟩:=hi.ex.frz b a;exact⟨by omega,l,i⟩
 .rcases d a with⟨rfl,rfl,rfl⟩|⟨f,a⟩
  .obtain⟨arr,ck,P,Q⟩:=p.mp;refine⟨⟨rfl,arr,ck,P,Q _ _⟩,by simp,λj m=>?_⟩;simp only[zW1]at m;subst m;exact⟨M,by omega,F,G,H,N⟩
  .obtain⟨u,l,i⟩:=hi.ex.ob b o' q a;refine⟨u.local C (λj m=>p.keep.blk j (i j m).2.1 (λe=>f (hi.ex.obd b _ _ bm _ _ bm a x (by rw[<-e];exact m) (by simp)))),l,λj m=>?_⟩;obtain⟨R,Z,T⟩:=i j m;exact⟨R,by omega,T⟩
 .rcases d y with⟨a1,_,rfl⟩|⟨U,y⟩<;>rcases d r with⟨V,_,rfl⟩|⟨X,r⟩
  .rw[a1,V]
  .exact(X (hi.ex.obd b2 _ _ bm _ _ j r x m2 m1)).elim
  .exact(U (hi.ex.obd b1 _ _ bm _ _ j y x m1 m2)).elim
  .exact hi.ex.obd b1 o1 f1 b2 o2 f2 j y r m1 m2
def rfA:Code->Code
 |.block _ (.rangeFunc _ _ a _)=>a
 |_=>.skip
def rfB:Code->Code
 |.block _ (.rangeFunc _ _ _ b)=>b
 |_=>.skip
def spRF:Code->Code×Code
 |.seq (.seq _ (.block i (.rangeFunc s p a b))) r=>(.block i (.rangeFunc s p a b),r)
 |.seq _ b=>spRF b
 |_=>(.skip,.skip)
def zGt:Nat->List Nat:=λ_=>[6,8]
set_option maxRecDepth 100000 in
theorem zSn{B h b6:Nat}{x:McC}{st:S} :
 awp Tryz.prog ⟨B,⟨35,[]⟩,some h,[]⟩ (rfA (spRF (ze Tryz.f10)).1) (λex e' f=>ex=.normal/\∃k,Al.look st.box k=none/\e'=[(6,ptV b6),(8,ptV k)]/\Al.look f.box k=some ([.at x.a,.at x.b,.at x.c,.at x.d,.at x.e],5)/\f.ob=st.ob)
  [(6,ptV b6),(17,x.raw)] st:=by
 simp only[ze,Tryz.f10,zXB,spRF,rfA,McC.raw]
 (repeat (first|(refine zn ?_)|(refine zd ?_;simp -failIfUnchanged only[zC,zE])|(refine zo ?_;simp -failIfUnchanged only[zb,zY,zk,za])|(refine zh ?_;simp -failIfUnchanged only[zX,zW,zC,zE,reduceIte])|(refine zZ ?_)|((first|(refine zp polN zGt _ rfl rfl ?_)|(refine zi polN mixed zGt _ rfl rfl (by kernel_rfl) (by kernel_rfl) ?_));simp only[↓yE,↓qt,↓zLu,zF,qF,zG,zI,zP,zg,zj,zKD,zHG,zWj,zWE,zWA,zXJ,Nat.reduceEqDiff,zero32,zGt])))
 refine⟨rfl,λk i=>?_⟩;simp only[qB,xV,spl,zWR,zWc,zXR,zJ,V.isOne,V.flat,zWK,zWZ,zWC,zWI,zWg,zWl,zWo,zZO,zWj,zWJ,zWE,zZN,zXJ,Nat.reduceAdd,zWP,zV7,zR,zDB,zBx];exact⟨k,i,rfl,if_pos rfl⟩
theorem map57:(mapT Tryz.prog 57).isSome=true:=by kernel_rfl
theorem zVu{st:S}{a:Nat}{c:MR}{b:List Nat}{s:ByteArray}{x:McC×MacT}(d:zQ st.ob a=some (.mp (trR c),b)){K:S->Prop}(f:K ⟨st.box,st.tg,st.nx,(a,.mp (trR (putR c s x)),b)::st.ob⟩) :
 x9 Tryz.prog st 57 (.at (.map (some a))) (.at (.string s)) x.1.raw K:=by
 unfold x9;cases h:mapT Tryz.prog 57 with
 |none=>have:=map57;rw[h]at this;cases this
 |some e=>
  simp only[d];refine⟨rfl,?_⟩;rw[show x.1.raw.untag=x.1.raw from rfl,zL7];exact f
set_option maxRecDepth 100000 in
theorem zUC{B e bm nx:Nat}{x:McC}{m:MacT}{b:ByteArray}{c:MR}(d:x.a=.string b) :
 awp Tryz.prog ⟨B,⟨35,[]⟩,some e,[]⟩ (rfB (spRF (ze Tryz.f10)).1) (λex e' f=>ex=.normal/\zQ f.ob bm=some (.mp (trR (putR c b (x,m))),[bm]))
  [(6,.rptr (.rptr (.agg [.at (.map (some bm)),.at (.int .i64 0)]))),(8,.rptr x.raw)] ⟨[],[],nx,[(bm,.mp (trR c),[bm])]⟩:=by
 have h:zQ (⟨[],[],nx,[(bm,.mp (trR c),[bm])]⟩:S).ob bm=some (.mp (trR c),[bm]):=by rw[zw,if_pos rfl]
 obtain⟨i,j,xc,xd,k⟩:=x;replace d:i=.string b:=d;subst d;simp only[ze,Tryz.f10,zXB,spRF,rfB,McC.raw]
 (repeat (first|(refine zn ?_)|(refine zd ?_;simp -failIfUnchanged only[zC,zE])|(refine zo ?_;simp -failIfUnchanged only[zb,zY,zk,za])|(refine zh ?_;simp -failIfUnchanged only[zX,zW,zC,zE,reduceIte])|(refine zZ ?_)|((first|(refine zp polN zGt _ rfl rfl ?_)|(refine zi polN mixed zGt _ rfl rfl (by kernel_rfl) (by kernel_rfl) ?_));simp only[↓yE,↓qD,↓yq,↓qe,zE,qj,zF,zG,zI,zP,zg,zj,zJu,zCb,kg,zBA,zXU,zV6,zV9,zXR,fits,yO,yN,zJ,V.isOne,V.isAgg,V.size,jg,zWK,zWZ,zWC,zWI,zWg,zWW,zWo,zWf,zWj,zWJ,zWE,zWA,zXJ,Nat.reduceAdd,Nat.reduceEqDiff,Nat.reduceLeDiff,reduceCtorEq,zWO,zWP,zW0,zW4,zCY,zGO,zBP,zDB,zEM,zBx,zEX,hasT56,aggT56,zUe,hasT57,aggT57,zU3,zUU,zGt,zKq])))
 refine zVu (x:=(⟨.string b,j,xc,xd,k⟩,m)) h ?_;show zQ (_::_) bm=_;rw[zw,if_pos rfl]
def trE(c:MR):MC:=c.map λp=>(p.1,CC.encV TI.mac p.2.2)
theorem zLW{g:Gh}{w:World}:∀{c:MR}{es:List MapEntry},MapR g w (trR c) es->(∀p∈c,RV1 g.bare w (CC.encV TI.mac p.2.2) p.2.1.enc)->MapR g w (trE c) es
 |[],_,h,_=>h
 |(k,z)::r,_,⟨e,a,f,i,j,l⟩,b=>by
  refine⟨e,a,f,i,?_,zLW l λp h=>b p (zWU _ h)⟩;have m:=b _ (zWr ..);obtain⟨us,d,n⟩:=j;simp only[McC.raw,RC,RCs]at d;obtain⟨o,q,rfl,⟨rfl,_⟩,t,u,rfl,⟨rfl,_⟩,v,x,rfl,⟨rfl,_⟩,u4,y,rfl,⟨rfl,_⟩,A,C,rfl,⟨rfl,_⟩,rfl⟩:=d;rw[n];exact m
theorem zLp:∀{c:MR}{s:ByteArray}{v:McC×MacT}{p},p∈putR c s v->p.2=v\/p∈c
 |[],s,v,p,h=>by
  simp only[putR,zW1]at h;exact .inl (by rw[h])
 |(k,u)::r,s,v,p,h=>by
  simp only[putR]at h;split at h
  .rcases zWB.1 h with rfl|h
   .exact .inl rfl
   .exact .inr (zWU _ h)
  .rcases zWB.1 h with rfl|h
   .exact .inr (zWr ..)
   .rcases zLp h with h|h
    .exact .inl h
    .exact .inr (zWU _ h)
def McC.nm(x:McC):ByteArray:=match x.a with|.string s=>s|_=>⟨#[]⟩
def mkR(c:MR)(x:McC×MacT):MR:=putR c x.1.nm x
theorem zOP:∀(l:List (McC×MacT))(c:MR){p},p∈l.foldl mkR c->p.2∈l\/p∈c
 |[],c,p,h=>.inr h
 |x::l,c,p,h=>by
  rcases zOP l _ h with h|h
  .exact .inl (zWU _ h)
  .rcases zLp h with h|h
   .exact .inl (by rw[h];exact zWr ..)
   .exact .inr h
def toM(c:MR):MapM:=c.map λp=>(p.1.data.toList,p.2.2)
theorem zVq(c:MR):trE c=(toM c).map λp=>((⟨p.1.toArray⟩:ByteArray),CC.encV TI.mac p.2):=by
 unfold trE toM;rw[zXD];rfl
theorem zOK:∀(c:MR)(s:Str)(v:McC×MacT),toM (putR c ⟨s.toArray⟩ v)=mcP (toM c) s v.2
 |[],s,v=>by simp[putR,toM,mcP]
 |(k,u)::r,s,v=>by
  have a:((⟨s.toArray⟩:ByteArray)==k)=seq s k.data.toList:=by
   have e:k=⟨k.data.toList.toArray⟩:=by cases k;rfl
   conv=>lhs;rw[e]
   exact zFj _ _
  show toM (if((⟨s.toArray⟩:ByteArray)==k)=true then _ else _)=cond (seq s k.data.toList) _ _;rw[a];cases seq s k.data.toList with
  |true=>simp[toM]
  |false=>
   have:=zOK r s v;simp only[toM,zWO,zWA,zWH,zV6]at this ⊢;rw[<-this]
theorem zLI:∀(l:List (McC×MacT))(c:MR),(∀x∈l,x.1.nm=⟨x.2.name.toArray⟩)->toM (l.foldl mkR c)=(l.map (·.2)).foldl (λc m=>mcP c m.name m) (toM c)
 |[],c,h=>rfl
 |x::l,c,h=>by
  simp only[zYW,zV6];rw[zLI l _ λy a=>h y (zWU _ a)];unfold mkR;rw[h x (zWr ..),zOK]
end
end Go.Proofs.YtfjiiknfopmcjaaGreatDoor
