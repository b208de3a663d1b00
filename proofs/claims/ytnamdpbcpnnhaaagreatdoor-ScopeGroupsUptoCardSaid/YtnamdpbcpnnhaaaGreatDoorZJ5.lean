/- Part 5 of what the last text needs. No condition. -/
import Derived.Test.YtnamdpbcpnnhaaaGreatDoorZJ4
import Derived.RangeFuncNested
import Derived.RangeFuncBound
import Derived.RangeFuncLeaves
import Derived.RangeFuncWrites
import Derived.Shelf.Abstract
import Derived.OwnWalkIn
import Derived.TacticsInMore
import Derived.LoopIn
import Derived.Maps.AppendAt
import Derived.Shelf.Small.Strs
import Derived.Shelf.Strconv.Itoa0
import Derived.Shelf.Strconv.Itoa1
import Derived.Shelf.LaysM
import Derived.Shelf.Strconv.Itoa2
import Derived.Shelf.Strconv.Itoa3
import Derived.Shelf.Strings.Search1
import Derived.Shelf.Strings.Search2
import Derived.Shelf.Strings.Search3
import Derived.Shelf.Strings.Prefix
import Derived.Lib.QuietBelow
import GoSem.Claims
set_option linter.unusedVariables false
set_option linter.unusedSimpArgs false
set_option linter.unusedSectionVars false
set_option linter.defProp false
set_option maxHeartbeats 4000000
theorem fj{P:Prop}(h:P:=by simp[Fr.no]at h):P:=h
theorem eL{P:Prop}(h:P:=by unfold RC;exact .inl ⟨rfl,rfl,trivial⟩):P:=h
theorem ef{P:Prop}(h:P:=by show w.heap.size<=_;omega):P:=h
theorem ee{P:Prop}(h:P:=by intro x a R b K r h;cases h):P:=h
theorem dL{P:Prop}(h:P:=by assumption):P:=h
theorem dT{P:Prop}(h:P:=by first|omega|(simp only[zUI,zUD,zUF]at *;omega)):P:=h
theorem fv{P:Prop}(h:P:=by first|assumption|exact(‹lvlF _≠0->_›) (ze dL)|exact(‹_≠(1:Int)->_›) dP|exact hmr dM dL):P:=h
theorem fF{P:Prop}(h:P:=by (repeat' (first|assumption|exact QP.nil|with_reducible apply QP.cons|with_reducible apply QP.app|exact Elt.leaf fv|exact Gd.el dL));done):P:=h
theorem fQ{P:Prop}(h:P:=by first|assumption|exact Gd.mk dP fF):P:=h
theorem dN{P:Prop}(h:P:=by (repeat' (first|assumption|exact Pt.nil _|with_reducible apply Pt.cons|with_reducible apply Pt.app));done):P:=h
theorem dY{P:Prop}(h:P:=by rfl):P:=h
theorem fw{P:Prop}(h:P:=by first|assumption|exact yD rfl|exact yJ rfl|exact yM|exact zy|exact yW dP dL|exact zz dL dY|exact yF dL dY|exact yZ (Pt.ne dL dM)|(intro x e;simp at e)):P:=h
theorem fG{P:Prop}(h:P:=by first|assumption|exact Tr.mk dN dM dP fw):P:=h
theorem fC{P:Prop}(h:P:=by first|exact Gd.param dP dL (.inl rfl)|exact Gd.param dP dL (.inr ⟨_,rfl,by assumption⟩)):P:=h
theorem fy{P:Prop}(h:P:=by first|assumption|exact qm|exact yH (.inl rfl)|exact qu (.inl rfl)|exact qt|exact xw|exact yH (.inr dL)):P:=h
theorem fO{P:Prop}(h:P:=by (repeat' (first|assumption|exact Ex.nil|refine Ex.app ?_ fF));done):P:=h
theorem dV{P:Prop}(h:P:=by dsimp only;omega):P:=h
theorem fP{P:Prop}(h:P:=by (repeat' (first|assumption|exact Q5.two fv|refine Q5.app ?_ fF));done):P:=h
theorem fT{P:Prop}(h:P:=by exact Gd.tagged dP fP):P:=h
theorem dS{P:Prop}(h:P:=by first|omega|(simp only[List.length_append,List.length_cons,List.length_nil]at *;omega)):P:=h
theorem fB{P:Prop}(h:P:=by first|assumption|exact(‹lvlF _≠0->_›) (ze dL)|exact(‹_≠(1:Int)->_›) dP|exact b dM dL):P:=h
theorem fI{P:Prop}(h:P:=by (repeat' (first|assumption|exact Q7.one dL|refine Q7.app ?_ ?_|exact Q7.nm (Dc.sp dL) dL|exact Q7.el (Elt.leaf fB)|exact Q7.el (Gd.el dL)));done):P:=h
theorem dX{P:Prop}(h:P:=by first|(intro _ _;assumption)|(intro l c;first|(cases c;done)|(simp only[List.length_cons,List.length_nil,List.length_append]at l;omega))|(intro _ c;cases c)):P:=h
theorem fK{P:Prop}(h:P:=by (repeat' (first|assumption|exact QP.nil|with_reducible apply QP.cons|with_reducible apply QP.app|exact Elt.leaf fB|exact Gd.el dL));done):P:=h
namespace Go.Proofs.YtnamdpbcpnnhaaaGreatDoor
section
open Go.Al Go.Den Go.RowKit
def c46(a:Int×dc)(l:db dw):da (Str×dc):=if 0<=a.1/\a.1<l.length then some ((l.getD a.1.toNat tokD).text,())else none
def ok46:CrX 46 (cRW ([.int .i64]:LK) ([.str]:LK) c46):=by
 intro x R K r a;obtain⟨⟨l,e,u,v,w,z,A⟩,i,B⟩:=x;change Int at i;replace a:Option.bind (c46 (i,()) l) (λy=>K y)=some r:=a;unfold c46 at a;split at a
 rotate_left
 .cases a
 rename_i h;obtain⟨f,g⟩:=h;refine⟨((l.getD i.toNat tokD).text,()),a,λs va q b C=>?_⟩;simp only[VKs,VK]at b;obtain⟨D,j,E,F,rfl,rfl,⟨c,cs,G,rfl,k,m,rfl⟩,H,I,J,L,rfl,rfl,⟨rfl,rfl⟩,rfl,rfl⟩:=b;obtain⟨M,N,O,P,rfl,rfl,⟨rfl,rfl⟩,Q,S,T,U,rfl,rfl,⟨n,cap,rfl,V,W,rfl⟩,X,Y,Z,a6,rfl,rfl,⟨_,rfl⟩,v4,w4,a7,a8,rfl,rfl,⟨_,rfl⟩,v5,w5,a9,o,rfl,rfl,⟨_,rfl⟩,v6,w6,p,t,rfl,rfl,⟨_,rfl⟩,rfl,rfl⟩:=m;refine⟨[.at (.string ⟨(l.getD i.toNat tokD).text.toArray⟩)],λs'=>⟨_,[],[],[],rfl,rfl,⟨rfl,rfl⟩,rfl,rfl⟩,?_⟩;have d:=(yS s ([.inr c]++([]++([.inr n]++[]))++[]) c).1 dQ;rw[k]at d;exact zFb d f g
def zF2{P:di}{f:dt}{k:db V}{Q:Outc->S->Prop}{s:S}(h:FnC P f k s λoc l=>∀B g w,Al.Inv B g l w->∃a,Al.Inv B g a w/\Q oc a):FnC P f k s Q:=by
 intro B g w vs hi b m;refine(h B g w vs hi b m).mono ?_;rintro e w' ⟨g',l,k1,k2,d⟩;cases e with
 |outgrown=>exact d.elim
 |panicked c=>obtain⟨a,i,j⟩:=d _ _ _ k2;exact⟨g',a,k1,i,j⟩
 |returned v=>obtain⟨r,n,o⟩:=d;obtain⟨a,i,j⟩:=o _ _ _ k2;exact⟨g',a,k1,i,r,n,j⟩
def c47(_:dc):WW dc:=λq=>some ((),(q.1,q.2.1,([],[])::q.2.2.1,q.2.2.2))
def zLQ{s:S}{q:WS}{l bo cap b a d bf bm:Nat}{fp ff fm:db Nat}{o o6:da Nat}(K:Al.look s.box l=some ([tkV q.1,.at (.slice (some ⟨bo,0,none⟩) q.2.1.length cap),.at (pO o),.at (.map (some bf)),.at (.map (some bm)),.at (pO o6)],6))(L:q.2.1.length<=cap)(D:Al.look s.box bo=some (bdC q.2.1,cap*2))
 (M:(q.2.2.1=[]/\o=none/\fp=[])\/∃n,o=some n/\zE s.ob n=some (.lv (q.2.2.1.map trL),fp)) (r:zE s.ob bf=some (.mp (trMC q.2.2.2.1),ff)) (t:zE s.ob bm=some (.mp (trMC q.2.2.2.2),fm)) (N:o≠some bf) (O:o≠some bm) (P:bf≠bm) (E:bo≠l)
 (k1:Al.look s.box b=none) (k2:zE s.ob a=none) (z:zE s.ob d=none) (F:d≠a) {B:Nat} {g:Gh} {w:de}
 (hi:Al.Inv B g ⟨lay (lay s.box b (lcs a d o,3)) l ([tkV q.1,.at (.slice (some ⟨bo,0,none⟩) q.2.1.length cap),ptV b,.at (.map (some bf)),.at (.map (some bm)),.at (pO o6)],6),s.tg,s.nx,(d,.mp [],[d])::(a,.mp [],[a])::s.ob⟩ w) :
 ∃G,Al.Inv B g G w/\jQ CC syn [wkK] [] [ptV l] (some (wkV (q.1,q.2.1,([],[])::q.2.2.1,q.2.2.2),())) (.ret (.tup [])) G:=by
 have H:b≠l:=λe=>by rw[e,K]at k1;cases k1
 have I:b≠bo:=λe=>by rw[e,D]at k1;cases k1
 have f1:bf≠a:=λe=>by rw[e,k2]at r;cases r
 have f2:bf≠d:=λe=>by rw[e,z]at r;cases r
 have Q:bm≠a:=λe=>by rw[e,k2]at t;cases t
 have R:bm≠d:=λe=>by rw[e,z]at t;cases t
 have p:∀j c,zE s.ob j=some c->zE ((d,OV.mp [],[d])::(a,OV.mp [],[a])::s.ob) j=some c:=λj c u=>by
  rw[zK,if_neg (λe=>by rw[<-e,z]at u;cases u),zK,if_neg (λe=>by rw[<-e,k2]at u;cases u)];exact u
 generalize m:(⟨lay (lay s.box b (lcs a d o,3)) l ([tkV q.1,.at (.slice (some ⟨bo,0,none⟩) q.2.1.length cap),ptV b,.at (.map (some bf)),.at (.map (some bm)),.at (pO o6)],6),s.tg,s.nx,(d,.mp [],[d])::(a,.mp [],[a])::s.ob⟩:S)=s1 at hi;have J:Al.look s1.box b=some (lcs a d o,3):=by rw[<-m];show Al.look (lay (lay s.box b _) l _) b=_;rw[zO,if_neg (λe=>H e.symm),zO,if_pos rfl]
 have g0:Al.look s1.box l=some ([tkV q.1,.at (.slice (some ⟨bo,0,none⟩) q.2.1.length cap),ptV b,.at (.map (some bf)),.at (.map (some bm)),.at (pO o6)],6):=by rw[<-m];show Al.look (lay (lay s.box b _) l _) l=_;rw[zO,if_pos rfl]
 have go:Al.look s1.box bo=some (bdC q.2.1,cap*2):=by rw[<-m];show Al.look (lay (lay s.box b _) l _) bo=_;rw[zO,if_neg (λe=>E e.symm),zO,if_neg I];exact D
 have T:zE s1.ob a=some (.mp (trMC []),[a]):=by rw[<-m];show zE (_::_::_) a=_;rw[zK,if_neg F,zK,if_pos rfl];rfl
 have U:zE s1.ob d=some (.mp (trMC []),[d]):=by rw[<-m];show zE (_::_::_) d=_;rw[zK,if_pos rfl];rfl
 have A:zE s1.ob bf=some (.mp (trMC q.2.2.2.1),ff):=by rw[<-m];exact p _ _ r
 have C:zE s1.ob bm=some (.mp (trMC q.2.2.2.2),fm):=by rw[<-m];exact p _ _ t
 have V:(q.2.2.1.map trL=[]/\o=none/\fp=[])\/∃n,o=some n/\zE s1.ob n=some (.lv (q.2.2.1.map trL),fp):=by
  rcases M with⟨v,y,W⟩|⟨n,v,y⟩
  .exact .inl ⟨by rw[v];rfl,y,W⟩
  .exact .inr ⟨n,v,by rw[<-m];exact p _ _ y⟩
 have i:∀{k o f},zE s1.ob k=some (o,f)->k≠b:=λ{k o f} h e=>by
  have:=((hi.ex.ob k o f h).2.2 k (hi.ex.ob k o f h).2.1).2.2.2.1;rw[e,J]at this;cases this
 refine⟨_,hi.closeLv (x:=trL ([],[])) J T U (λe=>F e.symm) V,[],[.inr l,.inr bo,.ob b,.ob bf,.ob bm],[],zE4 (q:=(q.1,q.2.1,([],[])::q.2.2.1,q.2.2.2)) (n:=q.2.1.length) (cap:=cap) (o6:=o6) (fp:=b::a::d::fp) (ff:=ff) (fm:=fm) rfl ?_ L ?_ ?_ ?_ ?_,⟨rfl,rfl⟩,?_,rfl⟩
 .show Al.look (wipe s1.box b) l=_;rw[yR,if_neg H];exact g0
 .show Al.look (wipe s1.box b) bo=_;rw[yR,if_neg I];exact go
 .show zE ((b,_,_)::_) b=_;rw[zK,if_pos rfl];rfl
 .show zE ((b,_,_)::j8 s1.ob _) bf=_;rw[zK,if_neg (λe=>i A e.symm),qc,if_pos ?_]
  .exact A
  .have:bf∉a::d::o.toList:=by
    simp only[zUG,Option.mem_toList,not_or];exact⟨f1,f2,N⟩
   simpa using this
 .show zE ((b,_,_)::j8 s1.ob _) bm=_;rw[zK,if_neg (λe=>i C e.symm),qc,if_pos ?_]
  .exact C
  .have:bm∉a::d::o.toList:=by
    simp only[zUG,Option.mem_toList,not_or];exact⟨Q,R,O⟩
   simpa using this
 .have v:=i A;have y:=i C;simp only[zUR,zUm,zUG,zU4,zVL,not_or,not_false_eq_true,zVx,zUp];exact⟨⟨λe=>by injection e with e;exact E e.symm,dQ,dQ,dQ⟩,⟨dQ,dQ,dQ⟩,⟨λe=>by injection e with e;exact v e.symm,λe=>by injection e with e;exact y e.symm⟩,λe=>by injection e with e;exact P e⟩
def ok47:CQ 47 (cW ([]:LK) ([]:LK) c47):=by
 refine zEM λq a y h st A va C D n m d=>?_;simp only[VKs]at m;obtain⟨rfl,rfl⟩:=m;simp only[zUR]at d ⊢;injection h with h
 subst h;obtain⟨c,bo,cap,b,fp,bf,ff,bm,fm,o6,rfl,k1,k2,p,r,s,t,rfl⟩:=zCK n;have f:=(yS st [.inr c,.inr bo,.ob b,.ob bf,.ob bm] c).1 dQ;have i:=(yS st [.inr c,.inr bo,.ob b,.ob bf,.ob bm] bo).1 dQ;have j:=(yP st [.inr c,.inr bo,.ob b,.ob bf,.ob bm] b).1 dQ;have k:=(yP st [.inr c,.inr bo,.ob b,.ob bf,.ob bm] bf).1 dQ;have l:=(yP st [.inr c,.inr bo,.ob b,.ob bf,.ob bm] bm).1 dQ;rw[k1]at f;rw[p]at i;rw[r]at j;rw[s]at k;rw[t]at l;generalize subS st [.inr c,.inr bo,.ob b,.ob bf,.ob bm]=s0 at f i j k l ⊢;refine zF2 (kz (ok47x (o:=some b) f) ?_);rintro oc s' ⟨rfl,E,F,G,u,v,x,z,rfl⟩ B g w hi;exact zLQ (o:=some b) f k2 i (.inr ⟨b,rfl,j⟩) k l (λe=>by injection e with e;subst e;simp at d) (λe=>by injection e with e;subst e;simp at d) (λe=>by subst e;simp at d) (λe=>by subst e;simp at d) u v x z hi
abbrev wk0V(y:WS):Wk0T×dc:=((y.1,y.2.1,(),y.2.2.2.1,y.2.2.2.2,(),()),())
def zRl{s:S}{q:WS}{d:db V}{r:db Res}(h:VKs CC s [wk0] (wk0V q) d r) :
 ∃(a bo cap:Nat)(bf:Nat)(ff:db Nat)(bm:Nat)(fm:db Nat)(o6:da Nat),d=[ptV a]/\Al.look s.box a=some ([tkV q.1,.at (.slice (some ⟨bo,0,none⟩) q.2.1.length cap),.at (pO none),.at (.map (some bf)),.at (.map (some bm)),.at (pO o6)],6)/\q.2.1.length<=cap/\Al.look s.box bo=some (bdC q.2.1,cap*2) /\
  zE s.ob bf=some (.mp (trMC q.2.2.2.1),ff)/\zE s.ob bm=some (.mp (trMC q.2.2.2.2),fm)/\r=[.inr a,.inr bo,.ob bf,.ob bm]:=by
 obtain⟨v,w,x,y,z⟩:=q;simp only[VKs,VK]at h;obtain⟨A,e,B,C,rfl,rfl,⟨a,cs,D,rfl,f,g,rfl⟩,rfl,rfl⟩:=h;obtain⟨E,F,G,H,rfl,rfl,⟨rfl,rfl⟩,I,J,K,L,rfl,rfl,⟨i,cap,rfl,j,k,rfl⟩,M,N,O,P,rfl,rfl,⟨rfl,rfl⟩,Q,R,T,U,rfl,rfl,⟨l,b,rfl,m,rfl⟩,W,X,Y,n,rfl,rfl,⟨o,c,rfl,p,rfl⟩,Z,w6,t,u,rfl,rfl,⟨⟨o6,rfl⟩,rfl⟩,rfl,rfl⟩:=g;exact⟨a,i,cap,l,b,o,c,o6,rfl,f,j,k,m,p,rfl⟩
def ok47a:CQ 47 (cW1 ([]:LK) ([]:LK) c47):=by
 intro x a R p K r s;obtain⟨⟨d,f,F,h,i,G,u⟩,H⟩:=x;refine⟨some (wkV (d,f,[([],[])],h,i),()),s,λst I va J L t n j=>?_⟩;simp only[VKs]at n;obtain⟨rfl,rfl⟩:=n;simp only[zUR]at j ⊢;obtain⟨b,bo,cap,bf,ff,bm,fm,o6,rfl,k1,k2,v,y,z,rfl⟩:=zRl (q:=(d,f,[],h,i)) t;have c:=(yS st [.inr b,.inr bo,.ob bf,.ob bm] b).1 dQ;have k:=(yS st [.inr b,.inr bo,.ob bf,.ob bm] bo).1 dQ;have l:=(yP st [.inr b,.inr bo,.ob bf,.ob bm] bf).1 dQ;have m:=(yP st [.inr b,.inr bo,.ob bf,.ob bm] bm).1 dQ;rw[k1]at c;rw[v]at k;rw[y]at l;rw[z]at m;generalize subS st [.inr b,.inr bo,.ob bf,.ob bm]=s0 at c k l m ⊢;refine zF2 (kz (ok47x (o:=none) c) ?_);rintro oc s' ⟨rfl,M,N,O,A,C,D,E,rfl⟩ B g w hi;exact zLQ (q:=(d,f,[],h,i)) (o:=none) (fp:=[]) c k2 k (.inl ⟨rfl,rfl,rfl⟩) l m dQ dQ (λe=>by subst e;simp at j) (λe=>by subst e;simp at j) A C D E hi
def c104(_:dc):WW (LT1×dc):=λq=>
 match q.2.2.1 with
 |x::y::r=>some ((x,()),(q.1,q.2.1,y::r,q.2.2.2))
 |_=>none
def ok104:CQ 104 (cW ([]:LK) ([.lv1]:LK) c104):=by
 refine zEM λq a y v st vx va r1 r2 h1 U p=>?_;simp only[VKs]at U;obtain⟨rfl,rfl⟩:=U;simp only[zUR]at p ⊢;unfold c104 at v;split at v
 rotate_left
 .cases v
 rename_i x i r K;injection v with v
 subst v;obtain⟨h,bo,cap,b,fp,bf,ff,bm,fm,o6,rfl,k1,k2,k3,k4,k5,k6,rfl⟩:=zCK h1;have G:=(yS st [.inr h,.inr bo,.ob b,.ob bf,.ob bm] h).1 dQ;have H:=(yS st [.inr h,.inr bo,.ob b,.ob bf,.ob bm] bo).1 dQ;have z:=(yP st [.inr h,.inr bo,.ob b,.ob bf,.ob bm] b).1 dQ;have I:=(yP st [.inr h,.inr bo,.ob b,.ob bf,.ob bm] bf).1 dQ;have J:=(yP st [.inr h,.inr bo,.ob b,.ob bf,.ob bm] bm).1 dQ;rw[k1]at G;rw[k3]at H;rw[k4]at z;rw[k5]at I;rw[k6]at J;generalize subS st [.inr h,.inr bo,.ob b,.ob bf,.ob bm]=s0 at G H z I J ⊢;have L:b≠bf:=by rintro rfl;simp at p
 have M:b≠bm:=by rintro rfl;simp at p
 have V:bo≠h:=by rintro rfl;simp at p
 have n4:bf≠bm:=by rintro rfl;simp at p
 rw[K]at z;refine zEa (φ:=(∃d f n t,fp=b::d::f::n::t/\fp.Nodup)/\h∉fp/\bo∉fp/\bf∉fp/\bm∉fp) (λB g w hi=>⟨?_,zMJ hi G H z I J L M⟩) ?_
 .obtain⟨d,f,N,s,O,_,q4,_⟩:=Inv.openLv2 hi z;obtain⟨n,p⟩:=q4 dQ;cases N with
  |nil=>cases p
  |cons n' t=>exact⟨d,f,n',t,s,O⟩
 rintro⟨⟨d,f,n,t,rfl,P⟩,m1,m2,A,C⟩;refine zGg (s':=Al.openLv s0 b d f (trL x) ((i::r).map trL) (some n) (n::t)) (λB g w hi=>?_) ?_
 .obtain⟨aa,ab,ac,s,_,_,_,q5⟩:=Inv.openLv2 hi z;injection s with _ s
  injection s with s Q
  injection Q with O q3
  subst s;subst O;subst q3;exact q5
 have o:=P;simp only[zUm,zUG,not_or]at o;obtain⟨⟨p1,p2,W,p4⟩,⟨X,Y,p7⟩,⟨Z,p9⟩,ad,ae⟩:=o;have R:Al.look (Al.openLv s0 b d f (trL x) ((i::r).map trL) (some n) (n::t)).box b=some (lcs d f (some n),3):=by
  show Al.look (lay s0.box b _) b=_;rw[zO,if_pos rfl]
 have D:∀j c,j≠b->Al.look s0.box j=some c->Al.look (Al.openLv s0 b d f (trL x) ((i::r).map trL) (some n) (n::t)).box j=some c:=λj c u S=>by
  show Al.look (lay s0.box b _) j=_;rw[zO,if_neg (λe=>u e.symm)];exact S
 have l:(Al.openLv s0 b d f (trL x) ((i::r).map trL) (some n) (n::t)).ob=(d,.mp (trMC x.1),[d])::(f,.mp (trMC x.2),[f])::(n,.lv ((i::r).map trL),n::t)::j8 s0.ob (λk=>!(k==b)):=rfl;have g2:zE (Al.openLv s0 b d f (trL x) ((i::r).map trL) (some n) (n::t)).ob d=some (.mp (trMC x.1),[d]):=by rw[l,zK,if_pos rfl]
 have g3:zE (Al.openLv s0 b d f (trL x) ((i::r).map trL) (some n) (n::t)).ob f=some (.mp (trMC x.2),[f]):=by rw[l,zK,if_neg X,zK,if_pos rfl]
 have g4:zE (Al.openLv s0 b d f (trL x) ((i::r).map trL) (some n) (n::t)).ob n=some (.lv ((i::r).map trL),n::t):=by rw[l,zK,if_neg Y,zK,if_neg Z,zK,if_pos rfl]
 have E:∀j c,j∉b::d::f::n::t->zE s0.ob j=some c->zE (Al.openLv s0 b d f (trL x) ((i::r).map trL) (some n) (n::t)).ob j=some c:=λj c u S=>by
  simp only[zUG,not_or]at u;rw[l,zK,if_neg (λe=>u.2.1 e.symm),zK,if_neg (λe=>u.2.2.1 e.symm),zK,if_neg (λe=>u.2.2.2.1 e.symm),qc,if_pos (by simpa using u.1)];exact S
 have g5:=E _ _ A I;have g6:=E _ _ C J;have m:h≠b:=λe=>m1 d5;have F:bo≠b:=λe=>m2 d5;have g7:=D _ _ m G;have g8:=D _ _ F H;generalize Al.openLv s0 b d f (trL x) ((i::r).map trL) (some n) (n::t)=s1 at R g2 g3 g4 g5 g6 g7 g8;refine zF2 (kz (ok104x g7 R (λe=>m e.symm)) ?_);rintro oc s' ⟨rfl,rfl⟩ B g w hi;have w1:Al.look (lay s1.box h ([tkV q.1,.at (.slice (some ⟨bo,0,none⟩) q.2.1.length cap),.at (pO (some n)),.at (.map (some bf)),.at (.map (some bm)),.at (pO o6)],6)) b=some (lcs d f (some n),3):=by rw[zO,if_neg m];exact R
 have T:=hi.close1 (x:=trL x) w1 g2 g3 X;refine⟨_,T,[ptV b],[.inr h,.inr bo,.ob n,.ob bf,.ob bm],[.ob b],zE4 (q:=(q.1,q.2.1,i::r,q.2.2.2)) (n:=q.2.1.length) (cap:=cap) (o6:=o6) (fp:=n::t) (ff:=ff) (fm:=fm) rfl ?_ k2 ?_ ?_ ?_ ?_,⟨_,[],[.ob b],[],rfl,rfl,⟨b,[b,d,f],rfl,?_,rfl⟩,rfl,rfl⟩,?_,rfl⟩
 .show Al.look (wipe (lay s1.box h _) b) h=_;rw[yR,if_neg (λe=>m e.symm),zO,if_pos rfl];rfl
 .show Al.look (wipe (lay s1.box h _) b) bo=_;rw[yR,if_neg (λe=>F e.symm),zO,if_neg (λe=>V e.symm)];exact g8
 .show zE ((b,_,_)::j8 s1.ob _) n=_;rw[zK,if_neg W,qc,if_pos ?_]
  .exact g4
  .have:n∉[d,f]:=by simp[zU9 Y,zU9 Z]
   simpa using this
 .show zE ((b,_,_)::j8 s1.ob _) bf=_;rw[zK,if_neg L,qc,if_pos ?_]
  .exact g5
  .have:bf∉[d,f]:=by
    simp only[zUG,not_or]at A;simp[A.2.1,A.2.2.1]
   simpa using this
 .show zE ((b,_,_)::j8 s1.ob _) bm=_;rw[zK,if_neg M,qc,if_pos ?_]
  .exact g6
  .have:bm∉[d,f]:=by
    simp only[zUG,not_or]at C;simp[C.2.1,C.2.2.1]
   simpa using this
 .show zE ((b,_,_)::_) b=_;rw[zK,if_pos rfl]
 .have h3:=A;have h4:=C;simp only[zUG,not_or]at h3 h4;simp only[zUO,zUQ,zUm,zUG,zU4,zVL,not_or,not_false_eq_true,zVx,zUp];refine⟨⟨λe=>by injection e with e;exact V e.symm,dQ,dQ,dQ,dQ⟩,⟨dQ,dQ,dQ,dQ⟩,⟨λe=>by injection e with e;exact h3.2.2.2.1 e.symm,λe=>by injection e with e;exact h4.2.2.2.1 e.symm,λe=>by injection e with e;exact W e.symm⟩,⟨λe=>by injection e with e;exact n4 e,λe=>by injection e with e;exact L e.symm⟩,λe=>by injection e with e;exact M e.symm⟩
end
section
open Go.Al Go.Den Go.RowKit Go.Shelf
def El(g:Gh)(w0:de):Type:={ x:Nd×dh // RV g w0 (za x.1) x.2 }
def exb(bx:Nat)(W:de)(b:Nat):Prop:=b=bx\/∃o l c,W.cell? ⟨bx,0,none⟩=some (.slice (some ⟨b,o,none⟩) l c)
def BoxOk(a bx:Nat)(W:de):Prop:=a<=bx/\(∃arr t m,W.heap[bx]?=some (.cells arr t m))/\∀b,exb bx W b->a<=b/\b<W.heap.size
structure Kept(n0 bx:Nat)(A B:World):Prop where
 ok:BoxOk n0 bx B
 size:A.heap.size<=B.heap.size
 same:∀b o v,A.cell? ⟨b,o,none⟩=some v->¬exb bx A b->B.cell? ⟨b,o,none⟩=some v
 ex:∀b,exb bx B b->exb bx A b\/A.heap.size<=b
 low:∀b,b<n0->B.heap[b]?=A.heap[b]?
def kq(a bx:Nat)(A B:de):Prop:=BoxOk a bx A->Kept a bx A B
def zCP{A:de}{b o:Nat}{v:dh}(h:A.cell? ⟨b,o,none⟩=some v):b<A.heap.size:=by
 rcases zUx b A.heap.size with a|a
 .exact a
 .unfold World.cell? at h;have:A.heap[b]?=none:=zVW a;simp only[this]at h;cases h
def qb{A B:de}{b:Nat}(h:B.heap[b]?=A.heap[b]?)(o:Nat):B.cell? ⟨b,o,none⟩=A.cell? ⟨b,o,none⟩:=World.cell?_of_block h
def Kept.refl{a bx:Nat}{A:de}(h:BoxOk a bx A):Kept a bx A A:=⟨h,zUB _,λ_ _ _ h _=>h,λ_ h=>.inl h,λ_ _=>rfl⟩
def Kept.trans{d bx:Nat}{A B C:de}(h:Kept d bx A B)(k:Kept d bx B C):Kept d bx A C:=by
 refine⟨k.ok,zU0 h.size k.size,λb o v a f=>?_,λb a=>?_,λb a=>(k.low b a).trans (h.low b a)⟩
 .refine k.same b o v (h.same b o v a f) (λe=>?_);rcases h.ex b e with c|c
  .exact f c
  .have:=zCP a;omega
 .rcases k.ex b a with c|c
  .exact h.ex b c
  .exact .inr (zU0 h.size c)
def zMA{a bx:Nat}{A B C:de}(h:kq a bx A B)(k:kq a bx B C):kq a bx A C:=λb=>(h b).trans (k (h b).ok)
def zAp{bx:Nat}{A B:de}(h:B.heap[bx]?=A.heap[bx]?)(b:Nat):exb bx B b↔exb bx A b:=by
 unfold exb;rw[qb h]
def BoxOk.grown{c bx:Nat}{A B:de}(h:BoxOk c bx A)(f:A.heap.size<=B.heap.size)(a:B.heap[bx]?=A.heap[bx]?):BoxOk c bx B:=by
 obtain⟨g,⟨arr,t,m,i⟩,d⟩:=h;exact⟨g,⟨arr,t,m,a.trans i⟩,λb e=>⟨(d b ((zAp a b).1 e)).1,zUo (d b ((zAp a b).1 e)).2 f⟩⟩
def BoxOk.lt{a bx:Nat}{A:de}(h:BoxOk a bx A):bx<A.heap.size:=(h.2.2 bx (.inl rfl)).2
def Kept.grown{d bx:Nat}{A B:de}(h:BoxOk d bx A)(c:A.grownBy B none):Kept d bx A B:=by
 have a:∀b,b<A.heap.size->B.heap[b]?=A.heap[b]?:=λb a=>c.block b a dQ;refine⟨h.grown c.size (a bx h.lt),c.size,λb o v e _=>(qb (a b (zCP e)) o).trans e,λb f=>.inl ((zAp (a bx h.lt) b).1 f),λb g=>a b (Nat.lt_trans (zUo g h.1) h.lt)⟩
def zK9{g bx:Nat}(W:de)(l:Nat)(o o':Obj)(p:g<=l)(h:W.heap[l]?=some o)(i:o.isCells=false):kq g bx W (W.putObj l o'):=by
 intro j;have e:bx≠l:=by
  rintro rfl;obtain⟨_,⟨arr,t,m,d⟩,_⟩:=j;rw[h]at d;injection d with d;subst d;cases i
 have f:(W.putObj l o').heap[bx]?=W.heap[bx]?:=World.putObj_heap_other e;have a:(W.putObj l o').heap.size=W.heap.size:=by simp[World.putObj]
 refine⟨j.grown (zV0 a.symm) f,zV0 a.symm,λb k v c _=>(qb (World.putObj_heap_other ?_) k).trans c,λb n=>.inl ((zAp f b).1 n),λb f=>World.putObj_heap_other dM⟩;rintro rfl;unfold World.cell? at c;simp only[h]at c;cases o<;>first|(cases i;done)|(cases c;done)|(simp at c;done)
def Same(g:Gh)(w0 W:de):Prop:=∀b o,o<g.wm b->W.cell? ⟨b,o,none⟩=w0.cell? ⟨b,o,none⟩
def Same.later{a:Nat->Nat}{w0 W:de}(h:Same ⟨a,λ_=>none,Fr.no⟩ w0 W):dD ⟨a,λ_=>none,Fr.no⟩ w0 ⟨a,λ_=>none,Fr.no⟩ W:=⟨λ_=>zUB _,λ_ _ h=>h,h⟩
def Same.back{a:Nat->Nat}{w0 W:de}(h:Same ⟨a,λ_=>none,Fr.no⟩ w0 W):dD ⟨a,λ_=>none,Fr.no⟩ W ⟨a,λ_=>none,Fr.no⟩ w0:=⟨λ_=>zUB _,λ_ _ h=>h,λb o c=>(h b o c).symm⟩
def Same.kept{a:Nat->Nat}{c bx:Nat}{w0 W g:de}(e:∀b,c<=b->a b=0)(h:Same ⟨a,λ_=>none,Fr.no⟩ w0 W)(k:Kept c bx W g):Same ⟨a,λ_=>none,Fr.no⟩ w0 g:=λb o d=>by
 have i:b<c:=by
  rcases zUx b c with f|f
  .exact f
  .replace d:o<a b:=d;rw[e b f]at d;omega
 exact(qb (k.low b i) o).trans (h b o d)
mutual
/-- A tree's parts,the outer ones first. -/
def allT:Nd->List Nd
 |.mk k a ks=>.mk k a ks::allK ks
def allK:List Nd->List Nd
 |[]=>[]
 |t::r=>allT t++allK r
end
def zCD{g:Gh}{w:de}{k a:Int}{ks:db Nd}{v:dh}(h:RV g w (za (.mk k a ks)) v):∃b,v=.agg #[.int .i64 k,.int .i64 a,b]/\RC g w (.lst (zx (jb ks)) (jb ks)) [b]:=by
 obtain⟨us,c,e⟩:=zCj (show RV g w (.agg [vi k,vi a,sl (jb ks)]) v from h);simp only[RCs,vi,sl]at c;obtain⟨f,i,rfl,⟨rfl,_⟩,j,l,rfl,⟨rfl,_⟩,m,n,rfl,d,rfl⟩:=c;have:=qh g w _ _ d;simp only[V.size]at this;obtain⟨b,rfl⟩:=List.length_eq_one_iff.1 this;exact⟨b,by rw[e];simp,d⟩
def zJJ{g:Gh}{w:de}:∀{ks:db Nd}{us:db dh}(i:Nat)(h:i<ks.length),RCs g w (jb ks) us->∃c d f,RV g w (za ks[i]) (.agg #[c,d,f])/\us[3*i]?=some c/\us[3*i+1]?=some d/\us[3*i+2]?=some f
 |.mk k a l::r,us,0,_,h=>by
  simp only[jb,za,RCs]at h;obtain⟨b,m,rfl,n,p⟩:=h;have q:RV g w (za (.mk k a l)) (.agg b.toArray):=zDw (by simpa only[RC]using n);obtain⟨s,e,_⟩:=zCD q;have:b=[.int .i64 k,.int .i64 a,s]:=by
   have:=zU1 (λv=>match v with|Value.agg a=>a.toList|_=>[]) e;simpa using this
  subst this;exact⟨_,_,_,q,rfl,rfl,rfl⟩
 |.mk k a l::r,us,i+1,hi,h=>by
  simp only[jb,za,RCs]at h;obtain⟨b,m,rfl,n,p⟩:=h;have t:=qh g w _ _ n;have u:b.length=3:=by rw[t];rfl
  obtain⟨c,d,f,k0,k1,k2,x⟩:=zJJ i (by simpa using hi) p;have o:∀j,(b++m)[3*(i+1)+j]?=m[3*i+j]?:=λj=>by
   rw[zWI dM,u];congr 1;omega
  exact⟨c,d,f,k0,(o 0).trans k1,(o 1).trans k2,(o 2).trans x⟩
def zLL(w:de)(t:dg)(c:dv dh)(i:Nat)(v:dh):(w.alloc (.cells c t)).setCell ⟨w.heap.size,i,none⟩ v=w.alloc (.cells (c.setIfInBounds i v) t):=by
 unfold World.setCell World.alloc;simp only[Option.isSome_none,zUN,zUK];congr 1;refine Array.ext_getElem? λj=>?_;rw[Array.getElem?_modify,Array.getElem?_push,Array.getElem?_push];by_cases h:w.heap.size=j
 .subst h;simp
 .have a:¬j=w.heap.size:=λe=>h e.symm;simp[h,a]
def zB2{P:di}(w:de)(t:dg)(c:dv dh)(i:Nat)(hi:i<c.size)(v:dh)(b:v.oneCell'=true):(store ⟨w.heap.size,i,none⟩ v).run P (w.alloc (.cells c t))=.ok () (w.alloc (.cells (c.setIfInBounds i v) t)):=by
 have a:(w.alloc (.cells c t)).heap[w.heap.size]?=some (.cells c t (0,0)):=World.alloc_heap_new w _;have d:(w.alloc (.cells c t)).cell? ⟨w.heap.size,i,none⟩=some c[i]:=by unfold World.cell?;simp only[a];simp[hi]
 have e:(w.alloc (.cells c t)).frozen? ⟨w.heap.size,i,none⟩=false:=by unfold World.frozen?;simp only[a];simp
 rw[run_store P _ _ v _ b,d,e];simp only[zUN,zUK];rw[zLL]
def store3{P:di}(w:de)(t:dg)(d e f a b c:dh)(g:a.oneCell'=true)(h:b.oneCell'=true)(i:c.oneCell'=true) :
 (((store ⟨w.heap.size,0,none⟩ a).run P (w.alloc (.cells #[d,e,f] t))).andThen λ_ w'=>((store ⟨w.heap.size,1,none⟩ b).run P w').andThen λ_ w'=>(store ⟨w.heap.size,2,none⟩ c).run P w')=.ok () (w.alloc (.cells #[a,b,c] t)):=by
 rw[zB2 w t _ 0 dQ a g];simp only[Result.andThen];rw[zB2 w t _ 1 dQ b h];simp only[Result.andThen];rw[zB2 w t _ 2 dQ c i];rfl
def zHe(x:Nd):∀ks:db Nd,allK (ks++[x])=allK ks++allT x
 |[]=>by simp[allK]
 |t::r=>by simp only[zUO,allK,zHe x r,zVB]
def zJp:∀(ks:db Nd)(j:Nat),(allK (ks.take j)).length<=(allK ks).length
 |[],j=>dQ
 |t::r,0=>by simp[allK]
 |t::r,j+1=>by have:=zJp r j;simp only[zUS,allK,zUI];omega
def zLJ{g:Gh}{w:de}{t:Nd}{b c d:dh}(h:RV g w (za t) (.agg #[b,c,d])):b.oneCell'=true/\c.oneCell'=true/\d.oneCell'=true:=by
 obtain⟨k,a,ks⟩:=t;obtain⟨f,e,i⟩:=zCD h;have j:=zGW _ _ _ _ i f dQ;injection e with e
 have e0:=zU1 Array.toList e;simp only[zVq,zVx]at e0;obtain⟨rfl,rfl,rfl⟩:=e0;exact⟨rfl,rfl,j⟩
def zTO{n j:Nat}(h:j<n):n-Int.toNat ((j+1:Nat):Int)<n-Int.toNat ((j:Nat):Int):=by
 rw[zU3,zU3];omega
def zQw(t:Nd):0<(allT t).length:=by cases t;simp[allT]
def zL1:∀ks:db Nd,ks.length<=(allK ks).length
 |[]=>dQ
 |t::r=>by have:=zL1 r;have:=zQw t;simp only[allK,zUD,zUI];omega
def zSB{c:Nat->Nat}{w:de}{ks:db Nd}{j:dh}(h:RC ⟨c,λ_=>none,Fr.no⟩ w (.lst (zx (jb ks)) (jb ks)) [j]) :
 ∃k cap,j=.slice k ks.length cap/\∀i (hi:i<ks.length),∃b o d e f,k=some ⟨b,o,none⟩/\RV ⟨c,λ_=>none,Fr.no⟩ w (za ks[i]) (.agg #[d,e,f]) /\
  (w.cell? ⟨b,o+3*i,none⟩=some d/\o+3*i<c b)/\(w.cell? ⟨b,o+(3*i+1),none⟩=some e/\o+(3*i+1)<c b)/\(w.cell? ⟨b,o+(3*i+2),none⟩=some f/\o+(3*i+2)<c b):=by
 have l:(jb ks).length=ks.length:=by rw[zFW];simp
 simp only[RC]at h;rcases h with⟨m,a,_⟩|⟨b,o,cap,ds,a,s,_,n,_,g⟩
 .have p:ks=[]:=by cases ks with|nil=>rfl|cons x r=>cases m
  subst p;injection a with a
  exact⟨none,0,a,λi hi=>absurd hi dQ⟩
 .injection a with a
  refine⟨_,cap,by rw[a,l],λi hi=>?_⟩;obtain⟨d,e,f,k0,k1,k2,q⟩:=zJJ i hi n;exact⟨b,o,d,e,f,rfl,k0,g _ _ k1,g _ _ k2,g _ _ q⟩
def zKi(F:dH)(l g bx N a d:Nat)(c:Nat->Nat)(w0:de)(J h:db (El ⟨c,λ_=>none,Fr.no⟩ w0)->de->Prop)(t:Nd):Prop:=
 ∀(m:Nat)(v:dh)(b:db (El ⟨c,λ_=>none,Fr.no⟩ w0))(W:de),Same ⟨c,λ_=>none,Fr.no⟩ w0 W->RV ⟨c,λ_=>none,Fr.no⟩ w0 (za t) v->J b W->BoxOk g bx W ->
  W.cell? ⟨a,0,none⟩=some (.func (.yield l) #[] #[])->¬exb bx W a->W.cell? ⟨d,0,none⟩=some (.func (.func 71) #[] #[.pointer (some ⟨a,0,none⟩),.pointer (some ⟨d,0,none⟩)])->¬exb bx W d ->
  b.length+(allT t).length<=N ->
  CallsIn F m Tryz.prog 71 #[v,.pointer (some ⟨a,0,none⟩),.pointer (some ⟨d,0,none⟩)] W λe f=>
   (e=.returned (.bool true)/\∃q:db (El ⟨c,λ_=>none,Fr.no⟩ w0),q.map (·.1.1)=allT t/\J (b++q) f/\Kept g bx W f)\/(e=.returned (.bool false)/\∃q,h (b++q) f)
set_option maxRecDepth 100000 in
def walk36(F:dH)(hd:F.depth=none)(hF:∀f,F.fn f)(hro:F.round=none)(l n0 bx N by' bw:Nat)(wm:Nat->Nat)(w0:de)(hwm:∀b,n0<=b->wm b=0)(hNb:N<=1000000)(J Jx:db (El ⟨wm,λ_=>none,Fr.no⟩ w0)->de->Prop)
 (hJ:∀pre W W',J pre W->W.grownBy W' none->J pre W')
 (hY:∀m pre (x:El ⟨wm,λ_=>none,Fr.no⟩ w0) W,J pre W->pre.length<N->YieldAt F m Tryz.prog l #[x.1.2] W λe W'=>(e=.returned (.bool true)/\J (pre++[x]) W'/\kq n0 bx W W')\/(e=.returned (.bool false)/\Jx (pre++[x]) W'))
 (k a:Int) (ks:db Nd)
 (ih:∀t∈ks,zKi F l n0 bx N by' bw wm w0 J Jx t):zKi F l n0 bx N by' bw wm w0 J Jx (.mk k a ks):=by
 intro m v pre W hS hv hJ0 hB hby hxy hbw hxw hN;have hdd:∀k:Nat,(F.depth.isSome=true->1<=k):=λk h=>by rw[hd]at h;cases h
 obtain⟨sv,rfl,hsv⟩:=zCD hv;obtain⟨ad,cap,rfl,hkid⟩:=zSB hsv;have c1:(W.alloc (.cells #[.int .i64 k,.int .i64 a,(.slice ad ks.length cap)] 29)).cell? ⟨by',0,none⟩=some (.func (.yield l) #[] #[]):=by
  rw[qb (Below.heap_alloc _ _ _ (zCP hby))];exact hby
 refine callsIn_of_wp Tryz.func71 rfl (hF _) ?_ hro;simp only[Tryz.ntmps71,zVO,zUD,zUF,Nat.reduceAdd,Nat.reduceSub,zVM,zVN,zVZ,zVR,zUQ,zUO];obtain⟨W1,hW1⟩:∃W1,W.alloc (.cells #[.int .i64 k,.int .i64 a,(.slice ad ks.length cap)] 29)=W1:=⟨_,rfl⟩;have hK1:Kept n0 bx W W1:=by rw[<-hW1];exact Kept.grown hB (World.grownBy_alloc W _ none)
 have hn1:W1.heap[W.heap.size]?=some (.cells #[.int .i64 k,.int .i64 a,(.slice ad ks.length cap)] 29 (0,0)):=by rw[<-hW1];exact World.alloc_heap_new W _
 have e1:W1.heap[bx]?=W.heap[bx]?:=by rw[<-hW1];exact Below.heap_alloc _ _ _ hB.lt
 have hnx:¬exb bx W1 W.heap.size:=λh=>by
  have:=(hB.2.2 _ ((zAp e1 _).1 h)).2;omega
 have d0:W1.cell? ⟨W.heap.size,0,none⟩=some (.int .i64 k):=by simp[World.cell?,hn1]
 have d1:W1.cell? ⟨W.heap.size,1,none⟩=some (.int .i64 a):=by simp[World.cell?,hn1]
 have d2:W1.cell? ⟨W.heap.size,2,none⟩=some (.slice ad ks.length cap):=by simp[World.cell?,hn1]
 have hJ1:J pre W1:=hJ pre W W1 hJ0 (by rw[<-hW1];exact World.grownBy_alloc W _ none);have hY1:YieldAt F (m-1) Tryz.prog l #[.agg #[.int .i64 k,.int .i64 a,(.slice ad ks.length cap)]] W1 λe W2=>
  (e=.returned (.bool true)/\J (pre++[⟨(.mk k a ks,.agg #[.int .i64 k,.int .i64 a,(.slice ad ks.length cap)]),hv⟩]) W2/\Kept n0 bx W1 W2/\W2.cell? ⟨W.heap.size,2,none⟩=some (.slice ad ks.length cap))\/(e=.returned (.bool false)/\∃q,Jx (pre++q) W2):=by
  refine YieldAt.mono (hY (m-1) pre ⟨(.mk k a ks,.agg #[.int .i64 k,.int .i64 a,(.slice ad ks.length cap)]),hv⟩ W1 hJ1 (by simp only[allT,zUD]at hN;omega)) λe W2 h=>h.elim (λ⟨he,hj,hk⟩=>.inl ⟨he,hj,hk hK1.ok,?_⟩) (λ⟨he,hx⟩=>.inr ⟨he,_,hx⟩);exact(hk hK1.ok).same _ _ _ d2 hnx
 obtain⟨fn,tmps,assign,body,hy,hR⟩:=hY1;rw[hW1]at c1
 gi_wp2_with (first
  |((try refine⟨hdd _,?_⟩);refine hR.mono ?_;clear hR;rintro e W2 (⟨rfl,hJ2,hK2,hc2⟩|⟨rfl,hx2⟩))
  |(rw[hW1]))
 .gi_loopw [14] (λu14 wr=>∃(j:Nat)(q:db (El ⟨wm,λ_=>none,Fr.no⟩ w0)),u14=.int .i64 j/\j<=ks.length/\q.map (·.1.1)=.mk k a ks::allK (ks.take j)/\J (pre++q) wr/\Kept n0 bx W1 wr)
   (λu14 _=>match u14 with|.int _ z=>ks.length-z.toNat|_=>0)
  case atStart=>exact⟨0,[⟨(.mk k a ks,_),hv⟩],rfl,zVI _,rfl,hJ2,hK2⟩
  case round=>
   obtain⟨j,q,rfl,hj,hq,hJq,hKq⟩:=hrel;by_cases hlt:j<ks.length
   .obtain⟨b,o,v0,v1,v2,rfl,hvj,⟨a0,b0⟩,⟨a1,b1⟩,⟨a2,b2⟩⟩:=hkid j hlt;have hSr:=(hS.kept hwm hK1).kept hwm hKq;have f0:wr.cell? ⟨b,o+j*3,none⟩=some v0:=by rw[Nat.mul_comm j 3];exact(hSr _ _ b0).trans a0
    have f1:wr.cell? ⟨b,o+j*3+1,none⟩=some v1:=by rw[Nat.mul_comm j 3];exact(hSr _ _ b1).trans a1
    have f2:wr.cell? ⟨b,o+j*3+2,none⟩=some v2:=by rw[Nat.mul_comm j 3];exact(hSr _ _ b2).trans a2
    have h1c:=zLJ hvj;have hst:=store3 (P:=Tryz.prog) wr 29 (.int .i64 0) (.int .i64 0) (.slice none 0 0) v0 v1 v2 h1c.1 h1c.2.1 h1c.2.2;obtain⟨W3,hW3⟩:∃W3,wr.alloc (.cells #[v0,v1,v2] 29)=W3:=⟨_,rfl⟩;rw[hW3]at hst;have hK3:Kept n0 bx wr W3:=by rw[<-hW3];exact Kept.grown hKq.ok (World.grownBy_alloc wr _ none)
    have hK03:Kept n0 bx W W3:=(hK1.trans hKq).trans hK3;have hn3:W3.heap[wr.heap.size]?=some (.cells #[v0,v1,v2] 29 (0,0)):=by rw[<-hW3];exact World.alloc_heap_new wr _
    have g0:W3.cell? ⟨wr.heap.size,0,none⟩=some v0:=by simp[World.cell?,hn3]
    have g1:W3.cell? ⟨wr.heap.size,1,none⟩=some v1:=by simp[World.cell?,hn3]
    have g2:W3.cell? ⟨wr.heap.size,2,none⟩=some v2:=by simp[World.cell?,hn3]
    have hby3:=hK03.same _ _ _ hby hxy;have g3:=hK03.same _ _ _ hbw hxw;have hxy3:¬exb bx W3 by':=λh=>(hK03.ex _ h).elim hxy (λh=>by have:=zCP hby;omega)
    have hxw3:¬exb bx W3 bw:=λh=>(hK03.ex _ h).elim hxw (λh=>by have:=zCP hbw;omega);have hJ3:J (pre++q) W3:=hJ _ wr W3 hJq (by rw[<-hW3];exact World.grownBy_alloc wr _ none);have hql:q.length=1+(allK (ks.take j)).length:=by
     have:=zU1 List.length hq;simp only[zUZ,zUD]at this;omega
    have htk:ks.take (j+1)=ks.take j++[ks[j]]:=zVT hlt;have hal:=zJp ks (j+1);rw[htk,zHe,zUI]at hal;have ihj:=ih ks[j] (zUv hlt) (m-1) (.agg #[v0,v1,v2]) (pre++q) W3 (hS.kept hwm hK03) hvj hJ3 hK3.ok hby3 hxy3 g3 hxw3 (by
     simp only[allT,zUD]at hN;rw[zUI];omega)
    gi_wp2_with (first
     |(rw[hst])
     |((try refine⟨hdd _,?_⟩);gi_at_call 71;refine ihj.mono ?_;clear ihj;rintro e W4 (⟨rfl,q4,hq4,hJ4,hK4⟩|⟨rfl,q4,hx4⟩)))
    .have hkl:=zL1 ks;simp only[allT,zUD]at hN;have hw:wrap64 ((j:Int)+1)=((j+1:Nat):Int):=by rw[IntWalk.wrap64_in _ ⟨dM,dM⟩];omega
     rw[hw];refine⟨⟨j+1,q++q4,rfl,hlt,?_,by rw[<-zVB];exact hJ4,(hKq.trans hK3).trans hK4⟩,?_⟩
     .rw[zVa,hq,hq4,htk,zHe];rfl
     .show ks.length-Int.toNat ((j+1:Nat):Int)<ks.length-Int.toNat ((j:Nat):Int);exact zTO hlt
    .go_ret;exact .inr ⟨rfl,q++q4,by rw[<-zVB];exact hx4⟩
   .gi_wp2;go_ret;have e2:ks.take j=ks:=zU5 dM;rw[e2]at hq;exact .inl ⟨rfl,q,by rw[hq];simp only[allT],hJq,hK1.trans hKq⟩
 .go_ret;exact .inr ⟨rfl,hx2⟩
def zKu(F:dH)(r:F.depth=none)(s:∀f,F.fn f)(i:F.round=none)(l j bx N d q:Nat)(g:Nat->Nat)(w0:de)(n:∀b,j<=b->g b=0)(o:N<=1000000)(J p:db (El ⟨g,λ_=>none,Fr.no⟩ w0)->de->Prop)
 (u:∀c W h,J c W->W.grownBy h none->J c h)
 (v:∀m c (x:El ⟨g,λ_=>none,Fr.no⟩ w0) W,J c W->c.length<N->YieldAt F m Tryz.prog l #[x.1.2] W λe h=>(e=.returned (.bool true)/\J (c++[x]) h/\kq j bx W h)\/(e=.returned (.bool false)/\p (c++[x]) h)) :
 ∀t:Nd,zKi F l j bx N d q g w0 J p t
 |.mk k a ks=>walk36 F r s i l j bx N d q g w0 n o J p u v k a ks λt w=>
  have:SizeOf.sizeOf t<1+SizeOf.sizeOf k+SizeOf.sizeOf a+SizeOf.sizeOf ks:=by have:=List.sizeOf_lt_of_mem w;omega
  zKu F r s i l j bx N d q g w0 n o J p u v t
set_option maxRecDepth 100000 in
def zTf(F:dH)(hd:F.depth=none)(hF:∀f,F.fn f)(s:F.round=none)(l r bx N n:Nat)(o:Nat->Nat)(w0:de)(u:∀b,r<=b->o b=0)(I:N<=1000000)(J K:db (El ⟨o,λ_=>none,Fr.no⟩ w0)->de->Prop)
 (L:∀c W j,J c W->W.grownBy j none->J c j)
 (hY:∀m c (x:El ⟨o,λ_=>none,Fr.no⟩ w0) W,J c W->c.length<N->YieldAt F m Tryz.prog l #[x.1.2] W λe j=>(e=.returned (.bool true)/\J (c++[x]) j/\kq r bx W j)\/(e=.returned (.bool false)/\K (c++[x]) j))
 (t:Nd) (m:Nat) (w y z:dh) (W:de) (hS:Same ⟨o,λ_=>none,Fr.no⟩ w0 W) (hv:RV ⟨o,λ_=>none,Fr.no⟩ w0 (za t) (.agg #[w,y,z])) (M:J [] W) (H:BoxOk r bx W)
 (A:W.heap[n]?=some (.cells #[w,y,z] 29 (0,0))) (hN:(allT t).length<=N) :
 CallsIn F m Tryz.prog 70 #[.func (.yield l) #[] #[],.pointer (some ⟨n,0,none⟩)] W λe j=>(∃v,e=.returned v)/\((∃q:db (El ⟨o,λ_=>none,Fr.no⟩ w0),q.map (·.1.1)=allT t/\J q j)\/(∃q,True/\K q j)):=by
 have O:∀k:Nat,(F.depth.isSome=true->1<=k):=λk h=>by rw[hd]at h;cases h
 refine callsIn_of_wp Tryz.func70 rfl (hF _) ?_ s;simp only[Tryz.ntmps70,zVO,zUD,zUF,Nat.reduceAdd,Nat.reduceSub,zVM,zVN,zVZ,zVR,zUQ,zUO];obtain⟨i,g⟩:∃i,W.alloc (.cells #[.func (.yield l) #[] #[]] 117)=i:=⟨_,rfl⟩;have B:i.heap.size=W.heap.size+1:=by rw[<-g];simp
 obtain⟨a,d⟩:∃a,i.alloc (.cells #[.func (.func 71) #[] #[.pointer (some ⟨W.heap.size,0,none⟩),.pointer (some ⟨W.heap.size+1,0,none⟩)]] 117)=a:=⟨_,rfl⟩;have Q:(store ⟨W.heap.size+1,0,none⟩ (.func (.func 71) #[] #[.pointer (some ⟨W.heap.size,0,none⟩),.pointer (some ⟨W.heap.size+1,0,none⟩)])).run Tryz.prog (i.alloc (.cells #[.nilFunc] 117))=.ok () a:=by
  have:=zB2 (P:=Tryz.prog) i 117 #[.nilFunc] 0 dQ (.func (.func 71) #[] #[.pointer (some ⟨W.heap.size,0,none⟩),.pointer (some ⟨W.heap.size+1,0,none⟩)]) rfl;rw[B]at this;rw[this,<-d];rfl
 have C:Kept r bx W i:=by rw[<-g];exact Kept.grown H (World.grownBy_alloc W _ none)
 have D:Kept r bx W a:=C.trans (by rw[<-d];exact Kept.grown C.ok (World.grownBy_alloc i _ none));have R:a.heap[W.heap.size]?=some (.cells #[.func (.yield l) #[] #[]] 117 (0,0)):=by
  rw[<-d,Below.heap_alloc _ _ _ dM,<-g];exact World.alloc_heap_new W _
 have S:a.heap[W.heap.size+1]?=some (.cells #[.func (.func 71) #[] #[.pointer (some ⟨W.heap.size,0,none⟩),.pointer (some ⟨W.heap.size+1,0,none⟩)]] 117 (0,0)):=by
  have:=World.alloc_heap_new i (.cells #[.func (.func 71) #[] #[.pointer (some ⟨W.heap.size,0,none⟩),.pointer (some ⟨W.heap.size+1,0,none⟩)]] 117 (0,0));rw[d,B]at this;exact this
 have T:n<W.heap.size:=(zUH.1 A).1;have p:a.heap[n]?=some (.cells #[w,y,z] 29 (0,0)):=by
  rw[<-d,Below.heap_alloc _ _ _ dM,<-g,Below.heap_alloc _ _ _ T];exact A
 have g4:a.cell? ⟨W.heap.size,0,none⟩=some (.func (.yield l) #[] #[]):=by simp[World.cell?,R]
 have g0:a.cell? ⟨n,0,none⟩=some w:=by simp[World.cell?,p]
 have g1:a.cell? ⟨n,1,none⟩=some y:=by simp[World.cell?,p]
 have g2:a.cell? ⟨n,2,none⟩=some z:=by simp[World.cell?,p]
 have g3:a.cell? ⟨W.heap.size+1,0,none⟩=some (.func (.func 71) #[] #[.pointer (some ⟨W.heap.size,0,none⟩),.pointer (some ⟨W.heap.size+1,0,none⟩)]):=by simp[World.cell?,S]
 have E:∀b,W.heap.size<=b->¬exb bx a b:=λb hb hx=>by
  have U:a.heap[bx]?=W.heap[bx]?:=by
   rw[<-d,Below.heap_alloc _ _ _ (by have:=H.lt;omega),<-g,Below.heap_alloc _ _ _ H.lt]
  have:=(H.2.2 _ ((zAp U b).1 hx)).2;omega
 have V:J [] a:=L _ i a (L _ W i M (by rw[<-g];exact World.grownBy_alloc W _ none)) (by rw[<-d];exact World.grownBy_alloc i _ none);have G:=zKu F hd hF s l r bx N W.heap.size (W.heap.size+1) o w0 u I J K L hY t (m-1) (.agg #[w,y,z]) [] a (hS.kept u D) hv V D.ok g4 (E _ (zUB _)) g3 (E _ dM) (by simpa using hN)
 gi_wp2_with (first
  |(rw[Q])
  |((try refine⟨O _,?_⟩);gi_at_call 71;refine G.mono ?_;clear G;rintro e W4 (⟨rfl,X,Y,Z,ab⟩|⟨rfl,X,aa⟩)))
 .go_end0;exact⟨⟨_,rfl⟩,.inl ⟨X,Y,by simpa using Z⟩⟩
 .go_end0;exact⟨⟨_,rfl⟩,.inr ⟨X,trivial,by simpa using aa⟩⟩
def zPW(F:dH)(L:F.depth=none)(O:∀f,F.fn f)(y:F.round=none)(m g bx z:Nat)(i:Nat->Nat)(w0 w:de)(k:∀b,g<=b->i b=0)(t:Nd)(C:(allT t).length<=1000000)
 (D E G:dh) (P:Same ⟨i,λ_=>none,Fr.no⟩ w0 w) (Q:RV ⟨i,λ_=>none,Fr.no⟩ w0 (za t) (.agg #[D,E,G])) (M:BoxOk g bx w) (R:g<=w.heap.size) (n:w.heap[z]?=some (.cells #[D,E,G] 29 (0,0))) :
 SeqStopsK F m Tryz.prog 70 #[.pointer (some ⟨z,0,none⟩)] (λx:El ⟨i,λ_=>none,Fr.no⟩ w0=>#[x.1.2]) (kq g bx) (λq=>q.map (·.1.1)=allT t) (λ_=>True) (allT t).length w:=λl J S W u hJa _ T U=>by
 have H:Same ⟨i,λ_=>none,Fr.no⟩ w0 W:=λb o v=>by
  have hb:b<g:=by
   rcases zUx b g with I|I
   .exact I
   .replace v:o<i b:=v;rw[k b I]at v;omega
  exact(qb (u.block b dM) o).trans (P b o v)
 exact zTf F L O y l g bx (allT t).length z i w0 k C J S (λj A B K V=>hJa j A B none K V (λr e=>fb)) (λm' j x X K Y=>by
  obtain⟨Z,p,a,s,hy,N⟩:=T j x X K Y;exact⟨Z,p,a,s,hy,N.1,λc cs _=>N.2 c cs (λd h=>by rw[L]at h;cases h)⟩)
  t m D E G W H Q U (M.grown u.size (u.block _ M.lt)) ((u.block _ (zUH.1 n).1).trans n) (zUB _)
end
section
open Go.Al Go.Den Go.RowKit Go.Shelf
attribute [local go_sem] Oper.semAt_some
def zGF{F:dH}{n:Nat}{P:di}(w:de){ops:dv dr}{f:db dr}{o:dr}{a:Act}{Q:dA->Act->de->Prop}
 (A:o.guard=none) (s x:dq) (t:dg) (g:o.op=Op.call { callee:=Callee.builtin Builtin.append,args:=#[s,x],argTypes:=#[t,t] })
 (base:Nat) (e:dg) (i:TypeInfo) (z:dh) (b bytes:Nat) (B:P.underlying t=some (.slice e)) (C:P.info? e=some i) (D:i.zero=some z) (E:i.size=b) (G:i.bytes=bytes) (H:z.cells.size=b) (I:0<b)
 (v:dh) (k:Nat) (xs:db dh) (J:a.eval s=v) (h:w.ownsRow base e b v k xs) (p:Addr) (m c:Nat) (d:db dh) (L:a.eval x=.slice (some p) m c) (M:d.length=m*b)
 (N:∀j u,d[j]?=some u->w.cell? (p.add j)=some u) (q:∀u∈d,u.oneCell'=true) (b1:k+m<=maxLen) (O:(k+m)*bytes<=140737488355328) (R:base<=w.heap.size)
 (S:∀v' w',w'.ownsRow base e b v' (k+m) (xs++d)->w.grownBy w' v.ownBlock->(v'=.slice none 0 0↔v=.slice none 0 0/\m=0)->(v'.ownBlock=v.ownBlock\/v'.ownBlock=some w.heap.size)->wpListIn F n P ops Q f (a.put o.dst v') w') :
 wpListIn F n P ops Q (o::f) a w:=by
 refine wpListIn_plain A λK r=>?_;obtain⟨v',w',l,T,U,V,W⟩:=run_append_own_at (P:=P) w base t o.type e i z b bytes B C D E G H I v k xs h p m c d M N q b1 O R;unfold Oper.wpIn;refine⟨?_,?_⟩
 .simp[Oper.about,g,resolve,Target.leads,Sem.run_pure]
 .rw[Oper.semAt_plain F _ _ (by rw[g];intro c y;cases y)];simp[execOp,g,resolve,invoke,builtin,J,L,l,Result.andThen];exact r _ _ (S v' w' T U V W)
def zLl{W:de}{base:Nat}{e:dg}{b:Nat}{v:dh}{k:Nat}{xs:db dh}(h:W.ownsRow base e b v k xs){j:Nat}{o:Obj}(f:W.heap[j]?=some o)(c:∀a,o≠.cells a e (0,0)) :
 v.ownBlock=none\/v.ownBlock≠some j:=by
 rcases h.2 with⟨rfl,_⟩|⟨g,cap,a,rfl,_,d,_⟩
 .exact .inl rfl
 .refine .inr λe'=>?_;have:g=j:=by simpa [Value.ownBlock]using e'
  subst this;rw[d]at f;cases f;exact c a rfl
def Grow(b bx:Nat)(t e:dg)(a:Nat)(w:de)(xs:db dh)(n:Nat)(W:de):Prop:=
 ∃v,W.heap[bx]?=some (.cells #[v] t (0,0))/\W.ownsRow b e a v n xs/\(n=0->v=.slice none 0 0)/\dC b w W
def Grow.exb{d bx:Nat}{t e:dg}{a:Nat}{w:de}{xs:db dh}{n:Nat}{W:de}{v:dh}(f:W.heap[bx]?=some (.cells #[v] t (0,0)))(i:W.ownsRow d e a v n xs)(b:Nat) :
 exb bx W b↔b=bx\/v.ownBlock=some b:=by
 have j:W.cell? ⟨bx,0,none⟩=some v:=by simp[World.cell?,f]
 unfold Go.Proofs.YtnamdpbcpnnhaaaGreatDoor.exb;rw[j];refine or_congr zVD ⟨λ⟨o,l,c,h⟩=>?_,λh=>?_⟩
 .injection h with h;subst h;rfl
 .rcases i.2 with⟨rfl,_⟩|⟨g,cap,k,rfl,_,m,_⟩
  .cases h
  .have:g=b:=by simpa [Value.ownBlock]using h
   subst this;exact⟨_,_,_,rfl⟩
def Grow.box{c bx:Nat}{t e:dg}{a:Nat}{w:de}{xs:db dh}{n:Nat}{W:de}(i:c<=bx)(h:Grow c bx t e a w xs n W):BoxOk c bx W:=by
 obtain⟨v,d,j,_,o⟩:=h;refine⟨i,⟨_,_,_,d⟩,λb k=>?_⟩;rcases(Grow.exb (w:=w) d j b).1 k with rfl|h
 .exact⟨i,(zUH.1 d).1⟩
 .rcases j.2 with⟨rfl,_⟩|⟨g,cap,l,rfl,m,f,_⟩
  .cases h
  .have:g=b:=by simpa [Value.ownBlock]using h
   subst this;exact⟨m,(zUH.1 f).1⟩
def Grow.own{j bx:Nat}{t e:dg}{a:Nat}{w:de}{xs:db dh}{n:Nat}{A B:de}{c:da Nat}(x:j<=w.heap.size)(h:Grow j bx t e a w xs n A)(p:A.grownBy B c)(u:∀r,c=some r->j<=r/\∃o:Obj,A.heap[r]?=some o/\o.isCells=false):Grow j bx t e a w xs n B:=by
 obtain⟨v,q,d,y,l⟩:=h;have f:∀{b:Nat}{o:Obj},A.heap[b]?=some o->o.isCells=true->some b≠c:=λl z e=>by
  obtain⟨_,o',m,i⟩:=u _ e.symm;rw[l]at m;injection m with m;subst m;rw[z]at i;cases i
 refine⟨v,(p.block bx (zUH.1 q).1 (f q rfl)).trans q,d.kept p ?_,y,l.grown p (zU0 x l.size) (λk e=>(u k e).1)⟩;rcases d.2 with⟨rfl,_⟩|⟨g,cap,C,rfl,_,s,_⟩
 .exact .inl rfl
 .exact .inr (f s rfl)
def Grow.kept{f bx:Nat}{t e:dg}{c:Nat}{w:de}{xs r:db dh}{n x:Nat}{A B:de}(y:f<=bx){v v':dh}(m:A.heap[bx]?=some (.cells #[v] t (0,0)))(p:A.ownsRow f e c v n xs)
 (i:B.heap[bx]?=some (.cells #[v'] t (0,0))) (j:B.ownsRow f e c v' x r) (z:x=0->v'=.slice none 0 0) (C:dC f w B) (D:A.heap.size<=B.heap.size)
 (s:v'.ownBlock=v.ownBlock\/∃b,v'.ownBlock=some b/\A.heap.size<=b) (h:∀b,b<A.heap.size->b≠bx->v.ownBlock≠some b->B.heap[b]?=A.heap[b]?):Kept f bx A B:=by
 have k:∀b,b<f->v.ownBlock≠some b:=λb l a=>by
  rcases p.2 with⟨rfl,_⟩|⟨g,cap,E,rfl,J,F,_⟩
  .cases a
  .have:g=b:=by simpa [Value.ownBlock]using a
   omega
 have G:=(zUH.1 m).1;refine⟨Grow.box y ⟨v',i,j,z,C⟩,D,λb o u l q=>?_,λb q=>?_,λb l=>h b dM dM (k b l)⟩
 .have d:b≠bx:=λa=>q ((Grow.exb (w:=w) m p b).2 (.inl a));have H:v.ownBlock≠some b:=λa=>q ((Grow.exb (w:=w) m p b).2 (.inr a));exact(qb (h b (zCP l) d H) o).trans l
 .rcases(Grow.exb (w:=w) i j b).1 q with rfl|d
  .exact .inl (.inl rfl)
  .rcases s with a|⟨K,a,I⟩
   .exact .inl ((Grow.exb (w:=w) m p b).2 (.inr (a▸d)))
   .rw[a]at d;injection d with d;subst d;exact .inr I
def Grow.round{d bx K0:Nat}{t e:dg}{a:Nat}{w:de}{xs f:db dh}{n m:Nat}{A B:de}(C:d<=bx){v v':dh}(r:A.heap[bx]?=some (.cells #[v] t (0,0)))(s:A.ownsRow d e a v n xs)
 (i:B.heap[bx]?=some (.cells #[v'] t (0,0))) (j:B.ownsRow d e a v' m f) (u:m=0->v'=.slice none 0 0) (x:dC d w B) (y:A.heap.size<=B.heap.size)
 (p:v'.ownBlock=v.ownBlock\/∃b,v'.ownBlock=some b/\A.heap.size<=b) (h:∀b,b<A.heap.size->b≠bx->v.ownBlock≠some b->B.heap[b]?=A.heap[b]?) :
 KeepsFrom K0 A B/\kq d bx A B/\Grow d bx t e a w f m B:=by
 refine⟨⟨y,λk o _ c z=>(h k (zUH.1 c).1 (λl=>?_) (λl=>?_)).trans c⟩,λ_=>Grow.kept C r s i j u x y p h,v',i,j,u,x⟩
 .subst l;rw[r]at c;injection c with c;subst c;cases z
 .rcases s.2 with⟨rfl,_⟩|⟨g,cap,D,rfl,_,q,_⟩
  .cases l
  .have:g=k:=by simpa [Value.ownBlock]using l
   subst this;rw[q]at c;injection c with c;subst c;cases z
def zK2{W:de}{B:Nat}{v:dh}{t:dg}(v':dh)(h:W.heap[B]?=some (.cells #[v] t (0,0))):(W.setCell ⟨B,0,none⟩ v').heap[B]?=some (.cells #[v'] t (0,0)):=by
 obtain⟨a,b⟩:=zUH.1 h;show(W.heap.modify B _)[B]?=_;rw[zV4 fg,zV5,b];rfl
def zSe{W:de}{base:Nat}{e:dg}{a:Nat}{v:dh}{k:Nat}{xs:db dh}(h:W.ownsRow base e a v k xs){b:Nat}(c:v.ownBlock=some b):base<=b:=by
 rcases h.2 with⟨rfl,_⟩|⟨g,cap,d,rfl,f,_⟩
 .cases c
 .have:g=b:=by simpa [Value.ownBlock]using c
  omega
set_option maxRecDepth 100000 in
def all_in(F:dH)(g:∀f,F.fn f)(a:F.round=none)(m:Nat)(b c d:dh)(w:de) :
 CallsIn F m Tryz.prog 51 #[.agg #[b,c,d]] w λe w'=>e=.returned (.func (.func 70) #[] #[.pointer (some ⟨w.heap.size,0,none⟩)])/\w'=w.alloc (.cells #[b,c,d] 29):=by
 refine callsIn_of_wp Tryz.func51 rfl (g _) ?_ a;simp only[Tryz.ntmps51,zVO,zUD,zUF,Nat.reduceAdd,Nat.reduceSub,zVM,zVN,zVZ,zVR,zUQ,zUO];gi_wp2;go_ret;exact⟨rfl,rfl⟩
end
section
open Go.Al Go.Den
abbrev as90:db (AK UU):=[.str,.int .u8]
abbrev rs90:db (AK UU):=[.int .i64]
abbrev as91:db (AK UU):=[.str,.str]
abbrev rs91:db (AK UU):=[.int .i64]
def kf64:Nat->db Nat
 |0=>[0]
 |1=>[0,6]
 |2=>[0,6,7]
 |3=>[0,6,7]
 |4=>[0,6,7]
 |5=>[0,6,7]
 |6=>[0,7]
 |7=>[0]
 |8=>[0,2]
 |9=>[0,21]
 |10=>[0,3]
 |11=>[0,3,33]
 |12=>[0,3]
 |13=>[0]
 |14=>[0,2]
 |15=>[0,54]
 |16=>[0,2]
 |17=>[0,4]
 |18=>[0,4,67]
 |19=>[0,2]
 |20=>[0]
 |21=>[0,2]
 |_=>[]
def jn64:db (Nat×Head UU):=[(7,⟨[0],[(7,.bool)],[(0,rdK)]⟩),(13,⟨[0],[(3,.int .i64)],[(0,rdK)]⟩),(9,⟨[0],[],[(0,rdK)]⟩)]
noncomputable def fd64:FD UU:=mkfd kf64 [] jn64 [] Tryz.f64 77 [.tmp 2]
def kf65:Nat->db Nat
 |0=>[0]
 |1=>[0,10]
 |2=>[0,2,3]
 |3=>[0,4]
 |4=>[0,4,14]
 |5=>[0,2,3]
 |6=>[0,5]
 |7=>[0,5,19]
 |8=>[0,2,3]
 |9=>[0,6]
 |10=>[0,6,24]
 |11=>[0,2,3]
 |12=>[0,7]
 |13=>[0,7,29]
 |14=>[0,2,3]
 |15=>[0,8]
 |16=>[0,8,34]
 |17=>[0,2,3]
 |18=>[0,2,3]
 |_=>[]
noncomputable def fd65:FD UU:=mkfd kf65 [] [] [] Tryz.f65 36 [.tmp 2,.tmp 3]
def kf89:Nat->db Nat
 |0=>[0,1]
 |1=>[0,4]
 |_=>[]
noncomputable def fd89:FD UU:=mkfd kf89 [] [] [] Tryz.f89 16 [.tmp 4]
def kf92:Nat->db Nat
 |0=>[0]
 |1=>[0,3]
 |2=>[0,3,17]
 |3=>[0,3]
 |4=>[0,2]
 |_=>[]
def hd92:db (Nat×Head UU):=[(2,⟨[0],[(3,.int .i64)],[(0,rdK)]⟩)]
noncomputable def fd92:FD UU:=mkfd kf92 hd92 [] [] Tryz.f92 21 [.tmp 2]
def kf93:Nat->db Nat
 |0=>[0]
 |1=>[0,20]
 |2=>[0,2]
 |3=>[0,3]
 |4=>[0,3,4,5]
 |5=>[0,2]
 |6=>[0,3,4,29]
 |7=>[0,3]
 |8=>[0,3,43]
 |9=>[0,3]
 |_=>[]
def hd93:db (Nat×Head UU):=[(4,⟨[0],[(3,.int .i64)],[(0,rdK)]⟩)]
noncomputable def fd93:FD UU:=mkfd kf93 hd93 [] [] Tryz.f93 56 [.tmp 2]
def kf94:Nat->db Nat
 |0=>[0,1]
 |1=>[0,1,21]
 |2=>[0,4]
 |3=>[0,1,5]
 |4=>[0,1,5,33]
 |5=>[0,1,5]
 |6=>[0,1,5,38]
 |7=>[0,1,5,38,39]
 |8=>[0,5,47]
 |9=>[0,4]
 |10=>[0,4]
 |11=>[0,1,5,38,50]
 |12=>[0,4]
 |13=>[0,1,5,52]
 |14=>[0,1,5]
 |15=>[0,1,5,73]
 |16=>[0,4]
 |17=>[0,4]
 |_=>[]
def hd94:db (Nat×Head UU):=[(4,⟨[0,1],[(5,.int .i64)],[(0,rdK)]⟩)]
noncomputable def fd94:FD UU:=mkfd kf94 hd94 [] [] Tryz.f94 74 [.tmp 4]
def kf95:Nat->db Nat
 |0=>[0]
 |1=>[0,3]
 |2=>[0,3,6,7]
 |3=>[0,3,6,7,8]
 |4=>[0,3,5,6,7]
 |5=>[0,3,5,6,7,19]
 |6=>[0,3,6,7]
 |7=>[0,3,6,7]
 |8=>[0,2]
 |_=>[]
def hd95:db (Nat×Head UU):=[(3,⟨[0,6],[(3,.int .i64),(7,.int .i64)],[(0,rdK)]⟩)]
noncomputable def fd95:FD UU:=mkfd kf95 hd95 [] [] Tryz.f95 24 [.tmp 2]
def kf119:Nat->db Nat
 |0=>[0,1]
 |1=>[4]
 |_=>[]
noncomputable def fd119:FD UU:=mkfd kf119 [] [] [] Tryz.f119 8 [.tmp 4]
def kf122:Nat->db Nat
 |0=>[0]
 |1=>[2]
 |_=>[]
noncomputable def zKV:FD UU:=mkfd kf122 [] [] [] Tryz.f122 21 [.tmp 2]
def kf123:Nat->db Nat
 |0=>[0]
 |1=>[2]
 |_=>[]
noncomputable def zKX:FD UU:=mkfd kf123 [] [] [] Tryz.f123 9 [.tmp 2]
def kf132:Nat->db Nat
 |0=>[0,1]
 |1=>[4]
 |_=>[]
noncomputable def fd132:FD UU:=mkfd kf132 [] [] [] Tryz.f132 18 [.tmp 4]
noncomputable def run89(fu:Nat)(x:zA [rdK])(a:zA kS):da (da (zA [rdK]×zA kB)):=
 runP CC Tb fu 4 (zG [(119,fd119),(132,fd132)]) (zG []) (zG []) (zG []) fd89 [rdK] [rdK] kS kB x a
def fdok89:FdX (hasN []) (hasN []) 89 fd89:=fdk Tryz.func89 Tryz.ntmps89 Tryz.results89
def zNr:FdX (hasN []) (hasN []) 119 fd119:=fdk Tryz.func119 Tryz.ntmps119 Tryz.results119
def zOK:FdX (hasN []) (hasN []) 132 fd132:=fdk Tryz.func132 Tryz.ntmps132 Tryz.results132
noncomputable def run92(fu:Nat)(c88:zA kI->Str->Int->da (zA ([.int .u8]:LK)))(x:zA [rdK])(a:zA k0):da (da (zA [rdK]×zA kI)):=
 runP CC Tb fu 4 (zG [(122,zKV),(123,zKX)]) (zG []) (zG [(88,cRD kI ([.int .u8]:LK) c88)]) (zG []) fd92 [rdK] [rdK] k0 kI x a
def fdok92:FdX (hasN []) (hasN [88]) 92 fd92:=fdk Tryz.func92 Tryz.ntmps92 Tryz.results92
def zOh:FdX (hasN []) (hasN [88]) 122 zKV:=fdk Tryz.func122 Tryz.ntmps122 Tryz.results122
def zOA:FdX (hasN []) (hasN [88]) 123 zKX:=fdk Tryz.func123 Tryz.ntmps123 Tryz.results123
noncomputable def run93(fu:Nat)(c90:db UInt8×Int×dc->da (Int×dc))(c88:zA kI->Str->Int->da (zA ([.int .u8]:LK)))(x:zA [rdK])(a:zA k0):da (da (zA [rdK]×zA kI)):=
 runP CC Tb fu 4 (zG [(122,zKV),(123,zKX)]) (zG [(90,(⟨as90,rs90,c90⟩:Con UU))]) (zG [(88,cRD kI ([.int .u8]:LK) c88)]) (zG []) fd93 [rdK] [rdK] k0 kI x a
def fdok93:FdX (hasN [90]) (hasN [88]) 93 fd93:=fdk Tryz.func93 Tryz.ntmps93 Tryz.results93
def zOk:FdX (hasN [90]) (hasN [88]) 122 zKV:=fdk Tryz.func122 Tryz.ntmps122 Tryz.results122
def zOb:FdX (hasN [90]) (hasN [88]) 123 zKX:=fdk Tryz.func123 Tryz.ntmps123 Tryz.results123
noncomputable def run94(fu:Nat)(c88:zA kI->Str->Int->da (zA ([.int .u8]:LK)))(x:zA [rdK])(a:zA ([.int .u8]:LK)):da (da (zA [rdK]×zA kI)):=
 runP CC Tb fu 2 (zG []) (zG []) (zG [(88,cRD kI ([.int .u8]:LK) c88)]) (zG []) fd94 [rdK] [rdK] ([.int .u8]:LK) kI x a
def fdok94:FdX (hasN []) (hasN [88]) 94 fd94:=fdk Tryz.func94 Tryz.ntmps94 Tryz.results94
noncomputable def run95(fu:Nat)(c89:zA kS->DD (zA kB))(x:zA [rdK])(a:zA k0):da (da (zA [rdK]×zA kI)):=
 runP CC Tb fu 2 (zG []) (zG []) (zG []) (zG [(89,cD kS kB c89)]) fd95 [rdK] [rdK] k0 kI x a
def fdok95:FdX (hasN []) (hasN []) 95 fd95:=fdk Tryz.func95 Tryz.ntmps95 Tryz.results95
noncomputable def run65(fu:Nat)(c89:zA kS->DD (zA kB))(c92:zA k0->DD (zA kI))(c93:zA k0->DD (zA kI))(c94:zA ([.int .u8]:LK)->DD (zA kI))(c95:zA k0->DD (zA kI))(x:zA [rdK])(a:zA k0):da (da (zA [rdK]×zA ([.int .i64,.int .i64]:LK))):=
 runP CC Tb fu 2 (zG []) (zG []) (zG []) (zG [(89,cD kS kB c89),(92,cD k0 kI c92),(93,cD k0 kI c93),(94,cD ([.int .u8]:LK) kI c94),(95,cD k0 kI c95)]) fd65 [rdK] [rdK] k0 ([.int .i64,.int .i64]:LK) x a
def fdok65:FdX (hasN []) (hasN []) 65 fd65:=fdk Tryz.func65 Tryz.ntmps65 Tryz.results65
noncomputable def run64(fu:Nat)(c90:db UInt8×Int×dc->da (Int×dc))(c91:db UInt8×db UInt8×dc->da (Int×dc))(c88:zA kI->Str->Int->da (zA ([.int .u8]:LK)))(c89:zA kS->DD (zA kB))(x:zA [rdK])(a:zA k0):da (da (zA [rdK]×zA kB)):=
 runP CC Tb fu 2 (zG []) (zG [(90,(⟨as90,rs90,c90⟩:Con UU)),(91,(⟨as91,rs91,c91⟩:Con UU))]) (zG [(88,cRD kI ([.int .u8]:LK) c88)]) (zG [(89,cD kS kB c89)]) fd64 [rdK] [rdK] k0 kB x a
def fdok64:FdX (hasN [90,91]) (hasN [88]) 64 fd64:=fdk Tryz.func64 Tryz.ntmps64 Tryz.results64
abbrev as39:db (AK UU):=[.int .i64,.str]
abbrev rs39:db (AK UU):=[.dl TI.tok]
abbrev as62:db (AK UU):=[.str]
abbrev rs62:db (AK UU):=[.dl TI.char]
abbrev as63:db (AK UU):=[.dl TI.char]
abbrev rs63:db (AK UU):=[.str]
def kf39:Nat->db Nat
 |0=>[0,1]
 |1=>[0,5]
 |2=>[0,5,6]
 |3=>[0,5,6,7]
 |4=>[0,5,6,7,8]
 |5=>[0,5,6,7,8,32]
 |6=>[0,5,6,7,8]
 |7=>[0,5,6,7,8,43]
 |8=>[4]
 |9=>[0,5,6,7,8,9,10]
 |10=>[0,5,6,7,8,10]
 |11=>[0,5,6,7,8,10]
 |12=>[0,5,6,7,8]
 |13=>[0,5,6,7]
 |_=>[]
def hd39:db (Nat×Head UU):=[(4,⟨[0,5,6],[(7,.ow true TI.tok)],[(6,rdK)]⟩),(5,⟨[0,5,6,8],[(7,.ow true TI.tok)],[(6,rdK),(8,.box [.int .i64,.str,.int .i64,.int .i64,.int .i64,.bool])]⟩)]
noncomputable def fd39:FD UU:=mkfd kf39 hd39 [] [(10,[(1000066,53,6),(1000067,53,6),(1000066,57,6),(1000067,57,6),(1000066,61,6),(1000067,61,6)]),(11,[(1000088,71,6),(1000089,71,6),(1000088,74,6),(1000089,74,6),(1000088,79,6),(1000089,79,6),(1000088,85,6),(1000089,85,6)])] Tryz.f39 102 [.tmp 4]
noncomputable def run39(fu:Nat)(c62:db UInt8×dc->da (db dz×dc))(c63:db dz×dc->da (db UInt8×dc))(c64:zA k0->DD (zA kB))(c65:zA k0->DD (zA ([.int .i64,.int .i64]:LK)))(a:Nat->dd)(b:Int)(c:db UInt8):da (zj rs39):=
 zAD CC Tb fu 2 (zG []) (zG [(62,(⟨as62,rs62,c62⟩:Con UU)),(63,(⟨as63,rs63,c63⟩:Con UU))]) (zG []) (zG [(64,cD k0 kB c64),(65,cD k0 ([.int .i64,.int .i64]:LK) c65)]) fd39 as39 rs39 a (b,c,())
def fdok39:FdX (hasN [62,63]) (hasN []) 39 fd39:=fdk Tryz.func39 Tryz.ntmps39 Tryz.results39
abbrev as17:db (AK UU):=[.dl TI.tok]
abbrev rs17:db (AK UU):=[.st TI.node,.int .i64]
abbrev as32:db (AK UU):=[.st TI.node,.int .i64]
abbrev rs32:db (AK UU):=[.dl TI.node]
def hd3:db (Nat×Head UU):=[(9,⟨[1,5],[(7,.ow true TI.tok),(8,.int .i64)],[]⟩)]
def hd4:db (Nat×Head UU):=[(7,⟨[3,4],[(5,.ow true TI.tok),(6,.int .i64)],[]⟩)]
def hd5:db (Nat×Head UU):=[(9,⟨[1,2,7,11],[(12,.ow true TI.tok),(13,.int .i64)],[]⟩)]
def hd6:db (Nat×Head UU):=[(7,⟨[5,6,7],[(8,.int .i64)],[]⟩),(19,⟨[5,6,9,11,13],[(15,.int .i64)],[(9,.box [.int .i64,.int .i64,.dl TI.node]),(11,.box [.int .i64,.int .i64,.dl TI.node]),(13,.box [.int .i64,.int .i64,.dl TI.node])]⟩)]
end
end Go.Proofs.YtnamdpbcpnnhaaaGreatDoor
section
namespace Go.Proofs
open Go.Shelf
def Tryz.lays137_ren:Go.Shelf.Ren:=⟨λ|137=>90|217=>120|266=>133|n=>n,λ|9=>9|5=>5|3=>3|n=>n,λ|n=>n⟩
def Tryz.lays137:Go.Proofs.Lays.n137 Tryz.prog Tryz.lays137_ren:={
 mixed:=dO
 f137:=Tryz.func90.trans (zU1 some dO)
 f217:=Tryz.func120.trans (zU1 some dO)
 f266:=Tryz.func133.trans (zU1 some dO)
 t3:=Tryz.underlying3
 a3:=Tryz.isAgg3
 z3:=Tryz.sizeOf3
 v3:=Tryz.zeroValue3
 t5:=Tryz.underlying5
 a5:=Tryz.isAgg5
 z5:=Tryz.sizeOf5
 v5:=Tryz.zeroValue5
 t9:=Tryz.underlying9
 a9:=Tryz.isAgg9
 z9:=Tryz.sizeOf9
 v9:=Tryz.zeroValue9 }
open Go.RowKit in
def Tryz.strings_IndexByte(s:ByteArray)(c:Int)(w:World) :
 Calls Tryz.prog 90 #[.string s,.int .u8 c] w λe w'=>e=.returned (.int .i64 (Lib.indexByte s.data.toList c.toNat.toUInt8))/\w'=w:=Any.strings_IndexByte Tryz.lays137 s c w
def Tryz.lays143_ren:Go.Shelf.Ren:=⟨λ|143=>91|219=>121|217=>120|225=>134|224=>135|267=>136|266=>133|314=>144|n=>n,λ|9=>9|3=>3|4=>4|5=>5|46=>109|146=>132|51=>131|n=>n,λ|1=>4|n=>n⟩
def Tryz.lays143:Go.Proofs.Lays.n143 Tryz.prog Tryz.lays143_ren:={
 mixed:=dO
 f143:=Tryz.func91.trans (zU1 some dO)
 f217:=Tryz.func120.trans (zU1 some dO)
 f219:=Tryz.func121.trans (zU1 some dO)
 f224:=Tryz.func135.trans (zU1 some dO)
 f225:=Tryz.func134.trans (zU1 some dO)
 f266:=Tryz.func133.trans (zU1 some dO)
 f267:=Tryz.func136.trans (zU1 some dO)
 f314:=Tryz.func144.trans (zU1 some dO)
 t3:=Tryz.underlying3
 a3:=Tryz.isAgg3
 z3:=Tryz.sizeOf3
 v3:=Tryz.zeroValue3
 t4:=Tryz.underlying4
 a4:=Tryz.isAgg4
 z4:=Tryz.sizeOf4
 v4:=Tryz.zeroValue4
 t5:=Tryz.underlying5
 a5:=Tryz.isAgg5
 z5:=Tryz.sizeOf5
 v5:=Tryz.zeroValue5
 t9:=Tryz.underlying9
 a9:=Tryz.isAgg9
 z9:=Tryz.sizeOf9
 v9:=Tryz.zeroValue9
 t46:=Tryz.underlying109
 a46:=Tryz.isAgg109
 z46:=Tryz.sizeOf109
 v46:=Tryz.zeroValue109
 t51:=Tryz.underlying131
 a51:=Tryz.isAgg131
 z51:=Tryz.sizeOf131
 v51:=Tryz.zeroValue131
 t146:=Tryz.underlying132
 a146:=Tryz.isAgg132
 z146:=Tryz.sizeOf132
 v146:=Tryz.zeroValue132
 g1:=by kernel_rfl }
open Go.RowKit Go.Lib in
def Tryz.strings_Index(s sub:ByteArray)(m:Int)(w:World)(hs:s.size<4294967281)(hm:w.cell? ⟨4,0,none⟩=some (.int .i64 m)) :
 Calls Tryz.prog 91 #[.string s,.string sub] w λe w'=>e=.returned (.int .i64 (Lib.index s.data.toList sub.data.toList))/\w'=w:=Any.strings_Index Tryz.lays143 s sub m w hs hm
def Tryz.lays99_ren:Go.Shelf.Ren:=⟨λ|99=>119|206=>132|n=>n,λ|9=>9|4=>4|3=>3|n=>n,λ|n=>n⟩
def Tryz.lays99:Go.Proofs.Lays.n99 Tryz.prog Tryz.lays99_ren:={
 mixed:=dO
 f99:=Tryz.func119.trans (zU1 some dO)
 f206:=Tryz.func132.trans (zU1 some dO)
 t3:=Tryz.underlying3
 a3:=Tryz.isAgg3
 z3:=Tryz.sizeOf3
 v3:=Tryz.zeroValue3
 t4:=Tryz.underlying4
 a4:=Tryz.isAgg4
 z4:=Tryz.sizeOf4
 v4:=Tryz.zeroValue4
 t9:=Tryz.underlying9
 a9:=Tryz.isAgg9
 z9:=Tryz.sizeOf9
 v9:=Tryz.zeroValue9 }
open Go.RowKit Go.Lib in
def Tryz.strings_HasPrefix(s p:ByteArray)(w:World) :
 Calls Tryz.prog 119 #[.string s,.string p] w λe w'=>e=.returned (.bool (Lib.hasPrefix s.data.toList p.data.toList))/\w'=w:=Any.strings_HasPrefix Tryz.lays99 s p w
end Go.Proofs
namespace Go.Proofs.YtnamdpbcpnnhaaaGreatDoor
open Go.Al Go.Den Go.RowKit Go.Sort
def zMp{B:Nat}{b:Nat->Nat}{w:de}(h:GlobOk B b w):∃m,w.cell? ⟨4,0,none⟩=some (.int .i64 m):=by
 obtain⟨d,arr,el,m,a,z,c⟩:=h.one (4,λus=>∃m,us=[.int .i64 m]) (by simp[zN4]);refine⟨z,?_⟩;unfold World.cell?;replace a:w.heap[4]?=some (.cells arr el m):=a;simp only[a];have:arr=[Value.int .i64 z].toArray:=by rw[<-c]
 rw[this];rfl
def zAK{a:Nat->Nat}{w w':de}(d:∀b,w.heap.size<=b->a b=0)(e:dC w.heap.size w w') :
 (∀b,w'.heap.size<=b->a b=0)/\dB w.heap.size ⟨a,λ_=>none,Fr.no⟩ w ⟨a,λ_=>none,Fr.no⟩ w':=by
 have g:dD ⟨a,λ_=>none,Fr.no⟩ w ⟨a,λ_=>none,Fr.no⟩ w':=⟨λ_=>zUB _,λ_ _ h=>h,λb o f=>by
  have c:b<w.heap.size:=by
   rcases zUx b w.heap.size with h|h
   .exact h
   .replace f:o<a b:=f;rw[d b h]at f;omega
  exact World.cell?_of_block (e.block b c)⟩
 exact⟨λb c=>d b (zU0 e.size c),⟨g,e,λb h=>fj,λ_ _=>rfl,rfl⟩⟩
def pure90(s:Str)(c:Int):jS Tryz.prog 90 [.at (.string ⟨s.toArray⟩),.at (.int .u8 c)] (.at (.int .i64 (Lib.indexByte s c.toNat.toUInt8))):=by
 intro g w us b h i;cases i with
 |cons d a=>
  cases a with
  |cons a f=>
   cases f;have e:=yG d;subst e;have e:=yG a;subst e;refine(Tryz.strings_IndexByte ⟨s.toArray⟩ c w).mono ?_;rintro e w' ⟨rfl,rfl⟩;obtain⟨j,k⟩:=zAK b (Below.refl _ _);exact⟨_,g,rfl,j,k,yY rfl⟩
def pure91(s t:Str)(h:s.length<4294967281):jS Tryz.prog 91 [.at (.string ⟨s.toArray⟩),.at (.string ⟨t.toArray⟩)] (.at (.int .i64 (Lib.index s t))):=by
 intro g w us b c i;cases i with
 |cons d a=>
  cases a with
  |cons a f=>
   cases f;have e:=yG d;subst e;have e:=yG a;subst e;obtain⟨m,j⟩:=zMp c;refine(Tryz.strings_Index ⟨s.toArray⟩ ⟨t.toArray⟩ m w (by simpa [ByteArray.size]using h) j).mono ?_;rintro e w' ⟨rfl,rfl⟩;obtain⟨k,l⟩:=zAK b (Below.refl _ _);exact⟨_,g,rfl,k,l,yY rfl⟩
def c90(x:Str×Int×dc):da (Int×dc):=some (Lib.indexByte x.1 x.2.1.toNat.toUInt8,())
def ok90'(s:Str)(c:Int)(u:dc)(vs:db V)(a:zCX CC as90 ((s,c,u):zj as90) vs):jS Tryz.prog 90 vs (.at (.int .i64 (Lib.indexByte s c.toNat.toUInt8))):=by
 obtain⟨v,vs',rfl,d,f,e,rfl,b,a⟩:=a;replace a:e=[]:=a;subst a;replace d:v=.at (.string ⟨List.toArray s⟩):=d;replace b:f=.at (.int .u8 c):=b;subst d b;exact pure90 s c
def ok90:CoX 90 ⟨as90,rs90,c90⟩:=λx y a vs b=>by
 have:=ok90' x.1 x.2.1 x.2.2 vs b;injection a with a
 subst a;exact this
def c91(x:Str×Str×dc):da (Int×dc):=if x.1.length<4294967281 then some (Lib.index x.1 x.2.1,())else none
def ok91'(s t:Str)(h:s.length<4294967281)(u:dc)(vs:db V)(a:zCX CC as91 ((s,t,u):zj as91) vs):jS Tryz.prog 91 vs (.at (.int .i64 (Lib.index s t))):=by
 obtain⟨v,vs',rfl,c,e,d,rfl,b,a⟩:=a;replace a:d=[]:=a;subst a;replace c:v=.at (.string ⟨List.toArray s⟩):=c;replace b:e=.at (.string ⟨List.toArray t⟩):=b;subst c b;exact pure91 s t h
def ok91:CoX 91 ⟨as91,rs91,c91⟩:=λx y a vs b=>by
 obtain⟨s,t,u⟩:=x;by_cases h:List.length (show Str from s)<4294967281
 .have c:c91 (s,t,u)=some (Lib.index s t,()):=if_pos h;replace a:c91 (s,t,u)=some y:=a;rw[c]at a;injection a with a
  subst a;exact ok91' s t h u vs b
 .have c:c91 (s,t,u)=none:=if_neg h;replace a:c91 (s,t,u)=some y:=a;rw[c]at a;cases a
end Go.Proofs.YtnamdpbcpnnhaaaGreatDoor
end
namespace Go.Proofs.YtnamdpbcpnnhaaaGreatDoor
section
open Go.Al Go.Den Go.RowKit Go.Shelf
def zQ9{a:Nat->Nat}{w i:de}(j:∀b,w.heap.size<=b->a b=0)(l:dC w.heap.size w i){c n:Nat}{e:dg}{v:dh}{ds:db dh}(m:i.ownsRow w.heap.size e c v n ds)(E:n=0->v=.slice none 0 0)
 (es:db V) (F:n=es.length) (G:∀x∈es,x.size=c) (p:RCs ⟨a,λ_=>none,Fr.no⟩ w es ds) :
 ∃d,(∀b,i.heap.size<=b->d b=0)/\dB w.heap.size ⟨a,λ_=>none,Fr.no⟩ w ⟨d,λ_=>none,Fr.no⟩ i/\RV ⟨d,λ_=>none,Fr.no⟩ i (.lst (zx es) es) v:=by
 subst F;obtain⟨A,q⟩:=zAK j l;cases es with
 |nil=>
  refine⟨a,A,q,?_⟩;rw[E rfl];exact qg eL
 |cons x r=>
  obtain⟨B,⟨_,H⟩|⟨g,cap,I,rfl,J,o,K,N,L,y⟩⟩:=m
  .simp at H
  .have M:=(zUH.1 o).1;have C:dD ⟨a,λ_=>none,Fr.no⟩ w ⟨λb=>if b=g then ds.length else a b,λ_=>none,Fr.no⟩ i:=by
    refine⟨λb=>?_,λ_ _ h=>h,q.later.cell⟩;show a b<=if b=g then ds.length else a b
    split
    .rename_i h;rw[h,j g J];exact zVI _
    .exact zUB _
   refine⟨λb=>if b=g then ds.length else a b,λb D=>?_,⟨C,q.below,λb h=>fj,λb D=>?_,rfl⟩,qg ?_⟩
   .show(if b=g then ds.length else a b)=0;rw[if_neg dM];exact A b D
   .show(if b=g then ds.length else a b)=a b;rw[if_neg dM]
   .simp only[RC];refine .inr ⟨g,0,cap,ds,rfl,K,by simp[zx,zFa],yE C _ _ p,⟨c,G,by intro t O s h;simp[zx]at h⟩,λk u f=>⟨?_,?_⟩⟩
    .have z:k<ds.length:=(zVK.1 f).1;rw[<-y,zU6]at f;split at f
     .simp only[World.cell?,o,zUY];rw[zVJ]at f;simpa using f
     .cases f
    .have z:k<ds.length:=(zVK.1 f).1;show 0+k<if g=g then ds.length else a g
     rw[if_pos rfl];omega
def zRG(t:Nd):trT CC ⟨id,id,id,id⟩ (argT CC (.st TI.node) false t)=za t:=by
 cases t with
 |mk k a ks=>rw[qv];rfl
end
section
open Go.Al Go.Den Go.RowKit Go.Shelf
attribute [local go_sem] Oper.semAt_some
attribute [local congr] xP xi x7 qP yX xL yN yO xQ xn xE xx xN xG yI yT xD x9 xy yh xj xO yi yo xH xF yn xI xM yl qR qB qA xh xg xm xK ym yk
abbrev polF:Pol:=⟨λ_=>true,λd=>d==18,λ_=>false,λ_=>false,[],λ_=>[]⟩
def zNC:cV (.agg #[.int .i64 0,.int .i64 0,.slice none 0 0])=.agg [.at (.int .i64 0),.at (.int .i64 0),.lst .nil []]:=rfl
def zCS:Nat->db Nat:=λ_=>[3,5,6,13]
def Row(W:de)(a bx:Nat)(v:dh)(n:Nat)(ds:db dh):Prop:=
 (n=0/\v=.slice none 0 0/\ds=[]) \/
 (∃r cap arr el,v=.slice (some ⟨r,0,none⟩) n cap/\a<=r/\r≠bx/\W.heap[r]?=some (.cells arr el (0,0))/\n<=cap/\arr.size=cap*3/\arr.toList.take (n*3)=ds/\ds.length=n*3/\0<n/\∀d∈ds,one d=true)
def Row.own{W:de}{a bx n:Nat}{v:dh}{ds:db dh}(h:Row W a bx v n ds){b:Nat}(c:v.ownBlock=some b):a<=b/\b≠bx/\∃cap arr el,v=.slice (some ⟨b,0,none⟩) n cap/\W.heap[b]?=some (.cells arr el (0,0)):=by
 rcases h with⟨_,rfl,_⟩|⟨r,cap,arr,el,rfl,d,e,f,_⟩
 .cases c
 .have:r=b:=by simpa [Value.ownBlock]using c
  subst this;exact⟨d,e,cap,arr,el,rfl,f⟩
def Row.kept{A B:de}{a bx n:Nat}{v:dh}{ds:db dh}(h:Row A a bx v n ds)(c:∀b,v.ownBlock=some b->B.heap[b]?=A.heap[b]?):Row B a bx v n ds:=by
 rcases h with h|⟨r,cap,arr,el,rfl,d,e,f,g⟩
 .exact .inl h
 .exact .inr ⟨r,cap,arr,el,rfl,d,e,(c r rfl).trans f,g⟩
def GrowF(a bx:Nat)(w:de)(ds:db dh)(n:Nat)(W:de):Prop:=
 ∃v,(∃t,W.heap[bx]?=some (.cells #[v] t (0,0)))/\Row W a bx v n ds/\dC a w W
def zS6{bx:Nat}{W:de}{v:dh}{t:dg}(a:W.heap[bx]?=some (.cells #[v] t (0,0)))(e:∀b o l c,v=.slice (some ⟨b,o,none⟩) l c->v.ownBlock=some b)(b:Nat) :
 exb bx W b↔b=bx\/∃o l c,v=.slice (some ⟨b,o,none⟩) l c:=by
 have d:W.cell? ⟨bx,0,none⟩=some v:=by simp[World.cell?,a]
 unfold Go.Proofs.YtnamdpbcpnnhaaaGreatDoor.exb;rw[d];exact or_congr zVD ⟨λ⟨o,l,c,h⟩=>⟨o,l,c,by injection h⟩,λ⟨o,l,c,h⟩=>⟨o,l,c,by rw[h]⟩⟩
def Row.exb{bx a n:Nat}{W:de}{v:dh}{t:dg}{ds:db dh}(h:Row W a bx v n ds)(d:W.heap[bx]?=some (.cells #[v] t (0,0)))(b:Nat) :
 exb bx W b↔b=bx\/v.ownBlock=some b:=by
 rw[zS6 d (λb o l c e=>by subst e;rfl) b];refine or_congr zVD ⟨λ⟨o,l,c,e⟩=>by subst e;rfl,λe=>?_⟩;obtain⟨_,_,cap,arr,el,f,_⟩:=h.own e;exact⟨_,_,_,f⟩
def GrowF.box{a bx:Nat}{w:de}{ds:db dh}{n:Nat}{W:de}(d:a<=bx)(h:GrowF a bx w ds n W):BoxOk a bx W:=by
 obtain⟨v,⟨t,c⟩,e,j⟩:=h;refine⟨d,⟨_,_,_,c⟩,λb f=>?_⟩;rcases(e.exb c b).1 f with rfl|h
 .exact⟨d,(zUH.1 c).1⟩
 .obtain⟨g,_,_,arr,el,_,i⟩:=e.own h;exact⟨g,(zUH.1 i).1⟩
def jo{A B:de}{a:da Nat}(d:A.grownBy B a)(f:∀r,a=some r->∃o:Obj,A.heap[r]?=some o/\o.isCells=false){b:Nat}{arr:dv dh}{el:dg}{m:Nat×Nat}(h:A.heap[b]?=some (.cells arr el m)):B.heap[b]?=some (.cells arr el m):=
 (d.block b (zUH.1 h).1 (λe=>by
  obtain⟨o,c,g⟩:=f b e.symm;rw[h]at c;injection c with c;subst c;cases g)).trans h
def GrowF.grown{d bx:Nat}{w:de}{ds:db dh}{n:Nat}{A B:de}{a:da Nat}(l:d<=w.heap.size)(h:GrowF d bx w ds n A)(f:A.grownBy B a)(g:∀r,a=some r->d<=r/\∃o:Obj,A.heap[r]?=some o/\o.isCells=false):GrowF d bx w ds n B:=by
 obtain⟨v,⟨t,m⟩,c,i⟩:=h;refine⟨v,⟨t,jo f (λr e=>(g r e).2) m⟩,c.kept λb e=>?_,i.grown f (zU0 l i.size) (λk e=>(g k e).1)⟩;obtain⟨_,_,_,arr,el,_,j⟩:=c.own e;exact(jo f (λr e=>(g r e).2) j).trans j.symm
def zQK{g:Gh}{w:de}:∀{l us:db dh},RCs g w (l.map .at) us->us=l
 |[],us,h=>by simpa [RCs]using h
 |x::l,us,h=>by
  simp only[zUC,RCs]at h;obtain⟨c,d,rfl,a,b⟩:=h;simp only[RC]at a;rw[a.1,zQK b];rfl
def zJL{g:Gh}{w:de}:∀{l:db dh},(∀x∈l,one x=true)->RCs g w (l.map .at) l
 |[],_=>by simp[RCs]
 |x::l,h=>by
  simp only[zUC,RCs];exact⟨[x],l,rfl,by simp[RC,h x dQ],zJL (λy a=>h y (by simp[a]))⟩
def zQ7{P:di}{X:Cx}{c:dE}{Q:dA->Env->S->Prop}{b:dA->Act->de->Prop}{e:Env}{g:Gh}{a:Act}{w:de}(l:a.tmps.size=X.N.n/\∀p∈X.N.fx,a.tmps.getD p.1 undef=p.2)(m:a.defers=X.df)(f:GlobOk X.B g.wm w)(o:∀i j w' g' e' d,dB X.B g w g' w'->Al.Inv X.B g' d w'->Q i e' d->b i j w')
 (q:∀k,RV g w (e.get k) (a.tmps.getD k undef)) (h:∃st,awp P X c Q e st/\Al.Inv X.B g st w):c.wpIn (fen X.ro) 0 P b a w:=by
 obtain⟨st,r,s⟩:=h;refine wpIn_mono (r g a w ⟨s,q,l,m,f⟩) ?_;rintro i j w' ⟨g',e',d,k1,k2,t⟩;exact o _ _ _ _ _ _ k1 k2.inv t
def wmF(a:dh)(bx c d:Nat)(W:de)(b:Nat):Nat:=
 if b=bx\/b=c\/b=d\/a.ownBlock=some b then 0 else match W.heap[b]? with|some (.cells arr _ _)=>arr.size+1|_=>0
def zCF{a:dh}{bx c d:Nat}{W:de}{b:Nat}(h:b=bx\/b=c\/b=d\/a.ownBlock=some b):wmF a bx c d W b=0:=if_pos h
def zLm{a:dh}{bx c d:Nat}{W:de}{b:Nat}(h:¬(b=bx\/b=c\/b=d\/a.ownBlock=some b)){arr:dv dh}{el:dg}{m:Nat×Nat}(e:W.heap[b]?=some (.cells arr el m)):wmF a bx c d W b=arr.size+1:=by
 unfold wmF;rw[if_neg h,e]
def zNJ{a:dh}{bx c d:Nat}{W:de}{b:Nat}(h:W.heap.size<=b):wmF a bx c d W b=0:=by
 unfold wmF;split
 .rfl
 .rw[zVW h]
def frW(W:de):Fr:=⟨λb=>match W.heap[b]? with|some o=>!o.isCells|none=>false,λ_=>false⟩
def zQV{W:de}{b:Nat}{o:Obj}(h:W.heap[b]?=some o)(a:o.isCells=false):(frW W).b b=true:=by simp[frW,h,a]
def zNS{W:de}{b:Nat}(h:(frW W).b b=true):∃o,W.heap[b]?=some o/\o.isCells=false:=by
 unfold frW at h;simp only at h;split at h
 .rename_i o a;exact⟨o,a,by simpa using h⟩
 .cases h
def globF{a bx d f:Nat}{g:dh}{k:Nat->Nat}{w W:de}(h:GlobOk a k w)(i:dC a w W)(n:a<=bx)(o:a<=d)(q:a<=f)(l:∀b,g.ownBlock=some b->a<=b):GlobOk a (wmF g bx d f W) W:=
 ⟨λp c=>let⟨h0,arr,el,m,k1,k2⟩:=h.one p c;⟨h0,arr,el,m,(i.block _ h0).trans k1,k2⟩,λp c=>by
  obtain⟨k0,⟨arr,el,m,k1,k2⟩,_⟩:=h.all p c;have j:=(i.block _ k0).trans k1;refine⟨k0,⟨arr,el,m,j,k2⟩,?_⟩;rw[zLm (λe=>?_) j,<-k2]
  .simp
  .rcases e with e|e|e|e
   .omega
   .omega
   .omega
   .have:=l _ e;omega⟩
def zPc(ds:db dh)(n:Nat)(h:ds.length=n*3)(a:db V)(us:db dh)(c:a.length=3) :
 List.take (n*3) (List.take (n*3) (List.map V.at ds)++a)++us.map V.at++List.drop (n*3+3) (List.take (n*3) (List.map V.at ds)++a)=(ds++us).map V.at:=by
 have b:List.take (n*3) (List.map V.at ds)=List.map V.at ds:=zU5 fh;rw[b,zV9 fh,b,zWR (by simp[h,c]),zUR,zVa]
def zPg{B:Nat}{g:Gh}{W:de}{bs:db (Nat×db V×Nat)}(l:B<=W.heap.size)(m:∀b,W.heap.size<=b->g.wm b=0)(n:∀t,g.tb t=none)(e:∀b,g.fr.b b=true->∃o,W.heap[b]?=some o/\o.isCells=false)(f:∀t,g.fr.t t=false)
 (h:∀b cs k,Go.Al.look bs b=some (cs,k)->B<=b/\g.wm b=0/\cs.length<=k/\(∀c∈cs,c.isOne=true)/\∃arr el us,W.heap[b]?=some (.cells arr el (0,0))/\arr.size=k/\RCs g W cs us/\arr.toList.take cs.length=us):Al.Inv B g ⟨bs,[],0,[]⟩ W:=
 have p:∀b,g.fr.b b=true->b<W.heap.size/\Go.Al.look bs b=none/\∀t∈([]:db Nat),∀d,g.tb t=some (some (b,d))->False:=λb q=>by
  obtain⟨o,i,r⟩:=e b q;refine⟨(zUH.1 i).1,?_,λt h=>by simp at h⟩;cases s:Go.Al.look bs b with
  |none=>rfl
  |some x=>
   obtain⟨_,_,_,_,arr,el,us,a,_⟩:=h b x.1 x.2 s;rw[i]at a;injection a with a;subst a;cases r
 have u:InvX B g ⟨bs,[],0,[]⟩ W:=by
  refine⟨p,λb o fp h=>?_,λb o fp w o' v j h=>?_,λt h=>?_⟩
  .cases h
  .cases h
  .rw[f]at h;cases h
 ⟨l,h,λt h=>by simp at h,λt h=>by simp at h,λt h=>by simp at h,dQ,m,λt _=>n t,u⟩
def zJf{φ:Nat->db V->Nat->Prop}:∀b cs k,Go.Al.look ([]:db (Nat×db V×Nat)) b=some (cs,k)->φ b cs k:=λb cs k h=>dU
def zAC{φ:Nat->db V->Nat->Prop}{c k0:Nat}{a:db V}{r:db (Nat×db V×Nat)}(d:φ c a k0)(f:∀b cs k,Go.Al.look r b=some (cs,k)->φ b cs k):∀b cs k,Go.Al.look ((c,a,k0)::r) b=some (cs,k)->φ b cs k:=λb cs k h=>by
 by_cases e:c=b
 .subst e;have:Go.Al.look ((c,a,k0)::r) c=some (a,k0):=by simp[Go.Al.look]
  rw[this]at h;injection h with h;injection h with g i;subst g;subst i;exact d
 .have:Go.Al.look ((c,a,k0)::r) b=Go.Al.look r b:=by simp[Go.Al.look,e]
  rw[this]at h;exact f b cs k h
def zEU{B:Nat}{g:Gh}{W:de}{b k:Nat}{l:db dh}{arr:dv dh}{el:dg}(d:B<=b)(f:g.wm b=0)(h:W.heap[b]?=some (.cells arr el (0,0)))(i:arr.size=k)(a:arr.toList.take l.length=l)(j:∀x∈l,one x=true) :
 B<=b/\g.wm b=0/\(l.map V.at).length<=k/\(∀c∈l.map V.at,c.isOne=true)/\∃arr el us,W.heap[b]?=some (.cells arr el (0,0))/\arr.size=k/\RCs g W (l.map V.at) us/\arr.toList.take (l.map V.at).length=us:=by
 refine⟨d,f,?_,λc m=>?_,arr,el,l,h,i,zJL j,by rw[zUZ];exact a⟩
 .have:=zU1 List.length a;rw[zVH]at this;have e:=zVS (xs:=arr);rw[zUZ];omega
 .obtain⟨x,_,rfl⟩:=zVA.1 m;rfl
def zR7{B:Nat}{g:Gh}{W:de}{b:Nat}{el:dg}(a:B<=b)(d:g.wm b=0)(e:W.heap[b]?=some (.cells #[.slice none 0 0] el (0,0))) :
 B<=b/\g.wm b=0/\([.lst .nil []]:db V).length<=1/\(∀c∈([.lst .nil []]:db V),c.isOne=true)/\∃arr el us,W.heap[b]?=some (.cells arr el (0,0))/\arr.size=1/\RCs g W [.lst .nil []] us/\arr.toList.take ([.lst .nil []]:db V).length=us:=
 ⟨a,d,zUB _,by simp[V.isOne],_,el,[.slice none 0 0],e,rfl,by simp only[RCs];exact⟨_,[],rfl,by unfold RC;exact .inl ⟨rfl,rfl,trivial⟩,rfl⟩,rfl⟩
structure BoxQ(bx T3 B4:Nat)(kd k' a':Int)(sv':Value)(n:Nat)(ds:List Value)(s:S):Prop where
 t3:Go.Al.look s.box T3=some ([Value.int .i64 kd].map V.at,1)
 b4:Go.Al.look s.box B4=some ([Value.int .i64 k',.int .i64 a',sv'].map V.at,3)
 row:(n=0/\ds=[]/\Go.Al.look s.box bx=some ([.lst .nil []],1))\/∃b cap,0<n/\Go.Al.look s.box bx=some ([Value.slice (some ⟨b,0,none⟩) n cap].map V.at,1)/\Go.Al.look s.box b=some (ds.map V.at,cap*3)/\n<=cap/\b≠bx/\b≠T3/\b≠B4/\ds.length=n*3/\∀d∈ds,one d=true
def zNe{B:Nat}{g:Gh}{s:S}{w:de}(h:Al.Inv B g s w){b k:Nat}{l:db dh}(c:Go.Al.look s.box b=some (l.map V.at,k)):B<=b/\g.wm b=0/\∃arr el,w.heap[b]?=some (.cells arr el (0,0))/\arr.size=k/\arr.toList.take l.length=l:=by
 obtain⟨d,e,_,_,arr,el,us,f,i,j,a⟩:=h.box b _ k c;rw[zQK j,zUZ]at a;exact⟨d,e,arr,el,f,i,a⟩
def zEF{B:Nat}{g:Gh}{s:S}{w:de}(h:Al.Inv B g s w){b:Nat}{l:db dh}(c:Go.Al.look s.box b=some (l.map V.at,l.length)):∃el,w.heap[b]?=some (.cells l.toArray el (0,0)):=by
 obtain⟨_,_,arr,el,d,e,a⟩:=zNe h c;refine⟨el,?_⟩;have f:arr.toList.length=l.length:=by simpa using e
 have:arr.toList=l:=by rw[zU5 (zV0 f)]at a;exact a
 rw[d,<-this]
def zR6{B:Nat}{g:Gh}{s:S}{w:de}(h:Al.Inv B g s w){b:Nat}(d:Go.Al.look s.box b=some ([.lst .nil []],1)):∃el,w.heap[b]?=some (.cells #[.slice none 0 0] el (0,0)):=by
 obtain⟨_,_,_,_,arr,el,us,e,f,a,i⟩:=h.box b _ 1 d;simp only[RCs]at a;obtain⟨l,m,rfl,c,rfl⟩:=a;simp only[RC]at c;rcases c with⟨_,rfl,_⟩|⟨n,o,cap,ds,_,_,j,_⟩
 .refine⟨el,?_⟩;have:arr.toList=[.slice none 0 0]:=by
   have k:arr.toList.length=1:=by simpa using f
   simpa [zU5,k]using i
  rw[e,show arr=[Value.slice none 0 0].toArray from by rw[<-this]]
 .simp[zFa]at j
def zQb{g bx f h K0 n C:Nat}{kd Q R:Int}{r i:dh}{ds j:db dh}{w W w':de}{g':Gh}{s':S}{X tk Y:dg}(Z:g<=bx)(G:W.heap[bx]?=some (.cells #[i] X (0,0)))(H:Row W g bx i n ds)
 (hT:W.heap[f]?=some (.cells #[.int .i64 kd] tk (0,0))) (I:W.heap[h]?=some (.cells #[.int .i64 Q,.int .i64 R,r] Y (0,0))) (s:dC g w W)
 (p:dB g ⟨wmF i bx f h W,λ_=>none,frW W⟩ W g' w') (v:Al.Inv g g' s' w') (J:BoxQ bx f h kd Q R r C j s') :
 KeepsFrom K0 W w'/\kq g bx W w'/\(GrowF g bx w j C w'/\∃t,w'.heap[f]?=some (.cells #[.int .i64 kd] t (0,0))):=by
 obtain⟨K,x⟩:=zEF v J.t3;obtain⟨aa,y⟩:=zEF v J.b4;obtain⟨v',L,z,q,A⟩:∃v' L,w'.heap[bx]?=some (.cells #[v'] L (0,0))/\Row w' g bx v' C j/\∀b,v'.ownBlock=some b->b≠bx/\b≠f/\b≠h/\g'.wm b=0:=by
  rcases J.row with⟨rfl,rfl,a⟩|⟨b,cap,a,B,D,E,T,h6,h7,U,h9⟩
  .obtain⟨el,B⟩:=zR6 v a;exact⟨_,el,B,.inl ⟨rfl,rfl,rfl⟩,λb e=>fb⟩
  .obtain⟨el,k1⟩:=zEF v B;obtain⟨k2,k3,arr,M,k4,k5,k6⟩:=zNe v D;refine⟨_,el,k1,.inr ⟨b,cap,arr,M,rfl,k2,T,k4,E,k5,by rw[<-U];exact k6,U,a,h9⟩,λb' e=>?_⟩;have:b=b':=by simpa [Value.ownBlock]using e
   subst this;exact⟨T,h6,h7,k3⟩
 have V:GrowF g bx w j C w':=⟨v',⟨L,z⟩,q,s.trans p.below⟩;refine⟨⟨p.below.size,λk o _ c hc=>((p.fz k (zQV c (by cases o<;>first|rfl|(cases hc)))).1).trans c⟩,λ_=>⟨V.box Z,p.below.size,λb o u l F=>?_,λb F=>?_,λb l=>p.below.block b l⟩,V,K,x⟩
 .have a:b≠bx:=λe=>F ((H.exb G b).2 (.inl e));have B:i.ownBlock≠some b:=λe=>F ((H.exb G b).2 (.inr e));by_cases D:b=f
  .subst D;simpa [World.cell?,hT,x]using l
  .by_cases E:b=h
   .subst E;simpa [World.cell?,I,y]using l
   .have N:¬(b=bx\/b=f\/b=h\/i.ownBlock=some b):=λe=>by
     rcases e with e|e|e|e
     .exact a e
     .exact D e
     .exact E e
     .exact B e
    refine(p.later.cell b o ?_).trans l;show o<wmF i bx f h W b;cases c:W.heap[b]? with
    |none=>simp[World.cell?,c]at l
    |some O=>
     cases O with
     |cells arr el m=>
      rw[zLm N c];simp only[World.cell?,c]at l;have:=(zUH.1 (by simpa using l)).1;omega
     |_=>simp[World.cell?,c]at l
 .rcases(q.exb z b).1 F with rfl|a
  .exact .inl (.inl rfl)
  .obtain⟨q1,q2,q3,q4⟩:=A b a;obtain⟨_,_,cap,arr,el,_,q5⟩:=q.own a;by_cases P:W.heap.size<=b
   .exact .inr P
   .left;refine(H.exb G b).2 (.inr ?_);by_cases d:i.ownBlock=some b
    .exact d
    .exfalso;have N:¬(b=bx\/b=f\/b=h\/i.ownBlock=some b):=λe=>by
      rcases e with e|e|e|e
      .exact q1 e
      .exact q2 e
      .exact q3 e
      .exact d e
     cases c:W.heap[b]? with
     |none=>rw[Array.getElem?_eq_none_iff]at c;omega
     |some O=>
      cases O with
      |cells arr el m=>
       have a:=p.later.wm b;replace a:wmF i bx f h W b<=g'.wm b:=a;rw[zLm N c]at a;omega
      |_=>
       have a:=((p.fz b (zQV c rfl)).1).trans c;rw[q5]at a;cases a
def lvF{g:Gh}{w0:de}(kd:Int):db (El g w0)->db Nd
 |[]=>[]
 |x::r=>if x.1.1.kind=kd then x.1.1::lvF kd r else lvF kd r
def dsF{g:Gh}{w0:de}(kd:Int):db (El g w0)->db dh
 |[]=>[]
 |x::r=>if x.1.1.kind=kd then x.1.2.cells.toList++dsF kd r else dsF kd r
def zMw{g:Gh}{w0:de}(kd:Int):∀a b:db (El g w0),lvF kd (a++b)=lvF kd a++lvF kd b
 |[],b=>rfl
 |x::a,b=>by simp only[zUO,lvF,zMw kd a b];split<;>rfl
def zNA{g:Gh}{w0:de}(kd:Int):∀a b:db (El g w0),dsF kd (a++b)=dsF kd a++dsF kd b
 |[],b=>rfl
 |x::a,b=>by simp only[zUO,dsF,zNA kd a b];split<;>simp
def zNj{g:Gh}{w0:de}(kd:Int):∀a:db (El g w0),(lvF kd a).length<=a.length
 |[]=>zUB _
 |x::a=>by have:=zNj kd a;simp only[lvF];split<;>simp<;>omega
def zPG{g:Gh}{w0:de}(kd:Int):∀a:db (El g w0),lvF kd a=(a.map (·.1.1)).filter (λt=>t.kind==kd)
 |[]=>rfl
 |x::a=>by
  simp only[lvF,zUC,List.filter_cons,zPG kd a,zWN]
def zPt{g:Gh}{w0:de}(kd:Int):∀a:db (El g w0),RCs g w0 ((lvF kd a).map za) (dsF kd a)
 |[]=>by simp[lvF,dsF,RCs]
 |x::a=>by
  have c:=zPt kd a;simp only[lvF,dsF];split
  .obtain⟨⟨⟨k,b,ks⟩,v⟩,d⟩:=x;obtain⟨e,rfl,i⟩:=zCD d;simp only[zUC,RCs];refine⟨[.int .i64 k,.int .i64 b,e],_,rfl,?_,c⟩;obtain⟨us,f,h⟩:=zCj (show RV g w0 (.agg [vi k,vi b,sl (jb ks)]) _ from d);have:us=[.int .i64 k,.int .i64 b,e]:=by
    have:=zU1 (λv=>match v with|Value.agg a=>a.toList|_=>[]) h;simpa using this.symm
   subst this;show RC g w0 (.agg [vi k,vi b,sl (jb ks)]) _;simp only[RC];exact f
  .exact c
set_option maxRecDepth 100000 in
def zS0(m:Nat)(hm:3<=m)(wm:Nat->Nat)(w:de)(av:∀b,w.heap.size<=b->wm b=0)(aK:GlobOk w.heap.size wm w)(t:Nd)(v:dh)(kd:Int)(hv:RV ⟨wm,λ_=>none,Fr.no⟩ w (za t) v)(hN:(allT t).length<=1000000) :
 CallsIn Fence.wide m Tryz.prog 32 #[v,.int .i64 kd] w λe W'=>∃v' ds,e=.returned v' /\
  Row W' w.heap.size (w.heap.size+1+1) v' ((allT t).filter (λt=>t.kind==kd)).length ds/\RCs ⟨wm,λ_=>none,Fr.no⟩ w (((allT t).filter (λt=>t.kind==kd)).map za) ds/\dC w.heap.size w W':=by
 obtain⟨k,a,ks⟩:=t;obtain⟨R,rfl,a8⟩:=zCD hv;have hF:∀f,Fence.wide.fn f:=λ_=>trivial;refine callsIn_of_wp_marks Tryz.func32 rfl (hF _) ?_ rfl;simp only[Tryz.ntmps32,zVO,zUD,zUF,Nat.reduceAdd,Nat.reduceSub,zVM,zVN,zVZ,zVR,zUQ,zUO];have aL:∀k:Nat,(Fence.wide.depth.isSome=true->1<=k):=λk h=>dU
 gi_wp2_with ((try refine⟨aL _,?_⟩);gi_at_call 51;refine(all_in Fence.wide hF rfl _ _ _ _ _).mono ?_;rintro e w' ⟨rfl,rfl⟩)
 obtain⟨W2,M⟩:∃W2,(((w.alloc (.cells #[.int .i64 k,.int .i64 a,R] 29)).alloc (.cells #[.int .i64 kd] 3)).alloc (.cells #[.slice none 0 0] 27)).alloc (.cells #[.int .i64 k,.int .i64 a,R] 29)=W2:=⟨_,rfl⟩;have aw:W2.heap.size=w.heap.size+4:=by rw[<-M];simp
 have ax:dC w.heap.size w W2:=by rw[<-M];exact((((Below.refl _ w).alloc (zUB _) _).alloc dQ _).alloc d4 _).alloc d4 _
 have aM:W2.heap[w.heap.size+1]?=some (.cells #[.int .i64 kd] 3 (0,0)):=by
  rw[<-M,Below.heap_alloc _ _ _ dQ,Below.heap_alloc _ _ _ dQ];have:=World.alloc_heap_new (w.alloc (.cells #[.int .i64 k,.int .i64 a,R] 29)) (.cells #[.int .i64 kd] 3 (0,0));simpa using this
 have ay:W2.heap[w.heap.size+1+1]?=some (.cells #[.slice none 0 0] 27 (0,0)):=by
  rw[<-M,Below.heap_alloc _ _ _ dQ];have:=World.alloc_heap_new ((w.alloc (.cells #[.int .i64 k,.int .i64 a,R] 29)).alloc (.cells #[.int .i64 kd] 3)) (.cells #[.slice none 0 0] 27 (0,0));simpa using this
 have az:W2.heap[w.heap.size+1+1+1]?=some (.cells #[.int .i64 k,.int .i64 a,R] 29 (0,0)):=by
  rw[<-M];have:=World.alloc_heap_new (((w.alloc (.cells #[.int .i64 k,.int .i64 a,R] 29)).alloc (.cells #[.int .i64 kd] 3)).alloc (.cells #[.slice none 0 0] 27)) (.cells #[.int .i64 k,.int .i64 a,R] 29 (0,0));simpa using this
 have aN:Same ⟨wm,λ_=>none,Fr.no⟩ w W2:=λb o ho=>by
  have F:b<w.heap.size:=by
   rcases zUx b w.heap.size with h1|h1
   .exact h1
   .replace ho:o<wm b:=ho;rw[av b h1]at ho;omega
  exact qb (ax.block b F) o
 have aA:GrowF w.heap.size (w.heap.size+1+1) w [] 0 W2:=⟨_,⟨_,ay⟩,.inl ⟨rfl,rfl,rfl⟩,ax⟩;have aO:=aA.box dM;rw[M];refine wpIn_rangeFunc_ownH rfl dM (gf:=70) (lb:=#[.pointer (some ⟨w.heap.size+1+1+1,0,none⟩)]) fl (hF 70) (enters_of Tryz.func70 dO rfl)
  (zPW Fence.wide rfl hF rfl (m-1) w.heap.size (w.heap.size+1+1) (w.heap.size+1+1+1) wm w W2 av (.mk k a ks) hN _ _ _ aN hv aO dM az) zMA (λW l o o' hl h1 H _=>zK9 W l o o' dM h1 H) (Below.refl _ _) (λ_=>rfl)
  (λu W=>GrowF w.heap.size (w.heap.size+1+1) w (dsF kd u) (lvF kd u).length W/\∃t,W.heap[w.heap.size+1]?=some (.cells #[.int .i64 kd] t (0,0)))
  (λ_ _ _=>False) ?hI (λ_ _ _ _ _ hs _ _=>hs) ⟨aA,_,aM⟩
  (λx y W=>∃z v0 v1 v2,x.1.2=.agg #[v0,v1,v2]/\y={ tmps:=#[.agg #[.int .i64 k,.int .i64 a,R],.int .i64 kd,.pointer (some ⟨w.heap.size,0,none⟩),.pointer (some ⟨w.heap.size+1,0,none⟩),.slice none 0 0,.pointer (some ⟨w.heap.size+1+1,0,none⟩),.pointer (some ⟨z,0,none⟩),.agg #[.int .i64 k,.int .i64 a,R],.func (.func 70) #[] #[.pointer (some ⟨w.heap.size+1+1+1,0,none⟩)],x.1.2,undef,undef,undef,undef,undef,undef,undef,undef,undef,undef,undef],defers:=[] }/\W.heap[z]?=some (.cells #[v0,v1,v2] 29 (0,0)) /\
   w.heap.size+3<=z/\∃O t,W.heap[w.heap.size+1+1]?=some (.cells #[O] t (0,0))/\O.ownBlock≠some z)
  ?hAx ?assign ?body ?done ?stop
 case hI=>exact λu A B aP h hg hr=>⟨h.1.grown (zUB _) hg (λr e=>by obtain⟨h1,H⟩:=hr r e;exact⟨dM,H⟩),h.2.imp λt H=>jo hg (λr e=>(hr r e).2) H⟩
 case hAx=>
  rintro x y _ A B aP ⟨z,v0,v1,v2,T,e3,e4,e5,O,t,e6,e7⟩ hg hr;exact⟨z,v0,v1,v2,T,e3,jo hg (λr e=>(hr r e).2) e4,e5,O,t,jo hg (λr e=>(hr r e).2) e6,e7⟩
 case assign=>
  rintro l u ⟨⟨⟨q,y,ah⟩,vx⟩,hx⟩ W K hI hK;obtain⟨i,rfl,al⟩:=zCD hx;have N:=zLJ hx;have C:=zB2 (P:=Tryz.prog) W 29 #[.int .i64 q,.int .i64 y,.slice none 0 0] 2 dQ i N.2.2;have a3:∀a2,a2=({ tmps:=#[.agg #[.int .i64 k,.int .i64 a,R],.int .i64 kd,.pointer (some ⟨w.heap.size,0,none⟩),.pointer (some ⟨w.heap.size+1,0,none⟩),.slice none 0 0,.pointer (some ⟨w.heap.size+1+1,0,none⟩),.pointer (some ⟨W.heap.size,0,none⟩),.agg #[.int .i64 k,.int .i64 a,R],.func (.func 70) #[] #[.pointer (some ⟨w.heap.size+1+1+1,0,none⟩)],.agg #[.int .i64 q,.int .i64 y,i],undef,undef,undef,undef,undef,undef,undef,undef,undef,undef,undef],defers:=[] }:Act)->K a2 (W.alloc (.cells #[.int .i64 q,.int .i64 y,i] 29)):=λa2 e=>by
   have hg:=World.grownBy_alloc W (.cells #[.int .i64 q,.int .i64 y,i] 29) none;have aQ:=hI;obtain⟨⟨O,⟨t,E⟩,j,s⟩,tk,G⟩:=aQ;have a4:=s.size;have a5:=(zUH.1 G).1;refine hK a2 _ ((KeepsOthers.alloc W _).from _) (λhB=>Kept.grown hB hg) ⟨hI.1.grown (zUB _) hg (λr e=>fb),hI.2.imp λt H=>jo hg (λr e=>fb) H⟩
    ⟨W.heap.size,_,_,_,rfl,e,World.alloc_heap_new W _,?_,O,t,jo hg (λr e=>fb) E,λe=>?_⟩
   .have:=(zUH.1 E).1;omega
   .obtain⟨_,_,_,arr,el,_,H⟩:=j.own e;have:=(zUH.1 H).1;omega
  gi_wp2_with (rw[C])
  rfl
 case body=>
  rintro l u x y W hl hL ⟨⟨O,⟨tb,E⟩,j,s⟩,tk,G⟩ ⟨z,v0,v1,v2,T,rfl,ao,a6,aR,a9,I,aB⟩ a7;obtain⟨⟨⟨q,y,ah⟩,vx⟩,hx⟩:=x;obtain⟨i,rfl,al⟩:=zCD hx;injection T with T
  have e0:=zU1 Array.toList T;simp only[zVq,zVx]at e0;obtain⟨rfl,rfl,rfl⟩:=e0;have am:¬w.heap.size+1+1=w.heap.size+1:=dM
  have aS:¬w.heap.size+1=w.heap.size+1+1:=dM
  have J:¬w.heap.size+1+1=z:=dM
  have aT:¬z=w.heap.size+1+1:=dM
  have an:¬w.heap.size+1=z:=dM
  have aU:¬z=w.heap.size+1:=dM
  have N:one (.int .i64 q)=true/\one (.int .i64 y)=true/\one i=true:=by
   obtain⟨aC,aD⟩:∃aC,RC ⟨wm,λ_=>none,Fr.no⟩ w (.lst (zx (jb ah)) aC) [i]:=⟨_,al⟩;refine⟨rfl,rfl,?_⟩;simp only[RC]at aD;rcases aD with⟨_,h,_⟩|⟨b,o,cap,ds,h,_⟩
   .injection h with h;subst h;rfl
   .injection h with h;subst h;rfl
  have ba:=zNj kd u;have aV:(lvF kd u).length+1<=1000000:=dM
  obtain⟨n,hn⟩:∃n,n=(lvF kd u).length:=⟨_,rfl⟩;obtain⟨ds,aE⟩:∃ds,ds=dsF kd u:=⟨_,rfl⟩;rw[<-hn]at aV;rw[<-hn,<-aE]at j;obtain⟨n',U,ai,ap,Y⟩:∃n' U,(q=kd->n'=n+1/\U=ds++[.int .i64 q,.int .i64 y,i])/\(q≠kd->n'=n)/\(q≠kd->U=ds):=by
   by_cases h:q=kd
   .exact⟨_,_,λ_=>⟨rfl,rfl⟩,λe=>absurd h e,λe=>absurd h e⟩
   .exact⟨_,_,λe=>absurd e h,λ_=>rfl,λ_=>rfl⟩
  refine zE8 (zQ7 (X:=⟨w.heap.size,⟨21,[]⟩,some l,[]⟩) (g:=⟨wmF O (w.heap.size+1+1) (w.heap.size+1) z W,λ_=>none,frW W⟩) (Q:=λex e' s'=>ex=.normal/\BoxQ (w.heap.size+1+1) (w.heap.size+1) z kd q y i n' U s') (e:=[(3,.at (.pointer (some ⟨w.heap.size+1,0,none⟩))),(5,.at (.pointer (some ⟨w.heap.size+1+1,0,none⟩))),(6,.at (.pointer (some ⟨z,0,none⟩)))]) ⟨rfl,λp hp=>by simp at hp⟩ rfl (globF aK s ef ef ef (λb e=>(j.own e).1)) ?hP ?hE ?hA)
  case hE=>
   intro k1;by_cases e3:k1=3
   .subst e3;exact yY rfl
   .by_cases e5:k1=5
    .subst e5;exact yY rfl
    .by_cases e6:k1=6
     .subst e6;exact yY rfl
     .have:Env.get [(3,.at (.pointer (some ⟨w.heap.size+1,0,none⟩))),(5,.at (.pointer (some ⟨w.heap.size+1+1,0,none⟩))),(6,.at (.pointer (some ⟨z,0,none⟩)))] k1=V.any:=by
       simp only[Env.get,zU9 e3,zU9 e5,zU9 e6,zUK]
      rw[this];trivial
  case hP=>
   rintro ex a2 w2 g' e' s' h1 H ⟨rfl,h3⟩;have hR:=zQb (K0:=w.heap.size+4) dM E j G ao s h1 H h3;have T:dsF kd (u++[⟨(.mk q y ah,.agg #[.int .i64 q,.int .i64 y,i]),hx⟩])=U:=by
    rw[zNA,<-aE];by_cases h:q=kd
    .rw[(ai h).2];simp only[dsF,Nd.kind,h,zUM];rfl
    .rw[Y h];simp only[dsF,Nd.kind,h,zUK,zUR]
   have e2:(lvF kd (u++[⟨(.mk q y ah,.agg #[.int .i64 q,.int .i64 y,i]),hx⟩])).length=n':=by
    rw[zMw,zUI,<-hn];by_cases h:q=kd
    .rw[(ai h).1];simp only[lvF,Nd.kind,h,zUM];rfl
    .rw[ap h];simp only[lvF,Nd.kind,h,zUK];rfl
   rw[<-T,<-e2]at hR;refine⟨?_,hR.2.1,hR.2.2⟩;rw[aw];exact hR.1
  case hA=>
   rcases j with⟨rfl,rfl,rfl⟩|j
   .refine⟨⟨[(w.heap.size+1+1,[.lst .nil []],1),(w.heap.size+1,[.at (.int .i64 kd)],1),(z,[.at (.int .i64 q),.at (.int .i64 y),.at i],3)],[],0,[]⟩,?_,?_⟩
    .generalize C:(⟨[(w.heap.size+1+1,[.lst .nil []],1),(w.heap.size+1,[.at (.int .i64 kd)],1),(z,[.at (.int .i64 q),.at (.int .i64 y),.at i],3)],[],0,[]⟩:S)=st;have l1:Go.Al.look st.box (w.heap.size+1+1)=some ([.lst .nil []],1):=by rw[<-C];simp[Go.Al.look]
     have l2:Go.Al.look st.box (w.heap.size+1)=some ([.at (.int .i64 kd)],1):=by rw[<-C];simp[Go.Al.look]
     have Z:Go.Al.look st.box z=some ([.at (.int .i64 q),.at (.int .i64 y),.at i],3):=by rw[<-C];simp[Go.Al.look,J,an]
     clear C
     (repeat (first|refine zh ?_|(refine zd rfl ?_;try simp only[cx,reduceIte])|refine zT ?_|((first|refine zf polF zCS _ rfl rfl ?_|refine zZ polF mixed zCS _ rfl rfl dO dO ?_);simp only[↓zk,↓qK,↓cz,cO,cl,j9,zUr,zU2,z7,yA,zUD,zUF,zUf,zUS,zUl,zVC,zUT,zUU,zUP,zUM,zUK,zUt,Nat.reduceAdd,Nat.reduceEqDiff,Nat.reduceLeDiff,zUN,zUY,zVE,zUB,zUq,cm,zNc,zCS,l2,Z])))
     refine x8 rfl (λhk=>?_) (λhk=>?_)
     .obtain rfl:q=kd:=eq_of_beq hk;obtain⟨rfl,rfl⟩:=ai rfl;refine zJN polF mixed zCS (.tmp 19) (.tmp 5) _ rfl rfl dO dO dP ⟨_,_,_,_,_,_,_,_,_,_,rfl,rfl⟩ ?_;simp only[↓cZ,↓xe,↓yL,↓zCt,↓zDf,↓zGI,zI,cA,c6,zm,zQ5,ci,xo,jL,ke,zFM,zRf,zSf,zC1,spl,zCE,zHO,zJF,kC,zFr,zFV,zN8,zCu,zVm,zUr,false_implies,Nat.reduceLT,zVz,zJx,zJT,zHv,zUC,zUL,zUQ,zUR,zU2,zVg,z7,yA,zM,V.isOne,V.size,V.flat,jh,zUd,zUs,zUD,zUF,zUf,zUX,zUS,zVC,zUT,zUU,zUP,zVu,zUM,zUK,zUt,Nat.reduceAdd,Nat.reduceEqDiff,Nat.reduceLeDiff,reduceCtorEq,zUN,zUY,zVE,zUB,zO,zp,Nat.reduceBEq,cU,kh,zD8,ku,zBk,jr,zNG,zHf,zCS,zNC,l1,Z];refine⟨dQ,λb cap F aa=>⟨⟨dM,dM⟩,dQ,?_⟩⟩;have m1:¬b=w.heap.size+1+1:=λe=>by rw[e,l1]at F;cases F
      have aq:¬w.heap.size+1+1=b:=λe=>m1 e.symm;have m2:¬b=w.heap.size+1:=λe=>by rw[e,l2]at F;cases F
      have m3:¬b=z:=λe=>by rw[e,Z]at F;cases F
      have z0:((0:Nat):Int).toNat=0:=rfl;simp only[xo,spl,zUQ,zUR,zU2,zM,V.isOne,V.flat,zUd,zUs,zUD,zUF,zUX,zUl,zUU,zUP,zUK,zUt,zUY,zUB,zWa,zAm,kh,m1,z0,zWa,List.drop_nil];refine⟨⟨_,_,_,_,rfl,rfl,m1⟩,?_⟩;refine⟨by simp[zO,m2,am,l2],by simp[zO,m3,J,Z],.inr ⟨b,cap,Nat.zero_lt_one,by simp[zO],by simp[zO,aq],aa,m1,m2,m3,rfl,by simpa using N⟩⟩
     .have ab:q≠kd:=beq_eq_false_iff_ne.1 hk;refine zAE ?_;refine⟨rfl,?_⟩;rw[ap ab,Y ab];exact⟨l2,Z,.inl ⟨rfl,rfl,l1⟩⟩
    .exact zPg s.size (λb h=>zNJ h) (λ_=>rfl) (λb h=>zNS h) (λ_=>rfl) (zAC (zR7 ef (zCF (.inl rfl)) E) (zAC (zEU (l:=[.int .i64 kd]) ef (zCF (.inr (.inl rfl))) G rfl rfl (by simp[one])) (zAC (zEU (l:=[.int .i64 q,.int .i64 y,i]) ef (zCF (.inr (.inr (.inl rfl)))) ao rfl rfl (by simpa using N)) zJf)))
   .obtain⟨r,cap,arr,el,rfl,aW,L,ac,ad,aF,aX,ae,aY,af⟩:=j;have aj:r≠w.heap.size+1:=λe=>by
     subst e;rw[G]at ac;injection ac with ac;injection ac with T;subst T
     simp at aF;omega
    have ak:r≠z:=λe=>by
     rw[E]at I;injection I with I;injection I with T
     have e2:aR=.slice (some ⟨r,0,none⟩) n cap:=by simpa using T.symm
     exact aB (by rw[e2,e];rfl)
    have ar:¬w.heap.size+1+1=r:=λe=>L e.symm;have aG:¬w.heap.size+1=r:=λe=>aj e.symm;have aH:¬z=r:=λe=>ak e.symm;refine⟨⟨[(w.heap.size+1+1,[.at (.slice (some ⟨r,0,none⟩) n cap)],1),(w.heap.size+1,[.at (.int .i64 kd)],1),(z,[.at (.int .i64 q),.at (.int .i64 y),.at i],3),(r,ds.map V.at,cap*3)],[],0,[]⟩,?_,?_⟩
    .generalize C:(⟨[(w.heap.size+1+1,[.at (.slice (some ⟨r,0,none⟩) n cap)],1),(w.heap.size+1,[.at (.int .i64 kd)],1),(z,[.at (.int .i64 q),.at (.int .i64 y),.at i],3),(r,ds.map V.at,cap*3)],[],0,[]⟩:S)=st;have l1:Go.Al.look st.box (w.heap.size+1+1)=some ([.at (.slice (some ⟨r,0,none⟩) n cap)],1):=by rw[<-C];simp[Go.Al.look]
     have l2:Go.Al.look st.box (w.heap.size+1)=some ([.at (.int .i64 kd)],1):=by rw[<-C];simp[Go.Al.look]
     have Z:Go.Al.look st.box z=some ([.at (.int .i64 q),.at (.int .i64 y),.at i],3):=by rw[<-C];simp[Go.Al.look,J,an]
     have l4:Go.Al.look st.box r=some (ds.map V.at,cap*3):=by rw[<-C];simp[Go.Al.look,ar,aG,aH]
     clear C
     (repeat (first|refine zh ?_|(refine zd rfl ?_;try simp only[cx,reduceIte])|refine zT ?_|((first|refine zf polF zCS _ rfl rfl ?_|refine zZ polF mixed zCS _ rfl rfl dO dO ?_);simp only[↓zk,↓qK,↓cz,cO,cl,j9,zUr,zU2,z7,yA,zUD,zUF,zUf,zUS,zUl,zVC,zUT,zUU,zUP,zUM,zUK,zUt,Nat.reduceAdd,Nat.reduceEqDiff,Nat.reduceLeDiff,zUN,zUY,zVE,zUB,zUq,cm,zNc,zCS,l2,Z])))
     refine x8 rfl (λhk=>?_) (λhk=>?_)
     .obtain rfl:q=kd:=eq_of_beq hk;obtain⟨rfl,rfl⟩:=ai rfl;refine zJN polF mixed zCS (.tmp 19) (.tmp 5) _ rfl rfl dO dO dP ⟨_,_,_,_,_,_,_,_,_,_,rfl,rfl⟩ ?_;simp only[↓cZ,↓xe,↓yL,↓zCt,↓zDf,↓zGI,zI,cA,c6,zm,zBq,ci,xo,jL,ke,zFM,zC1,spl,zCE,zHO,zJF,kC,zFr,zFV,zN8,zCu,zVm,zUr,false_implies,Nat.reduceLT,zVz,zJx,zJT,zHv,zUC,zUL,zUR,zU2,zVg,z7,yA,zM,V.isOne,V.size,V.flat,jh,zUd,zUs,zUD,zUF,zUf,zUS,zVC,zUT,zUZ,zUU,zUP,zVu,zUM,zUK,zUt,Nat.reduceAdd,Nat.reduceEqDiff,Nat.reduceLeDiff,reduceCtorEq,zUN,zUY,zVE,zUB,zO,yR,zKs,zHq,zp,Nat.reduceBEq,cU,kh,zD8,ku,zBk,jr,zNG,zHf,zCS,zNC,l1,Z,l4,L];refine⟨⟨dM,by simp only[maxLen];omega⟩,ad,dM,λb aI F aa=>⟨⟨dM,dM⟩,by simp[ae],?_⟩⟩;have m1:¬b=w.heap.size+1+1:=λe=>by rw[e,if_neg L,l1]at F;cases F
      have aq:¬w.heap.size+1+1=b:=λe=>m1 e.symm;have m2:¬b=w.heap.size+1:=λe=>by rw[e,if_neg aj,l2]at F;cases F
      have m3:¬b=z:=λe=>by rw[e,if_neg ak,Z]at F;cases F
      have ag:=zPc ds n ae [V.at (.int .i64 0),V.at (.int .i64 0),V.lst Tag.nil []] [.int .i64 q,.int .i64 y,i] rfl;simp only[xo,spl,zUQ,zUR,zU2,zM,V.isOne,V.flat,zUd,zUs,zUD,zUF,zUf,zUX,zUl,zUU,zUP,zUK,zUt,zUY,zUB,zAm,kh,m1,zU3];simp only[zUC,zUL]at ag;rw[ag];refine⟨⟨_,_,_,_,rfl,rfl,m1⟩,?_⟩;refine⟨by simp[zO,yR,m2,am,aj,l2],by simp[zO,yR,m3,J,ak,Z],.inr ⟨b,aI,Nat.succ_pos _,by simp[zO],by simp[zO,aq],aa,m1,m2,m3,by simp[ae];omega,λd hd=>?_⟩⟩;rcases zUa.1 hd with hd|hd
      .exact af d hd
      .simp only[zUG,zU4,zVL]at hd;rcases hd with e|e|e
       .rw[e];rfl
       .rw[e];rfl
       .rw[e];exact N.2.2
     .have ab:q≠kd:=beq_eq_false_iff_ne.1 hk;refine zAE ?_;refine⟨rfl,?_⟩;rw[ap ab,Y ab];exact⟨l2,Z,.inr ⟨r,cap,aY,l1,l4,ad,L,aj,ak,ae,af⟩⟩
    .exact zPg s.size (λb h=>zNJ h) (λ_=>rfl) (λb h=>zNS h) (λ_=>rfl) (zAC (zEU (l:=[.slice (some ⟨r,0,none⟩) n cap]) ef (zCF (.inl rfl)) E rfl rfl (by simp[one])) (zAC (zEU (l:=[.int .i64 kd]) ef (zCF (.inr (.inl rfl))) G rfl rfl (by simp[one])) (zAC (zEU (l:=[.int .i64 q,.int .i64 y,i]) ef (zCF (.inr (.inr (.inl rfl)))) ao rfl rfl (by simpa using N)) (zAC (zEU (l:=ds) aW (zCF (.inr (.inr (.inr rfl)))) ac aF (by rw[ae];exact aX) af) zJf))))
 case stop=>
  rintro D c u W _ _ h _;exact h.elim
 case done=>
  rintro D ys W hD aZ ⟨⟨O,⟨tb,E⟩,j,s⟩,tk,G⟩ hK;have cb:W.cell? ⟨w.heap.size+1+1,0,none⟩=some O:=by simp[World.cell?,E]
  gi_wp2;refine⟨dQ,.inl ⟨_,_,rfl,run_takeDeferred hK,?_⟩⟩;have aJ:=grownBy_putObj' W D (.deferred none);have a0:lvF kd ys=(allT (.mk k a ks)).filter (λt=>t.kind==kd):=by rw[zPG];exact zU1 _ aZ
  have a1:=zPt kd ys;have au:Row (W.putObj D (.deferred none)) w.heap.size (w.heap.size+1+1) O (lvF kd ys).length (dsF kd ys):=j.kept λb e=>by
   obtain⟨_,_,cap,arr,el,_,H⟩:=j.own e;exact(jo aJ (λr e=>by injection e with e;subst e;exact⟨_,hK,rfl⟩) H).trans H.symm
  refine⟨_,results_tmp rfl _ _ _,O,dsF kd ys,rfl,?_⟩;rw[<-a0];exact⟨au,a1,s.grown aJ s.size (λk e=>by injection e with e;omega)⟩
end
section
open Go.Al Go.Den Go.RowKit Go.Shelf
def zRJ{a:Nat->Nat}{w e:de}(f:∀b,w.heap.size<=b->a b=0)(i:dC w.heap.size w e){n bx:Nat}{v:dh}{ds:db dh}(j:Row e w.heap.size bx v n ds)
 (es:db V) (C:n=es.length) (D:∀x∈es,x.size=3) (m:RCs ⟨a,λ_=>none,Fr.no⟩ w es ds) :
 ∃c,(∀b,e.heap.size<=b->c b=0)/\dB w.heap.size ⟨a,λ_=>none,Fr.no⟩ w ⟨c,λ_=>none,Fr.no⟩ e/\RV ⟨c,λ_=>none,Fr.no⟩ e (.lst (zx es) es) v:=by
 subst C;obtain⟨z,o⟩:=zAK f i;rcases j with⟨E,rfl,rfl⟩|⟨g,cap,F,el,rfl,G,_,l,H,I,p,J,q,_⟩
 .have:=zWP.1 E;subst this;refine⟨a,z,o,?_⟩;exact qg eL
 .cases es with
  |nil=>simp at q
  |cons x r=>
   have K:=(zUH.1 l).1;have A:dD ⟨a,λ_=>none,Fr.no⟩ w ⟨λb=>if b=g then ds.length else a b,λ_=>none,Fr.no⟩ e:=by
    refine⟨λb=>?_,λ_ _ h=>h,o.later.cell⟩;show a b<=if b=g then ds.length else a b
    split
    .rename_i h;rw[h,f g G];exact zVI _
    .exact zUB _
   refine⟨λb=>if b=g then ds.length else a b,λb B=>?_,⟨A,o.below,λb h=>fj,λb B=>?_,rfl⟩,qg ?_⟩
   .show(if b=g then ds.length else a b)=0;rw[if_neg dM];exact z b B
   .show(if b=g then ds.length else a b)=a b;rw[if_neg dM]
   .simp only[RC];refine .inr ⟨g,0,cap,ds,rfl,H,by simp[zx,zFa],yE A _ _ m,⟨3,D,by intro t L s h;simp[zx]at h⟩,λk u d=>⟨?_,?_⟩⟩
    .have y:k<ds.length:=(zVK.1 d).1;rw[<-p,zU6]at d;split at d
     .simp only[World.cell?,l,zUY];rw[zVJ]at d;simpa using d
     .cases d
    .have y:k<ds.length:=(zVK.1 d).1;show 0+k<if g=g then ds.length else a g
     rw[if_pos rfl];omega
def jO(t:Nd):(za t).size=3:=by
 obtain⟨k,a,ks⟩:=t;rw[qv];rfl
def fdT(t:Nd)(kd:Int):db Nd:=(allT t).filter λt=>t.kind==kd
def zPz(t:Nd)(kd:Int)(l:(allT t).length<=1000000):jS Tryz.prog 32 [za t,.at (.int .i64 kd)] (.lst (zx ((fdT t kd).map za)) ((fdT t kd).map za)):=by
 intro m w us a d n;cases n with
 |cons f g=>
  cases g with
  |cons h i=>
   cases i;have e:=yG (RV.of_RV1 h);subst e;refine callsIn_wide.1 ((zS0 3 (zUB _) m w a d t _ kd (RV.of_RV1 f) l).mono ?_);rintro e w' ⟨v',ds,rfl,b,j,c⟩;obtain⟨k,o,p,q⟩:=zRJ a c b ((fdT t kd).map za) (by simp[fdT]) (λx r=>by obtain⟨y,_,rfl⟩:=zVA.1 r;exact jO y) j;exact⟨_,k,rfl,o,p,q⟩
def c32(x:Nd×Int×dc):da (db Nd×dc):=if(allT x.1).length<=1000000 then some (fdT x.1 x.2.1,())else none
def ok32'(t:Nd)(kd:Int)(u:dc)(y:db Nd×dc)(c:c32 (t,kd,u)=some y)(vs:db V)(a:zCX CC as32 ((t,kd,u):zj as32) vs):jS Tryz.prog 32 vs (finV ((qV CC rs32 (λ_=>false) 0 (y:zj rs32)).map (trT CC ⟨id,id,id,id⟩))):=by
 obtain⟨v,vs',rfl,d,f,e,rfl,b,a⟩:=a;replace a:e=[]:=a;subst a;replace d:v=trT CC ⟨id,id,id,id⟩ (argT CC (.st TI.node) false t):=d;rw[zRG]at d;subst d;replace b:f=.at (.int .i64 kd):=b;subst b;unfold c32 at c;split at c
 .rename_i h;injection c with c
  subst c;exact zPz t kd h
 .cases c
def ok32:CoX 32 ⟨as32,rs32,c32⟩:=λx y b vs a=>ok32' x.1 x.2.1 x.2.2 y b vs a
end
section
open Go.Al Go.Den
def sh72(fu:Nat)(x:((LT×(Int×((db MT)×((da (da MT))×dc))))×dc))(a:(Int×dc)):(da (da (((LT×(Int×((db MT)×((da (da MT))×dc))))×dc)×(Str×dc)))) :=  let c:=(x.1.1,(x.1.2.1,(x.1.2.2.1,(none,()))));let e:=iadd .i64 x.1.2.1 a.1;let f:=inB e x.1.1.length;let g:=ile (lenI x.1.1) e;let b:=List.getD x.1.1 (Int.toNat e) tokD;let h:=ine (TokT.kind b) 5;let i:=ine (TokT.kind b) 1;zX x.1.2.2.2.1 (cond g (some (some ((c,()),([],())))) (cond f (cond i (cond h (some (some ((c,()),([],())))) (some (some ((c,()),((TokT.text b),()))))) (some (some ((c,()),((TokT.text b),()))))) (none))) λj=>zX j (cond g (some (some (((x.1.1,(x.1.2.1,(x.1.2.2.1,((some none),())))),()),([],())))) (cond f (cond i (cond h (some (some (((x.1.1,(x.1.2.1,(x.1.2.2.1,((some none),())))),()),([],())))) (some (some (((x.1.1,(x.1.2.1,(x.1.2.2.1,((some none),())))),()),((TokT.text b),()))))) (some (some (((x.1.1,(x.1.2.1,(x.1.2.2.1,((some none),())))),()),((TokT.text b),()))))) (none))) λd=>cond g (some (some (((x.1.1,(x.1.2.1,(x.1.2.2.1,((some (some d)),())))),()),([],())))) (cond f (cond i (cond h (some (some (((x.1.1,(x.1.2.1,(x.1.2.2.1,((some (some d)),())))),()),([],())))) (some (some (((x.1.1,(x.1.2.1,(x.1.2.2.1,((some (some d)),())))),()),((TokT.text b),()))))) (some (some (((x.1.1,(x.1.2.1,(x.1.2.2.1,((some (some d)),())))),()),((TokT.text b),()))))) (none))
def eq72:@run72=@sh72:=dO
def sh54(fu:Nat)(c33:((db Str)×(Str×dc))->(da (dd×dc)))(d:(Int×dc)->MM (Str×dc))(x:((LT×(Int×((db MT)×((da (da MT))×dc))))×dc))(a:((db Str)×dc)):(da (da (((LT×(Int×((db MT)×((da (da MT))×dc))))×dc)×(dd×dc)))) :=  let f:=(x.1.2.1,x.1.2.2.1);zX x.1.2.2.2.1 (bo (d (0,()) x.1.1 f) λe=>let g:=(x.1.1,(e.2.1,(e.2.2,(none,()))));cond (!(seq e.1.1 [])) (Option.bind (c33 (a.1,(e.1.1,()))) λb=>some (some ((g,()),(b.1,())))) (some (some ((g,()),(false,()))))) λh=>zX h (bo (d (0,()) x.1.1 f) λb=>cond (!(seq b.1.1 [])) (Option.bind (c33 (a.1,(b.1.1,()))) λc=>some (some (((x.1.1,(b.2.1,(b.2.2,((some none),())))),()),(c.1,())))) (some (some (((x.1.1,(b.2.1,(b.2.2,((some none),())))),()),(false,()))))) λe=>bo (d (0,()) x.1.1 f) λc=>cond (!(seq c.1.1 [])) (Option.bind (c33 (a.1,(c.1.1,()))) λi=>some (some (((x.1.1,(c.2.1,(c.2.2,((some (some e)),())))),()),(i.1,())))) (some (some (((x.1.1,(c.2.1,(c.2.2,((some (some e)),())))),()),(false,()))))
def eq54:@run54=@sh54:=dO
def sh85(fu:Nat)(c15:(Str×dc)->(da (dd×dc)))(x:(dx×dc))(a:(Int×dc)):(da (da ((dx×dc)×(dd×dc)))) :=  let c:=(x.1.1,(x.1.2.1,(x.1.2.2.1,((),()))));let b:=iadd .i64 x.1.2.1 a.1;let d:=List.getD x.1.1 (Int.toNat b) tokD;cond (ilt b (lenI x.1.1)) (cond (inB b x.1.1.length) (cond (ieq (TokT.kind d) 1) (cond (inB b x.1.1.length) (Option.bind (c15 ((TokT.text d),())) λe=>some (some ((c,()),((!e.1),())))) (none)) (some (some ((c,()),(false,()))))) (none)) (some (some ((c,()),(false,()))))
def eq85:@run85=@sh85:=dO
def sh112(fu:Nat)(x:(dx×dc))(a:(Int×dc)):(da (da ((dx×dc)×(dd×dc)))) :=  let b:=(x.1.1,(x.1.2.1,(x.1.2.2.1,((),()))));cond (ilt x.1.2.1 (lenI x.1.1)) (cond (inB x.1.2.1 x.1.1.length) (some (some ((b,()),((ieq (List.getD x.1.1 x.1.2.1.toNat tokD).kind a.1),())))) (none)) (some (some ((b,()),(false,()))))
def eq112:@run112=@sh112:=dO
def sh73(fu:Nat)(x:(dx×dc))(a:dc):(da (da ((dx×dc)×(Nd×dc)))):=cond (ilt x.1.2.1 (lenI x.1.1)) (some (some (((x.1.1,((iadd .i64 x.1.2.1 1),(x.1.2.2.1,((),())))),()),((Nd.mk 0 (isub .i64 (iadd .i64 x.1.2.1 1) 1) []),())))) (some none)
def eq73:@run73=@sh73:=dO
def sh78(fu:Nat)(b:((db Str)×dc)->MM (dd×dc))(c:dc->MM (Nd×dc))(x:(dx×dc))(a:(Str×dc)):(da (da ((dx×dc)×(Nd×dc)))):=bo (b ([a.1],()) x.1.1 (x.1.2.1,x.1.2.2.1)) λd=>cond d.1.1 (bo (c () x.1.1 (d.2.1,d.2.2)) λe=>some (some (((x.1.1,(e.2.1,(e.2.2,((),())))),()),((ndE e.1.1),())))) (some none)
def eq78:@run78=@sh78:=dO
def sh80(fu:Nat)(b:dc->MM (Nd×dc))(c:(Int×dc)->MM (dd×dc))(x:(dx×dc))(a:dc):(da (da ((dx×dc)×(Nd×dc)))):=bo (c (0,()) x.1.1 (x.1.2.1,x.1.2.2.1)) λd=>cond d.1.1 (bo (b () x.1.1 (d.2.1,d.2.2)) λe=>some (some (((x.1.1,(e.2.1,(e.2.2,((),())))),()),((ndE e.1.1),())))) (some none)
def eq80:@run80=@sh80:=dO
def sh84(fu:Nat)(c33:((db Str)×(Str×dc))->(da (dd×dc)))(d:(Int×dc)->MM (Str×dc))(c76:(Int×dc)->MM (dd×dc))(x:(dx×dc))(a:(Int×dc)):(da (da ((dx×dc)×(dd×dc)))):=bo (d (a.1,()) x.1.1 (x.1.2.1,x.1.2.2.1)) λb=>bo (c76 (a.1,()) x.1.1 (b.2.1,b.2.2)) λe=>let c:=(x.1.1,(e.2.1,(e.2.2,((),()))));cond e.1.1 (some (some ((c,()),(true,())))) (Option.bind (c33 ([[99,111,110,115,116],[101,120,116,101,114,110],[105,110,108,105,110,101],[114,101,103,105,115,116,101,114],[115,116,97,116,105,99],[97,117,116,111],[116,121,112,101,100,101,102],[118,111,108,97,116,105,108,101]],(b.1.1,()))) λf=>cond f.1 (some (some ((c,()),(true,())))) (Option.bind (c33 ([[99,104,97,114],[100,111,117,98,108,101],[102,108,111,97,116],[105,110,116],[108,111,110,103],[115,104,111,114,116],[115,105,103,110,101,100],[117,110,115,105,103,110,101,100],[118,111,105,100]],(b.1.1,()))) λg=>cond g.1 (some (some ((c,()),(true,())))) (cond (seq b.1.1 [101,110,117,109]) (some (some ((c,()),(true,())))) (cond (seq b.1.1 [115,116,114,117,99,116]) (some (some ((c,()),(true,())))) (some (some ((c,()),((seq b.1.1 [117,110,105,111,110]),()))))))))
def eq84:@run84=@sh84:=dO
def hj72(fu:Nat)  (l:db dw) (i:Int) (xs:db MT) (m:da (da MT)) (a:zA ([.int .i64]:LK)):sh72 fu ((l,i,xs,m,()),()) a=putJ m (sh72 fu ((l,i,xs,none,()),()) a):=by
 unfold sh72;rcases m with _|_|c<;>simp only[zn,zo,zO3,zP0,zOQ,zPQ,zQk,zPe]
def con72(fu:Nat) :CQ 72 (cJ kI kS (mJ (sh72 fu))):=
 cJ_of (rpk zC zC zC zC fdok72 rfl (λx a=>by rw[<-eq72];rfl)) (hj72 fu )
def hj54(fu:Nat)(c33:zj as33->da (zj rs33))(j:CoX 33 ⟨as33,rs33,c33⟩)(b:zA ([.int .i64]:LK)->MM (zA ([.str]:LK)))(k:CQ 72 (cJ ([.int .i64]:LK) ([.str]:LK) b))(l:db dw)(i:Int)(xs:db MT)(m:da (da MT))(a:zA ([.dl TI.str]:LK)):sh54 fu c33 b ((l,i,xs,m,()),()) a=putJ m (sh54 fu c33 b ((l,i,xs,none,()),()) a):=by
 unfold sh54;have e:∀(m:da (da MT))(o:da (da ((Str×dc)×PSt)))(f:Str->da (dd×dc)),(Option.bind o λg=>zX g (some none) λd=>cond (!(seq d.1.1 [])) (Option.bind (f d.1.1) λh=>some (some (((l,(d.2.1,(d.2.2,(m,())))),()),(h.1,())))) (some (some (((l,(d.2.1,(d.2.2,(m,())))),()),(false,()))))) =
  putJ m (Option.bind o λg=>zX g (some none) λd=>cond (!(seq d.1.1 [])) (Option.bind (f d.1.1) λh=>some (some (((l,(d.2.1,(d.2.2,(none,())))),()),(h.1,())))) (some (some (((l,(d.2.1,(d.2.2,(none,())))),()),(false,()))))):=by
  intro m o f;rcases o with _|_|y
  .rfl
  .rfl
  .show cond (!(seq y.1.1 [])) _ _=putJ m (cond (!(seq y.1.1 [])) _ _);cases(!(seq y.1.1 []))with
   |false=>rfl
   |true=>
    show Option.bind (f y.1.1) _=putJ m (Option.bind (f y.1.1) _);cases f y.1.1<;>rfl
 rcases m with _|_|c
 .exact e none (b (show Int×dc from(0,())) l (i,xs)) λs=>c33 (a.1,(s,()))
 .exact e (some none) (b (show Int×dc from(0,())) l (i,xs)) λs=>c33 (a.1,(s,()))
 .exact e (some (some c)) (b (show Int×dc from(0,())) l (i,xs)) λs=>c33 (a.1,(s,()))
def con54(fu:Nat)(c33:zj as33->da (zj rs33))(c:CoX 33 ⟨as33,rs33,c33⟩)(b:zA kI->MM (zA kS))(d:CQ 72 (cJ kI kS b)):CQ 54 (cJ kL kB (mJ (sh54 fu c33 b))):=
 cJ_of (rpk zC (zD (OrcOk.of ⟨dO,c⟩ rfl) zC) zC (zD ⟨dO,d⟩ zC) fdok54 rfl (λx a=>by rw[<-eq54];rfl)) (hj54 fu c33 c b d)
def con85(fu:Nat)(c15:zj as15->da (zj rs15))(b:CoX 15 ⟨as15,rs15,c15⟩):CQ 85 (cM kI kB (mM (sh85 fu c15))):=
 qG (rpk zC (zD (OrcOk.of ⟨dO,b⟩ rfl) zC) zC zC fdok85 rfl (λx a=>by rw[<-eq85];rfl))
def con112(fu:Nat) :CQ 112 (cM kI kB (mM (sh112 fu))):=
 qG (rpk zC zC zC zC zTc rfl (λx a=>by rw[<-eq112];rfl))
def con73(fu:Nat)(b:CQ 77 (zC3)):CQ 73 (cM k0 kN (mM (sh73 fu))):=
 qG (rpk (lo:=[]) (lr:=[]) (zD zOz zC) zC zC (zD ⟨dO,b⟩ zC) fdok73 rfl (λx a=>by rw[<-eq73];rfl))
def con78(fu:Nat)(b:zA kL->MM (zA kB))(d:CQ 54 (cJ kL kB b))(c:zA k0->MM (zA kN))(e:CQ 73 (cM k0 kN c))(f:CQ 77 (zC3)):CQ 78 (cM kS kN (mM (sh78 fu b c))):=
 qG (rpk zC zC zC (zD ⟨dO,d⟩ (zD ⟨dO,e⟩ (zD ⟨dO,f⟩ zC))) fdok78 rfl (λx a=>by rw[<-eq78];rfl))
def con80(fu:Nat)(b:zA k0->MM (zA kN))(d:CQ 73 (cM k0 kN b))(e:CQ 77 (zC3))(c:zA kI->MM (zA kB))(f:CQ 85 (cM kI kB c)):CQ 80 (cM k0 kN (mM (sh80 fu b c))):=
 qG (rpk zC zC zC (zD ⟨dO,d⟩ (zD ⟨dO,e⟩ (zD ⟨dO,f⟩ zC))) fdok80 rfl (λx a=>by rw[<-eq80];rfl))
def con84(fu:Nat)(c33:zj as33->da (zj rs33))(c:CoX 33 ⟨as33,rs33,c33⟩)(b:zA kI->MM (zA kS))(d:CQ 72 (cJ kI kS b))(c76:zA kI->MM (zA kB))(e:CQ 76 (cM kI kB c76)):CQ 84 (cM kI kB (mM (sh84 fu c33 b c76))):=
 qG (rpk zC (zD (OrcOk.of ⟨dO,c⟩ rfl) zC) zC (zD ⟨dO,d⟩ (zD ⟨dO,e⟩ zC)) fdok84 rfl (λx a=>by rw[<-eq84];rfl))
structure PS where
 c33:List Str×Str×Unit->Option (Bool×Unit)
 c143:Str×Unit->Option (Int×Unit)
 c54:zA ([.dl TI.str]:LK)->MM (zA ([.bool]:LK))
 c72:zA ([.int .i64]:LK)->MM (zA ([.str]:LK))
 c73:zA ([]:LK)->MM (zA ([.st TI.node]:LK))
 c76:zA ([.int .i64]:LK)->MM (zA ([.bool]:LK))
 c78:zA ([.str]:LK)->MM (zA ([.st TI.node]:LK))
 c80:zA ([]:LK)->MM (zA ([.st TI.node]:LK))
 c84:zA ([.int .i64]:LK)->MM (zA ([.bool]:LK))
 c85:zA ([.int .i64]:LK)->MM (zA ([.bool]:LK))
 c112:zA ([.int .i64]:LK)->MM (zA ([.bool]:LK))
 c58:zA ([.str,.bool]:LK)->MM (zA ([]:LK))
 c59:zA ([.mpo]:LK)->MM (zA ([]:LK))
 c61:zA ([]:LK)->MM (zA ([.mpo]:LK))
structure POk(p:PS):Prop where
 h33:CoX 33 ⟨as33,rs33,p.c33⟩
 h143:CoX 143 ⟨zGc,zFB,p.c143⟩
 h38:CrX 38 zA8
 h77:CQ 77 zC3
 h54:CQ 54 (cJ ([.dl TI.str]:LK) ([.bool]:LK) p.c54)
 h72:CQ 72 (cJ ([.int .i64]:LK) ([.str]:LK) p.c72)
 h73:CQ 73 (cM ([]:LK) ([.st TI.node]:LK) p.c73)
 h76:CQ 76 (cM ([.int .i64]:LK) ([.bool]:LK) p.c76)
 h78:CQ 78 (cM ([.str]:LK) ([.st TI.node]:LK) p.c78)
 h80:CQ 80 (cM ([]:LK) ([.st TI.node]:LK) p.c80)
 h84:CQ 84 (cM ([.int .i64]:LK) ([.bool]:LK) p.c84)
 h85:CQ 85 (cM ([.int .i64]:LK) ([.bool]:LK) p.c85)
 h112:CQ 112 (cM ([.int .i64]:LK) ([.bool]:LK) p.c112)
 h58:CQ 58 (cM ([.str,.bool]:LK) ([]:LK) p.c58)
 h59:CQ 59 (cM ([.mpo]:LK) ([]:LK) p.c59)
 h61:CQ 61 (cM ([]:LK) ([.mpo]:LK) p.c61)
structure RS where
 c53:zA ([]:LK)->MM (zA ([.st TI.node,.bool]:LK))
 c74:zA ([]:LK)->MM (zA ([.st TI.node]:LK))
 c107:zA ([]:LK)->MM (zA ([.st TI.node]:LK))
 c75:zA ([]:LK)->MM (zA ([.st TI.node]:LK))
 c108:zA ([]:LK)->MM (zA ([.st TI.node]:LK))
 c79:zA ([]:LK)->List Nd->MM (zA ([]:LK)×List Nd)
 c82:zA ([]:LK)->List Nd->MM (zA ([]:LK)×List Nd)
 c56:zA ([]:LK)->MM (zA ([.st TI.node,.str,.bool]:LK)×Option (Option MT))
 c130:zA ([.bool]:LK)->MM (zA ([.st TI.node,.str,.bool]:LK))
 c81:zA ([]:LK)->MM (zA ([.st TI.node]:LK)×Option MT)
 c110:zA ([]:LK)->MM (zA ([.st TI.node]:LK))
 c151:zA ([]:LK)->MM (zA ([.st TI.node]:LK))
 c83:zA ([]:LK)->MM (zA ([.st TI.node]:LK))
 c57:zA ([.st TI.node,.str,.bool]:LK)->MM (zA ([.st TI.node]:LK))
 c55:zA ([.ag [.ow true TI.node],.bool]:LK)->MM (zA ([.st TI.node]:LK))
 c37:zA ([.bool]:LK)->MM (zA ([.st TI.node]:LK))
 c60:zA ([]:LK)->MM (zA ([.st TI.node]:LK))
 c86:zA ([]:LK)->MM (zA ([.st TI.node]:LK))
 c116:zA ([.ag [.ow true TI.node]]:LK)->MM (zA ([.st TI.node]:LK))
 c115:zA ([]:LK)->List Nd->MM (zA ([]:LK)×List Nd)
 c117:zA ([.str]:LK)->List Nd->MM (zA ([]:LK)×List Nd)
 c113:zA ([]:LK)->MM (zA ([.st TI.node]:LK))
 c111:zA ([]:LK)->MM (zA ([.st TI.node]:LK))
 c114:zA ([]:LK)->MM (zA ([.st TI.node]:LK))
 c131:zA ([.int .i64]:LK)->MM (zA ([.st TI.node]:LK))
 c142:zA ([]:LK)->MM (zA ([.st TI.node]:LK))
 c150:zA ([]:LK)->MM (zA ([.st TI.node]:LK))
 c154:zA ([.st TI.node]:LK)->MM (zA ([.st TI.node]:LK))
 c155:zA ([]:LK)->MM (zA ([.st TI.node]:LK))
def RS.zero:RS where
 c53:=λ_ _ _=>none
 c74:=λ_ _ _=>none
 c107:=λ_ _ _=>none
 c75:=λ_ _ _=>none
 c108:=λ_ _ _=>none
 c79:=λ_ _ _ _=>none
 c82:=λ_ _ _ _=>none
 c56:=λ_ _ _=>none
 c130:=λ_ _ _=>none
 c81:=λ_ _ _=>none
 c110:=λ_ _ _=>none
 c151:=λ_ _ _=>none
 c83:=λ_ _ _=>none
 c57:=λ_ _ _=>none
 c55:=λ_ _ _=>none
 c37:=λ_ _ _=>none
 c60:=λ_ _ _=>none
 c86:=λ_ _ _=>none
 c116:=λ_ _ _=>none
 c115:=λ_ _ _ _=>none
 c117:=λ_ _ _ _=>none
 c113:=λ_ _ _=>none
 c111:=λ_ _ _=>none
 c114:=λ_ _ _=>none
 c131:=λ_ _ _=>none
 c142:=λ_ _ _=>none
 c150:=λ_ _ _=>none
 c154:=λ_ _ _=>none
 c155:=λ_ _ _=>none
structure ROk(r:RS):Prop where
 h53:CQ 53 (cM (([]:LK)) (([.st TI.node,.bool]:LK)) r.c53)
 h74:CQ 74 (cM (([]:LK)) (([.st TI.node]:LK)) r.c74)
 h107:CQ 107 (cM (([]:LK)) (([.st TI.node]:LK)) r.c107)
 h75:CQ 75 (cM (([]:LK)) (([.st TI.node]:LK)) r.c75)
 h108:CQ 108 (cM (([]:LK)) (([.st TI.node]:LK)) r.c108)
 h79:CQ 79 (cX (([]:LK)) (([]:LK)) r.c79)
 h82:CQ 82 (cX (([]:LK)) (([]:LK)) r.c82)
 h56:CQ 56 (cN (([]:LK)) (([.st TI.node,.str,.bool]:LK)) r.c56)
 h130:CQ 130 (cM (([.bool]:LK)) (([.st TI.node,.str,.bool]:LK)) r.c130)
 h81:CQ 81 (cL (([]:LK)) (([.st TI.node]:LK)) r.c81)
 h110:CQ 110 (cM (([]:LK)) (([.st TI.node]:LK)) r.c110)
 h151:CQ 151 (cM (([]:LK)) (([.st TI.node]:LK)) r.c151)
 h83:CQ 83 (cM (([]:LK)) (([.st TI.node]:LK)) r.c83)
 h57:CQ 57 (cM (([.st TI.node,.str,.bool]:LK)) (([.st TI.node]:LK)) r.c57)
 h55:CQ 55 (cM (([.ag [.ow true TI.node],.bool]:LK)) (([.st TI.node]:LK)) r.c55)
 h37:CQ 37 (cM (([.bool]:LK)) (([.st TI.node]:LK)) r.c37)
 h60:CQ 60 (cM (([]:LK)) (([.st TI.node]:LK)) r.c60)
 h86:CQ 86 (cM (([]:LK)) (([.st TI.node]:LK)) r.c86)
 h116:CQ 116 (cM (([.ag [.ow true TI.node]]:LK)) (([.st TI.node]:LK)) r.c116)
 h115:CQ 115 (cX (([]:LK)) (([]:LK)) r.c115)
 h117:CQ 117 (cX (([.str]:LK)) (([]:LK)) r.c117)
 h113:CQ 113 (cM (([]:LK)) (([.st TI.node]:LK)) r.c113)
 h111:CQ 111 (cM (([]:LK)) (([.st TI.node]:LK)) r.c111)
 h114:CQ 114 (cM (([]:LK)) (([.st TI.node]:LK)) r.c114)
 h131:CQ 131 (cM (([.int .i64]:LK)) (([.st TI.node]:LK)) r.c131)
 h142:CQ 142 (cM (([]:LK)) (([.st TI.node]:LK)) r.c142)
 h150:CQ 150 (cM (([]:LK)) (([.st TI.node]:LK)) r.c150)
 h154:CQ 154 (cM (([.st TI.node]:LK)) (([.st TI.node]:LK)) r.c154)
 h155:CQ 155 (cM (([]:LK)) (([.st TI.node]:LK)) r.c155)
def ROk.zero:ROk RS.zero:=⟨(λ_ _ _ _ _ _ h=>dU),(λ_ _ _ _ _ _ h=>dU),(λ_ _ _ _ _ _ h=>dU),(λ_ _ _ _ _ _ h=>dU),(λ_ _ _ _ _ _ h=>dU),(λ_ _ _ _ _ _ h=>dU),(λ_ _ _ _ _ _ h=>dU),(λ_ _ _ _ _ _ h=>dU),(λ_ _ _ _ _ _ h=>dU),(λ_ _ _ _ _ _ h=>dU),(λ_ _ _ _ _ _ h=>dU),(λ_ _ _ _ _ _ h=>dU),(λ_ _ _ _ _ _ h=>dU),(λ_ _ _ _ _ _ h=>dU),(λ_ _ _ _ _ _ h=>dU),(λ_ _ _ _ _ _ h=>dU),(λ_ _ _ _ _ _ h=>dU),(λ_ _ _ _ _ _ h=>dU),(λ_ _ _ _ _ _ h=>dU),(λ_ _ _ _ _ _ h=>dU),(λ_ _ _ _ _ _ h=>dU),(λ_ _ _ _ _ _ h=>dU),(λ_ _ _ _ _ _ h=>dU),(λ_ _ _ _ _ _ h=>dU),(λ_ _ _ _ _ _ h=>dU),(λ_ _ _ _ _ _ h=>dU),(λ_ _ _ _ _ _ h=>dU),(λ_ _ _ _ _ _ h=>dU),(λ_ _ _ _ _ _ h=>dU)⟩
def oC(p:PS):Nat->da (Con UU):=zG [(33,⟨as33,rs33,p.c33⟩),(143,⟨zGc,zFB,p.c143⟩)]
def oR:Nat->da (CR UU):=zG [(38,zA8)]
noncomputable def iI:Nat->da (FD UU):=zG [(36,fd36),(41,fd41)]
def oA(p:PS)(r:RS)(a b:dd):Nat->da (CP UU):=zG [(53,cM ([]:LK) ([.st TI.node,.bool]:LK) r.c53),(74,cM ([]:LK) ([.st TI.node]:LK) r.c74),(107,cM ([]:LK) ([.st TI.node]:LK) r.c107),(75,cM ([]:LK) ([.st TI.node]:LK) r.c75),(108,cM ([]:LK) ([.st TI.node]:LK) r.c108),(79,cX ([]:LK) ([]:LK) r.c79),(82,cX ([]:LK) ([]:LK) r.c82),(56,cond a (cNj ([]:LK) ([.st TI.node,.str,.bool]:LK) r.c56) (cN ([]:LK) ([.st TI.node,.str,.bool]:LK) r.c56)),(130,cM ([.bool]:LK) ([.st TI.node,.str,.bool]:LK) r.c130),(81,cond b (cLj ([]:LK) ([.st TI.node]:LK) r.c81) (cL ([]:LK) ([.st TI.node]:LK) r.c81)),(110,cM ([]:LK) ([.st TI.node]:LK) r.c110),(151,cM ([]:LK) ([.st TI.node]:LK) r.c151),(83,cM ([]:LK) ([.st TI.node]:LK) r.c83),(57,cM ([.st TI.node,.str,.bool]:LK) ([.st TI.node]:LK) r.c57),(55,cM ([.ag [.ow true TI.node],.bool]:LK) ([.st TI.node]:LK) r.c55),(37,cM ([.bool]:LK) ([.st TI.node]:LK) r.c37),(60,cM ([]:LK) ([.st TI.node]:LK) r.c60),(86,cM ([]:LK) ([.st TI.node]:LK) r.c86),(116,cM ([.ag [.ow true TI.node]]:LK) ([.st TI.node]:LK) r.c116),(115,cX ([]:LK) ([]:LK) r.c115),(117,cX ([.str]:LK) ([]:LK) r.c117),(113,cM ([]:LK) ([.st TI.node]:LK) r.c113),(111,cM ([]:LK) ([.st TI.node]:LK) r.c111),(114,cM ([]:LK) ([.st TI.node]:LK) r.c114),(131,cM ([.int .i64]:LK) ([.st TI.node]:LK) r.c131),(142,cM ([]:LK) ([.st TI.node]:LK) r.c142),(150,cM ([]:LK) ([.st TI.node]:LK) r.c150),(154,cM ([.st TI.node]:LK) ([.st TI.node]:LK) r.c154),(155,cM ([]:LK) ([.st TI.node]:LK) r.c155),(54,cJ ([.dl TI.str]:LK) ([.bool]:LK) p.c54),(72,cJ ([.int .i64]:LK) ([.str]:LK) p.c72),(73,cM ([]:LK) ([.st TI.node]:LK) p.c73),(76,cM ([.int .i64]:LK) ([.bool]:LK) p.c76),(78,cM ([.str]:LK) ([.st TI.node]:LK) p.c78),(80,cM ([]:LK) ([.st TI.node]:LK) p.c80),(84,cM ([.int .i64]:LK) ([.bool]:LK) p.c84),(85,cM ([.int .i64]:LK) ([.bool]:LK) p.c85),(112,cM ([.int .i64]:LK) ([.bool]:LK) p.c112),(58,cM ([.str,.bool]:LK) ([]:LK) p.c58),(59,cM ([.mpo]:LK) ([]:LK) p.c59),(61,cM ([]:LK) ([.mpo]:LK) p.c61),(77,zC3)]
def oA_ok{p:PS}(e:POk p){r:RS}(d:ROk r)(a b:dd):∀f c,oA p r a b f=some c->xY Tryz.prog f=true/\CQ f c:=
 zD ⟨dO,d.h53⟩ (zD ⟨dO,d.h74⟩ (zD ⟨dO,d.h107⟩ (zD ⟨dO,d.h75⟩ (zD ⟨dO,d.h108⟩ (zD ⟨dO,d.h79⟩ (zD ⟨dO,d.h82⟩ (zD ⟨dO,by cases a;exact d.h56;exact cNj_of d.h56⟩ (zD ⟨dO,d.h130⟩ (zD ⟨dO,by cases b;exact d.h81;exact cLj_of d.h81⟩ (zD ⟨dO,d.h110⟩ (zD ⟨dO,d.h151⟩ (zD ⟨dO,d.h83⟩ (zD ⟨dO,d.h57⟩ (zD ⟨dO,d.h55⟩ (zD ⟨dO,d.h37⟩ (zD ⟨dO,d.h60⟩ (zD ⟨dO,d.h86⟩ (zD ⟨dO,d.h116⟩ (zD ⟨dO,d.h115⟩ (zD ⟨dO,d.h117⟩ (zD ⟨dO,d.h113⟩ (zD ⟨dO,d.h111⟩ (zD ⟨dO,d.h114⟩ (zD ⟨dO,d.h131⟩ (zD ⟨dO,d.h142⟩ (zD ⟨dO,d.h150⟩ (zD ⟨dO,d.h154⟩ (zD ⟨dO,d.h155⟩ (zD ⟨dO,e.h54⟩ (zD ⟨dO,e.h72⟩ (zD ⟨dO,e.h73⟩ (zD ⟨dO,e.h76⟩ (zD ⟨dO,e.h78⟩ (zD ⟨dO,e.h80⟩ (zD ⟨dO,e.h84⟩ (zD ⟨dO,e.h85⟩ (zD ⟨dO,e.h112⟩ (zD ⟨dO,e.h58⟩ (zD ⟨dO,e.h59⟩ (zD ⟨dO,e.h61⟩ (zD ⟨dO,e.h77⟩ zC)))))))))))))))))))))))))))))))))))))))))
noncomputable def rnA(fu:Nat)(p:PS)(r:RS)(a b:dd)(e:FD UU)(c d aa rs:LK)(x:zA c)(y:zA aa):da (da (zA d×zA rs)):=runP CC Tb fu 4 iI (oC p) oR (oA p r a b) e c d aa rs x y
def qI(fu:Nat){p:PS}(h:POk p){r:RS}(q:ROk r){a b:dd}{f:Nat}{j:FD UU}(k:FdX (hasN [33,143]) (hasN [38]) f j){i m aa rs:LK}(c:i.length+aa.length<=j.n){o:zA i->zA aa->da (da (zA m×zA rs))}
 (e:∀x y,rnA fu p r a b j i m aa rs x y=o x y):CQ f ⟨i,m,aa,rs,fnP o⟩:=
 zM2 (syn:=syn) (fu:=fu) (d:=4) (inl:=iI) (orc:=oC p) (orr:=oR) (orp:=oA p r a b) (pf:=hasN [33,143]) (rf:=hasN [38]) zHo CCok mixed (λg=>(qw (α:=Con UU) (l:=[(33,⟨as33,rs33,p.c33⟩),(143,⟨zGc,zFB,p.c143⟩)]) g).symm) (λg=>(qw (α:=CR UU) (l:=[(38,zA8)]) g).symm)
  (zD zTr (zD zT5 zC)) (zD (OrcOk.of ⟨dO,h.h33⟩ rfl) (zD (OrcOk.of ⟨dO,h.h143⟩ rfl) zC)) (zD ⟨dO,h.h38⟩ zC) (oA_ok h q a b) k c e
def sh53(fu:Nat)(c33:((db Str)×(Str×dc))->(da (dd×dc)))(m:(Int×dc)->MM (Str×dc))(g:dc->MM (Nd×dc))(k:dc->MM (Nd×dc))(n:dc->MM (Nd×dc))(c76:(Int×dc)->MM (dd×dc))(x:(dx×dc))(a:dc):(da (da ((dx×dc)×(Nd×(dd×dc))))):=iter fu (λ(d:((dd×(dd×(dd×dc)))×(dx×(JT×(NdsT×dc))))->da (da ((dx×dc)×(Nd×(dd×dc)))))(b:((dd×(dd×(dd×dc)))×(dx×(JT×(NdsT×dc)))))=>let o:=(b.1.2.2.1,());let s:=(b.2.2.2.1.1,());let p:=(b.2.2.1,(s,()));let l:=(b.1.1,(b.1.2.1,(true,())));bo (m (0,()) b.2.1.1 (b.2.1.2.1,b.2.1.2.2.1)) λf=>let q:=(b.2.1.1,(f.2.1,(f.2.2,((),()))));let i:=(f.2.1,f.2.2);zg (λ(e:((dd×dc)×(dx×(JT×(NdsT×dc))))->da (da ((dx×dc)×(Nd×(dd×dc)))))=>let r:=cond b.1.2.1 (e ((b.1.1,()),(q,p))) (cond b.1.2.2.1 (e ((b.1.1,()),(q,p))) (cond (seq f.1.1 [115,116,114,117,99,116]) (bo (k () b.2.1.1 i) λc=>ck (b.2.2.2.1.1.length+(List.length [(ndE c.1.1)])) (d (l,((b.2.1.1,(c.2.1,(c.2.2,((),())))),(b.2.2.1,(((b.2.2.2.1.1++[(ndE c.1.1)]),()),())))))) (cond (seq f.1.1 [117,110,105,111,110]) (bo (k () b.2.1.1 i) λc=>ck (b.2.2.2.1.1.length+(List.length [(ndE c.1.1)])) (d (l,((b.2.1.1,(c.2.1,(c.2.2,((),())))),(b.2.2.1,(((b.2.2.2.1.1++[(ndE c.1.1)]),()),())))))) (cond (seq f.1.1 [101,110,117,109]) (bo (n () b.2.1.1 i) λc=>ck (b.2.2.2.1.1.length+(List.length [(ndE c.1.1)])) (d (l,((b.2.1.1,(c.2.1,(c.2.2,((),())))),(b.2.2.1,(((b.2.2.2.1.1++[(ndE c.1.1)]),()),())))))) (bo (c76 (0,()) b.2.1.1 i) λc=>cond c.1.1 (bo (g () b.2.1.1 (c.2.1,c.2.2)) λy7=>ck (b.2.2.2.1.1.length+(List.length [(ndE y7.1.1)])) (d (l,((b.2.1.1,(y7.2.1,(y7.2.2,((),())))),(b.2.2.1,(((b.2.2.2.1.1++[(ndE y7.1.1)]),()),())))))) (e ((b.1.1,()),((b.2.1.1,(c.2.1,(c.2.2,((),())))),p))))))));Option.bind (c33 ([[99,111,110,115,116],[101,120,116,101,114,110],[105,110,108,105,110,101],[114,101,103,105,115,116,101,114],[115,116,97,116,105,99],[97,117,116,111],[116,121,112,101,100,101,102],[118,111,108,97,116,105,108,101]],(f.1.1,()))) λt=>cond t.1 (cond b.1.1 (bo (g () b.2.1.1 i) λh=>ck (b.2.2.2.1.1.length+(List.length [(ndE h.1.1)])) (d ((true,(b.1.2.1,o)),((b.2.1.1,(h.2.1,(h.2.2,((),())))),(b.2.2.1,(((b.2.2.2.1.1++[(ndE h.1.1)]),()),())))))) (bo (g () b.2.1.1 i) λh=>ck (b.2.2.2.1.1.length+(List.length [(ndE h.1.1)])) (d (((seq f.1.1 [116,121,112,101,100,101,102]),(b.1.2.1,o)),((b.2.1.1,(h.2.1,(h.2.2,((),())))),(b.2.2.1,(((b.2.2.2.1.1++[(ndE h.1.1)]),()),()))))))) (Option.bind (c33 ([[99,104,97,114],[100,111,117,98,108,101],[102,108,111,97,116],[105,110,116],[108,111,110,103],[115,104,111,114,116],[115,105,103,110,101,100],[117,110,115,105,103,110,101,100],[118,111,105,100]],(f.1.1,()))) λu=>cond u.1 (cond (!b.1.2.2.1) (bo (g () b.2.1.1 i) λc=>ck (b.2.2.2.1.1.length+(List.length [(ndE c.1.1)])) (d ((b.1.1,(true,o)),((b.2.1.1,(c.2.1,(c.2.2,((),())))),(b.2.2.1,(((b.2.2.2.1.1++[(ndE c.1.1)]),()),())))))) r) r)) (λ(j:((dd×dc)×(dx×(JT×(NdsT×dc)))))=>cond (ilt 0 (lenI j.2.2.2.1.1)) (some (some (((j.2.1.1,(j.2.1.2.1,(j.2.1.2.2.1,((),())))),()),((ndE (Nd.mk 4 0 j.2.2.2.1.1)),(j.1.1,()))))) (some none))) ((false,(false,(false,()))),((x.1.1,(x.1.2.1,(x.1.2.2.1,((),())))),((0,(0,([],()))),(([],()),()))))
def eq53(fu:Nat)(p:PS)(r:RS) x a:rnA fu p r false false fd53 [parK] [parK] ([]:LK) ([.st TI.node,.bool]:LK) x a=sh53 fu p.c33 p.c72 p.c73 r.c74 r.c75 p.c76 x a:=dO
def sh74(fu:Nat)(g:((db Str)×dc)->MM (dd×dc))(e:dc->MM (Nd×dc))(j:(Int×dc)->MM (dd×dc))(i:dc->MM (Nd×dc))(x:(dx×dc))(a:dc):(da (da ((dx×dc)×(Nd×dc)))):=bo (e () x.1.1 (x.1.2.1,x.1.2.2.1)) λk=>let m:=List.length [(ndE k.1.1)];ck m (bo (j (0,()) x.1.1 (k.2.1,k.2.2)) λl=>cond l.1.1 (zg (λ(c:(dc×(dx×(JT×(NdsT×dc))))->da (da ((dx×dc)×(Nd×dc))))=>bo (j (0,()) x.1.1 (l.2.1,l.2.2)) λf=>cond f.1.1 (bo (e () x.1.1 (f.2.1,f.2.2)) λy7=>ck (m+(List.length [(ndE y7.1.1)])) (c ((),((x.1.1,(y7.2.1,(y7.2.2,((),())))),((0,(0,([],()))),((([(ndE k.1.1)]++[(ndE y7.1.1)]),()),())))))) (c ((),((x.1.1,(f.2.1,(f.2.2,((),())))),((0,(0,([],()))),(([(ndE k.1.1)],()),())))))) (λ(d:(dc×(dx×(JT×(NdsT×dc)))))=>bo (g ([[123]],()) d.2.1.1 (d.2.1.2.1,d.2.1.2.2.1)) λf=>cond (!f.1.1) (some (some (((d.2.1.1,(f.2.1,(f.2.2,((),())))),()),((ndE (Nd.mk 5 0 d.2.2.2.1.1)),())))) (bo (e () d.2.1.1 (f.2.1,f.2.2)) λy7=>ck (d.2.2.2.1.1.length+(List.length [(ndE y7.1.1)])) (iter fu (λ(h:(dc×(dx×(JT×(NdsT×dc))))->da (da ((dx×dc)×(Nd×dc))))(b:(dc×(dx×(JT×(NdsT×dc)))))=>bo (g ([[125]],()) b.2.1.1 (b.2.1.2.1,b.2.1.2.2.1)) λy9=>cond (!y9.1.1) (bo (i () b.2.1.1 (y9.2.1,y9.2.2)) λy11=>ck (b.2.2.2.1.1.length+(List.length [(ndE y11.1.1)])) (h ((),((b.2.1.1,(y11.2.1,(y11.2.2,((),())))),(b.2.2.1,(((b.2.2.2.1.1++[(ndE y11.1.1)]),()),())))))) (bo (e () b.2.1.1 (y9.2.1,y9.2.2)) λy11=>ck (b.2.2.2.1.1.length+(List.length [(ndE y11.1.1)])) (some (some (((b.2.1.1,(y11.2.1,(y11.2.2,((),())))),()),((ndE (Nd.mk 5 0 (b.2.2.2.1.1++[(ndE y11.1.1)]))),())))))) ((),((d.2.1.1,(y7.2.1,(y7.2.2,((),())))),(d.2.2.1,(((d.2.2.2.1.1++[(ndE y7.1.1)]),()),())))))))) (bo (g ([[123]],()) x.1.1 (l.2.1,l.2.2)) λf=>cond f.1.1 (zg (λ(c:(dc×(dx×(JT×(NdsT×dc))))->da (da ((dx×dc)×(Nd×dc))))=>bo (j (0,()) x.1.1 (f.2.1,f.2.2)) λy7=>cond y7.1.1 (bo (e () x.1.1 (y7.2.1,y7.2.2)) λy9=>ck (m+(List.length [(ndE y9.1.1)])) (c ((),((x.1.1,(y9.2.1,(y9.2.2,((),())))),((0,(0,([],()))),((([(ndE k.1.1)]++[(ndE y9.1.1)]),()),())))))) (c ((),((x.1.1,(y7.2.1,(y7.2.2,((),())))),((0,(0,([],()))),(([(ndE k.1.1)],()),())))))) (λ(d:(dc×(dx×(JT×(NdsT×dc)))))=>bo (g ([[123]],()) d.2.1.1 (d.2.1.2.1,d.2.1.2.2.1)) λy7=>cond (!y7.1.1) (some (some (((d.2.1.1,(y7.2.1,(y7.2.2,((),())))),()),((ndE (Nd.mk 5 0 d.2.2.2.1.1)),())))) (bo (e () d.2.1.1 (y7.2.1,y7.2.2)) λy9=>ck (d.2.2.2.1.1.length+(List.length [(ndE y9.1.1)])) (iter fu (λ(h:(dc×(dx×(JT×(NdsT×dc))))->da (da ((dx×dc)×(Nd×dc))))(b:(dc×(dx×(JT×(NdsT×dc)))))=>bo (g ([[125]],()) b.2.1.1 (b.2.1.2.1,b.2.1.2.2.1)) λy11=>cond (!y11.1.1) (bo (i () b.2.1.1 (y11.2.1,y11.2.2)) λy13=>ck (b.2.2.2.1.1.length+(List.length [(ndE y13.1.1)])) (h ((),((b.2.1.1,(y13.2.1,(y13.2.2,((),())))),(b.2.2.1,(((b.2.2.2.1.1++[(ndE y13.1.1)]),()),())))))) (bo (e () b.2.1.1 (y11.2.1,y11.2.2)) λy13=>ck (b.2.2.2.1.1.length+(List.length [(ndE y13.1.1)])) (some (some (((b.2.1.1,(y13.2.1,(y13.2.2,((),())))),()),((ndE (Nd.mk 5 0 (b.2.2.2.1.1++[(ndE y13.1.1)]))),())))))) ((),((d.2.1.1,(y9.2.1,(y9.2.2,((),())))),(d.2.2.1,(((d.2.2.2.1.1++[(ndE y9.1.1)]),()),())))))))) (some none)))
def eq74(fu:Nat)(p:PS)(r:RS) x a:rnA fu p r false false fd74 [parK] [parK] ([]:LK) ([.st TI.node]:LK) x a=sh74 fu p.c54 p.c73 p.c85 r.c107 x a:=dO
def sh107(fu:Nat)(i:dc->MM (Nd×(dd×dc)))(f:((db Str)×dc)->MM (dd×dc))(j:dc->MM ((Nd×(Str×(dd×dc)))×(da (da MT))))(k:dc->MM (Nd×dc))(l:(Str×dc)->MM (Nd×dc))(x:(dx×dc))(a:dc):(da (da ((dx×dc)×(Nd×dc)))):=bo (i () x.1.1 (x.1.2.1,x.1.2.2.1)) λh=>ck (List.length [(ndE h.1.1)]) (bo (f ([[59]],()) x.1.1 (h.2.1,h.2.2)) λm=>iter fu (λ(g:((dd×dc)×(dx×(JT×(NdsT×dc))))->da (da ((dx×dc)×(Nd×dc))))(b:((dd×dc)×(dx×(JT×(NdsT×dc)))))=>let n:=(b.2.1.2.1,b.2.1.2.2.1);cond b.1.1 (zg (λ(d:(dc×(dx×(JT×(NdsT×dc))))->da (da ((dx×dc)×(Nd×dc))))=>cond (ilt 1 (lenI b.2.2.2.1.1)) (bo (k () b.2.1.1 n) λc=>ck (b.2.2.2.1.1.length+(List.length [(ndE c.1.1)])) (d ((),((b.2.1.1,(c.2.1,(c.2.2,((),())))),(b.2.2.1,(((b.2.2.2.1.1++[(ndE c.1.1)]),()),())))))) (d ((),((b.2.1.1,(b.2.1.2.1,(b.2.1.2.2.1,((),())))),(b.2.2.1,((b.2.2.2.1.1,()),())))))) (λ(e:(dc×(dx×(JT×(NdsT×dc)))))=>bo (j () e.2.1.1 (e.2.1.2.1,e.2.1.2.2.1)) λc=>ck (e.2.2.2.1.1.length+(List.length [(ndE c.1.1.1)])) (bo (f ([[44]],()) e.2.1.1 (c.2.1,c.2.2)) λy7=>g ((y7.1.1,()),((e.2.1.1,(y7.2.1,(y7.2.2,((),())))),(e.2.2.1,(((e.2.2.2.1.1++[(ndE c.1.1.1)]),()),()))))))) (bo (l ([59],()) b.2.1.1 n) λc=>ck (b.2.2.2.1.1.length+(List.length [(ndE c.1.1)])) (some (some (((b.2.1.1,(c.2.1,(c.2.2,((),())))),()),((ndE (Nd.mk 7 0 (b.2.2.2.1.1++[(ndE c.1.1)]))),())))))) (((!m.1.1),()),((x.1.1,(m.2.1,(m.2.2,((),())))),((0,(0,([],()))),(([(ndE h.1.1)],()),())))))
def eq107(fu:Nat)(p:PS)(r:RS) x a:rnA fu p r true false fd107 [parK] [parK] ([]:LK) ([.st TI.node]:LK) x a=sh107 fu r.c53 p.c54 r.c56 p.c73 p.c78 x a:=dO
def sh75(fu:Nat)(e:((db Str)×dc)->MM (dd×dc))(f:dc->MM (Nd×dc))(m:(Str×dc)->MM (Nd×dc))(k:(Int×dc)->MM (dd×dc))(j:dc->MM (Nd×dc))(x:(dx×dc))(a:dc):(da (da ((dx×dc)×(Nd×dc)))):=bo (f () x.1.1 (x.1.2.1,x.1.2.2.1)) λl=>let o:=List.length [(ndE l.1.1)];ck o (bo (k (0,()) x.1.1 (l.2.1,l.2.2)) λn=>cond n.1.1 (zg (λ(b:(dc×(dx×(JT×(NdsT×dc))))->da (da ((dx×dc)×(Nd×dc))))=>bo (k (0,()) x.1.1 (n.2.1,n.2.2)) λg=>cond g.1.1 (bo (f () x.1.1 (g.2.1,g.2.2)) λy7=>ck (o+(List.length [(ndE y7.1.1)])) (b ((),((x.1.1,(y7.2.1,(y7.2.2,((),())))),((0,(0,([],()))),((([(ndE l.1.1)]++[(ndE y7.1.1)]),()),())))))) (b ((),((x.1.1,(g.2.1,(g.2.2,((),())))),((0,(0,([],()))),(([(ndE l.1.1)],()),())))))) (λ(d:(dc×(dx×(JT×(NdsT×dc)))))=>bo (e ([[123]],()) d.2.1.1 (d.2.1.2.1,d.2.1.2.2.1)) λg=>cond (!g.1.1) (some (some (((d.2.1.1,(g.2.1,(g.2.2,((),())))),()),((ndE (Nd.mk 6 0 d.2.2.2.1.1)),())))) (bo (f () d.2.1.1 (g.2.1,g.2.2)) λy7=>ck (d.2.2.2.1.1.length+(List.length [(ndE y7.1.1)])) (iter fu (λ(i:(dc×(dx×(JT×(NdsT×dc))))->da (da ((dx×dc)×(Nd×dc))))(c:(dc×(dx×(JT×(NdsT×dc)))))=>bo (j () c.2.1.1 (c.2.1.2.1,c.2.1.2.2.1)) λy9=>ck (c.2.2.2.1.1.length+(List.length [(ndE y9.1.1)])) (zg (λ(b:(dc×(dx×(JT×(NdsT×dc))))->da (da ((dx×dc)×(Nd×dc))))=>bo (e ([[44]],()) c.2.1.1 (y9.2.1,y9.2.2)) λy11=>cond y11.1.1 (bo (f () c.2.1.1 (y11.2.1,y11.2.2)) λy13=>ck ((List.length (c.2.2.2.1.1++[(ndE y9.1.1)]))+(List.length [(ndE y13.1.1)])) (bo (e ([[125]],()) c.2.1.1 (y13.2.1,y13.2.2)) λy15=>let p:=(c.2.1.1,(y15.2.1,(y15.2.2,((),()))));cond (!y15.1.1) (i ((),(p,(c.2.2.1,((((c.2.2.2.1.1++[(ndE y9.1.1)])++[(ndE y13.1.1)]),()),()))))) (b ((),(p,(c.2.2.1,((((c.2.2.2.1.1++[(ndE y9.1.1)])++[(ndE y13.1.1)]),()),()))))))) (b ((),((c.2.1.1,(y11.2.1,(y11.2.2,((),())))),(c.2.2.1,(((c.2.2.2.1.1++[(ndE y9.1.1)]),()),())))))) (λ(h:(dc×(dx×(JT×(NdsT×dc)))))=>bo (m ([125],()) h.2.1.1 (h.2.1.2.1,h.2.1.2.2.1)) λy11=>ck (h.2.2.2.1.1.length+(List.length [(ndE y11.1.1)])) (some (some (((h.2.1.1,(y11.2.1,(y11.2.2,((),())))),()),((ndE (Nd.mk 6 0 (h.2.2.2.1.1++[(ndE y11.1.1)]))),()))))))) ((),((d.2.1.1,(y7.2.1,(y7.2.2,((),())))),(d.2.2.1,(((d.2.2.2.1.1++[(ndE y7.1.1)]),()),())))))))) (bo (e ([[123]],()) x.1.1 (n.2.1,n.2.2)) λg=>cond g.1.1 (zg (λ(b:(dc×(dx×(JT×(NdsT×dc))))->da (da ((dx×dc)×(Nd×dc))))=>bo (k (0,()) x.1.1 (g.2.1,g.2.2)) λy7=>cond y7.1.1 (bo (f () x.1.1 (y7.2.1,y7.2.2)) λy9=>ck (o+(List.length [(ndE y9.1.1)])) (b ((),((x.1.1,(y9.2.1,(y9.2.2,((),())))),((0,(0,([],()))),((([(ndE l.1.1)]++[(ndE y9.1.1)]),()),())))))) (b ((),((x.1.1,(y7.2.1,(y7.2.2,((),())))),((0,(0,([],()))),(([(ndE l.1.1)],()),())))))) (λ(d:(dc×(dx×(JT×(NdsT×dc)))))=>bo (e ([[123]],()) d.2.1.1 (d.2.1.2.1,d.2.1.2.2.1)) λy7=>cond (!y7.1.1) (some (some (((d.2.1.1,(y7.2.1,(y7.2.2,((),())))),()),((ndE (Nd.mk 6 0 d.2.2.2.1.1)),())))) (bo (f () d.2.1.1 (y7.2.1,y7.2.2)) λy9=>ck (d.2.2.2.1.1.length+(List.length [(ndE y9.1.1)])) (iter fu (λ(i:(dc×(dx×(JT×(NdsT×dc))))->da (da ((dx×dc)×(Nd×dc))))(c:(dc×(dx×(JT×(NdsT×dc)))))=>bo (j () c.2.1.1 (c.2.1.2.1,c.2.1.2.2.1)) λy11=>ck (c.2.2.2.1.1.length+(List.length [(ndE y11.1.1)])) (zg (λ(b:(dc×(dx×(JT×(NdsT×dc))))->da (da ((dx×dc)×(Nd×dc))))=>bo (e ([[44]],()) c.2.1.1 (y11.2.1,y11.2.2)) λy13=>cond y13.1.1 (bo (f () c.2.1.1 (y13.2.1,y13.2.2)) λy15=>ck ((List.length (c.2.2.2.1.1++[(ndE y11.1.1)]))+(List.length [(ndE y15.1.1)])) (bo (e ([[125]],()) c.2.1.1 (y15.2.1,y15.2.2)) λy17=>let q:=(c.2.1.1,(y17.2.1,(y17.2.2,((),()))));cond (!y17.1.1) (i ((),(q,(c.2.2.1,((((c.2.2.2.1.1++[(ndE y11.1.1)])++[(ndE y15.1.1)]),()),()))))) (b ((),(q,(c.2.2.1,((((c.2.2.2.1.1++[(ndE y11.1.1)])++[(ndE y15.1.1)]),()),()))))))) (b ((),((c.2.1.1,(y13.2.1,(y13.2.2,((),())))),(c.2.2.1,(((c.2.2.2.1.1++[(ndE y11.1.1)]),()),())))))) (λ(h:(dc×(dx×(JT×(NdsT×dc)))))=>bo (m ([125],()) h.2.1.1 (h.2.1.2.1,h.2.1.2.2.1)) λy13=>ck (h.2.2.2.1.1.length+(List.length [(ndE y13.1.1)])) (some (some (((h.2.1.1,(y13.2.1,(y13.2.2,((),())))),()),((ndE (Nd.mk 6 0 (h.2.2.2.1.1++[(ndE y13.1.1)]))),()))))))) ((),((d.2.1.1,(y9.2.1,(y9.2.2,((),())))),(d.2.2.1,(((d.2.2.2.1.1++[(ndE y9.1.1)]),()),())))))))) (some none)))
def eq75(fu:Nat)(p:PS)(r:RS) x a:rnA fu p r false false fd75 [parK] [parK] ([]:LK) ([.st TI.node]:LK) x a=sh75 fu p.c54 p.c73 p.c78 p.c85 r.c108 x a:=dO
def sh108(fu:Nat)(f:((db Str)×dc)->MM (dd×dc))(c58:(Str×(dd×dc))->MM dc)(g:(Int×dc)->MM (Str×dc))(h:dc->MM (Nd×dc))(i:dc->MM (Nd×dc))(b:dc->MM (Nd×dc))(x:(dx×dc))(a:dc):(da (da ((dx×dc)×(Nd×dc)))):=bo (g (0,()) x.1.1 (x.1.2.1,x.1.2.2.1)) λe=>bo (i () x.1.1 (e.2.1,e.2.2)) λc=>let j:=List.length [(ndE c.1.1)];ck j (bo (f ([[61]],()) x.1.1 (c.2.1,c.2.2)) λd=>cond d.1.1 (bo (h () x.1.1 (d.2.1,d.2.2)) λy7=>bo (b () x.1.1 (y7.2.1,y7.2.2)) λy9=>ck (j+(List.length [(ndE y7.1.1),(ndE y9.1.1)])) (bo (c58 (e.1.1,(false,())) x.1.1 (y9.2.1,y9.2.2)) λy11=>some (some (((x.1.1,(y11.2.1,(y11.2.2,((),())))),()),((ndE (Nd.mk 8 0 ([(ndE c.1.1)]++[(ndE y7.1.1),(ndE y9.1.1)]))),()))))) (bo (c58 (e.1.1,(false,())) x.1.1 (d.2.1,d.2.2)) λy7=>some (some (((x.1.1,(y7.2.1,(y7.2.2,((),())))),()),((ndE (Nd.mk 8 0 [(ndE c.1.1)])),())))))
def eq108(fu:Nat)(p:PS)(r:RS) x a:rnA fu p r false false fd108 [parK] [parK] ([]:LK) ([.st TI.node]:LK) x a=sh108 fu p.c54 p.c58 p.c72 p.c73 p.c80 r.c114 x a:=dO
def sh79(fu:Nat)(d:((db Str)×dc)->MM (dd×dc))(e:dc->MM (Nd×dc))(x:(dx×(NdsT×dc)))(a:dc):(da (da ((dx×(NdsT×dc))×dc))):=iter fu (λ(f:(dc×(dx×(NdsT×dc)))->da (da ((dx×(NdsT×dc))×dc)))(b:(dc×(dx×(NdsT×dc))))=>bo (d ([[42]],()) b.2.1.1 (b.2.1.2.1,b.2.1.2.2.1)) λg=>cond g.1.1 (bo (e () b.2.1.1 (g.2.1,g.2.2)) λj=>ck (b.2.2.1.1.length+(List.length [(ndE j.1.1)])) (iter fu (λ(h:(dc×(dx×(NdsT×dc)))->da (da ((dx×(NdsT×dc))×dc)))(c:(dc×(dx×(NdsT×dc))))=>bo (d ([[99,111,110,115,116],[118,111,108,97,116,105,108,101]],()) c.2.1.1 (c.2.1.2.1,c.2.1.2.2.1)) λi=>cond i.1.1 (bo (e () c.2.1.1 (i.2.1,i.2.2)) λy7=>ck (c.2.2.1.1.length+(List.length [(ndE y7.1.1)])) (h ((),((c.2.1.1,(y7.2.1,(y7.2.2,((),())))),(((c.2.2.1.1++[(ndE y7.1.1)]),()),()))))) (f ((),((c.2.1.1,(i.2.1,(i.2.2,((),())))),((c.2.2.1.1,()),()))))) ((),((b.2.1.1,(j.2.1,(j.2.2,((),())))),(((b.2.2.1.1++[(ndE j.1.1)]),()),()))))) (some (some (((b.2.1.1,(g.2.1,(g.2.2,((),())))),((b.2.2.1.1,()),())),())))) ((),((x.1.1,(x.1.2.1,(x.1.2.2.1,((),())))),((x.2.1.1,()),())))
def eq79(fu:Nat)(p:PS)(r:RS) x a:rnA fu p r false false fd79 [parK,ptsK] [parK,ptsK] ([]:LK) ([]:LK) x a=sh79 fu p.c54 p.c73 x a:=dO
def sh82(fu:Nat)(e:((db Str)×dc)->MM (dd×dc))(j:dc->MM (Nd×dc))(f:(Str×dc)->MM (Nd×dc))(k:dc->MM ((Nd×dc)×(da MT)))(g:dc->MM (Nd×dc))(x:(dx×(NdsT×dc)))(a:dc):(da (da ((dx×(NdsT×dc))×dc))):=iter fu (λ(d:(dc×(dx×(NdsT×dc)))->da (da ((dx×(NdsT×dc))×dc)))(b:(dc×(dx×(NdsT×dc))))=>bo (e ([[40],[91]],()) b.2.1.1 (b.2.1.2.1,b.2.1.2.2.1)) λh=>cond h.1.1 (bo (e ([[40]],()) b.2.1.1 (h.2.1,h.2.2)) λi=>cond i.1.1 (bo (k () b.2.1.1 (i.2.1,i.2.2)) λc=>ck (b.2.2.1.1.length+(List.length [(ndE c.1.1.1)])) (d ((),((b.2.1.1,(c.2.1,(c.2.2,((),())))),(((b.2.2.1.1++[(ndE c.1.1.1)]),()),()))))) (bo (j () b.2.1.1 (i.2.1,i.2.2)) λc=>let l:=List.length (b.2.2.1.1++[(ndE c.1.1)]);ck (b.2.2.1.1.length+(List.length [(ndE c.1.1)])) (bo (e ([[93]],()) b.2.1.1 (c.2.1,c.2.2)) λy7=>cond (!y7.1.1) (bo (g () b.2.1.1 (y7.2.1,y7.2.2)) λy9=>ck (l+(List.length [(ndE y9.1.1)])) (bo (f ([93],()) b.2.1.1 (y9.2.1,y9.2.2)) λy11=>ck ((List.length ((b.2.2.1.1++[(ndE c.1.1)])++[(ndE y9.1.1)]))+(List.length [(ndE y11.1.1)])) (d ((),((b.2.1.1,(y11.2.1,(y11.2.2,((),())))),(((((b.2.2.1.1++[(ndE c.1.1)])++[(ndE y9.1.1)])++[(ndE y11.1.1)]),()),())))))) (bo (f ([93],()) b.2.1.1 (y7.2.1,y7.2.2)) λy9=>ck (l+(List.length [(ndE y9.1.1)])) (d ((),((b.2.1.1,(y9.2.1,(y9.2.2,((),())))),((((b.2.2.1.1++[(ndE c.1.1)])++[(ndE y9.1.1)]),()),())))))))) (some (some (((b.2.1.1,(h.2.1,(h.2.2,((),())))),((b.2.2.1.1,()),())),())))) ((),((x.1.1,(x.1.2.1,(x.1.2.2.1,((),())))),((x.2.1.1,()),())))
def eq82(fu:Nat)(p:PS)(r:RS) x a:rnA fu p r false true fd82 [parK,ptsK] [parK,ptsK] ([]:LK) ([]:LK) x a=sh82 fu p.c54 p.c73 p.c78 r.c81 r.c111 x a:=dO
def sh56(fu:Nat)(g:((db Str)×dc)->MM (dd×dc))(j:dc->MM ((Nd×(Str×(dd×dc)))×(da (da MT))))(k:(Int×dc)->MM (Str×dc))(l:dc->MM (Nd×dc))(m:(Str×dc)->MM (Nd×dc))(n:dc->(db Nd)->MM (dc×(db Nd)))(o:dc->MM (Nd×dc))(p:dc->MM ((Nd×dc)×(da MT)))(f:dc->(db Nd)->MM (dc×(db Nd)))(x:(dx×dc))(a:dc):(da (da (((LT×(Int×((db MT)×((da (da MT))×dc))))×dc)×(Nd×(Str×(dd×dc)))))):=bo (n () [] x.1.1 (x.1.2.1,x.1.2.2.1)) λd=>bo (g ([[40]],()) x.1.1 (d.2.1,d.2.2)) λh=>cond (!h.1.1) (bo (k (0,()) x.1.1 (h.2.1,h.2.2)) λe=>bo (o () x.1.1 (e.2.1,e.2.2)) λy7=>let q:=List.length (d.1.2++[(ndE y7.1.1)]);ck (d.1.2.length+(List.length [(ndE y7.1.1)])) (zg (λ(b:((dd×((da MT)×dc))×(dx×(JT×(NdsT×dc))))->da (da (((LT×(Int×((db MT)×((da (da MT))×dc))))×dc)×(Nd×(Str×(dd×dc))))))=>bo (g ([[40]],()) x.1.1 (y7.2.1,y7.2.2)) λy9=>cond y9.1.1 (bo (p () x.1.1 (y9.2.1,y9.2.2)) λy11=>let r:=(x.1.1,(y11.2.1,(y11.2.2,((),()))));let i:=ndE y11.1.1.1;zX y11.1.2 (ck (q+(List.length [i])) (b ((true,(none,())),(r,((0,(0,([],()))),((((d.1.2++[(ndE y7.1.1)])++[i]),()),())))))) λy12=>ck (q+(List.length [i])) (b ((true,((some y12),())),(r,((0,(0,([],()))),((((d.1.2++[(ndE y7.1.1)])++[i]),()),())))))) (b ((false,(none,())),((x.1.1,(y9.2.1,(y9.2.2,((),())))),((0,(0,([],()))),(((d.1.2++[(ndE y7.1.1)]),()),())))))) (λ(c:((dd×((da MT)×dc))×(dx×(JT×(NdsT×dc)))))=>let s:=(c.2.1.2.1,c.2.1.2.2.1);zX c.1.2.1 (bo (f () c.2.2.2.1.1 c.2.1.1 s) λy9=>some (some (((c.2.1.1,(y9.2.1,(y9.2.2,((some none),())))),()),((ndE (Nd.mk 10 0 y9.1.2)),(e.1.1,(c.1.1,())))))) λy8=>bo (f () c.2.2.2.1.1 c.2.1.1 s) λy10=>some (some (((c.2.1.1,(y10.2.1,(y10.2.2,((some (some y8)),())))),()),((ndE (Nd.mk 10 0 y10.1.2)),(e.1.1,(c.1.1,())))))))) (bo (l () x.1.1 (h.2.1,h.2.2)) λe=>ck (d.1.2.length+(List.length [(ndE e.1.1)])) (bo (j () x.1.1 (e.2.1,e.2.2)) λy7=>bo (m ([41],()) x.1.1 (y7.2.1,y7.2.2)) λy9=>ck ((List.length (d.1.2++[(ndE e.1.1)]))+(List.length [(ndE y7.1.1.1),(ndE y9.1.1)])) (bo (f () ((d.1.2++[(ndE e.1.1)])++[(ndE y7.1.1.1),(ndE y9.1.1)]) x.1.1 (y9.2.1,y9.2.2)) λy11=>some (some (((x.1.1,(y11.2.1,(y11.2.2,(none,())))),()),((ndE (Nd.mk 10 0 y11.1.2)),(y7.1.1.2.1,(false,()))))))))
def eq56(fu:Nat)(p:PS)(r:RS) x a:rnA fu p r true false fd56 [parK] [parJ] ([]:LK) ([.st TI.node,.str,.bool]:LK) x a=sh56 fu p.c54 r.c56 p.c72 p.c73 p.c78 r.c79 p.c80 r.c81 r.c82 x a:=dO
def sh130(fu:Nat)(l:((db Str)×dc)->MM (dd×dc))(m:(Int×dc)->MM (Str×dc))(g:dc->MM (Nd×dc))(c76:(Int×dc)->MM (dd×dc))(h:(Str×dc)->MM (Nd×dc))(q:dc->(db Nd)->MM (dc×(db Nd)))(r:dc->(db Nd)->MM (dc×(db Nd)))(k:(Int×dc)->MM (dd×dc))(f:(dd×dc)->MM (Nd×(Str×(dd×dc))))(x:(dx×dc))(a:(dd×dc)):(da (da ((dx×dc)×(Nd×(Str×(dd×dc)))))):=bo (q () [] x.1.1 (x.1.2.1,x.1.2.2.1)) λe=>bo (m (1,()) x.1.1 (e.2.1,e.2.2)) λj=>zg (λ(c:((Str×dc)×(dx×(JT×(NdsT×dc))))->da (da ((dx×dc)×(Nd×(Str×(dd×dc))))))=>cond a.1 (bo (k (0,()) x.1.1 (j.2.1,j.2.2)) λi=>cond i.1.1 (bo (m (0,()) x.1.1 (i.2.1,i.2.2)) λy7=>bo (g () x.1.1 (y7.2.1,y7.2.2)) λy9=>ck (e.1.2.length+(List.length [(ndE y9.1.1)])) (c ((y7.1.1,()),((x.1.1,(y9.2.1,(y9.2.2,((),())))),((0,(0,([],()))),(((e.1.2++[(ndE y9.1.1)]),()),())))))) (bo (l ([[40]],()) x.1.1 (i.2.1,i.2.2)) λy7=>let s:=(x.1.1,(y7.2.1,(y7.2.2,((),()))));let o:=(y7.2.1,y7.2.2);cond y7.1.1 (cond (seq j.1.1 [42]) (bo (g () x.1.1 o) λy9=>ck (e.1.2.length+(List.length [(ndE y9.1.1)])) (bo (f (a.1,()) x.1.1 (y9.2.1,y9.2.2)) λy11=>let t:=(x.1.1,(y11.2.1,(y11.2.2,((),()))));zg (λ(b:(dc×(dx×(JT×(NdsT×dc))))->da (da ((dx×dc)×(Nd×(Str×(dd×dc))))))=>cond y11.1.2.2.1 (ck ((List.length (e.1.2++[(ndE y9.1.1)]))+(List.length [(ndE y11.1.1)])) (b ((),(t,((0,(0,([],()))),((((e.1.2++[(ndE y9.1.1)])++[(ndE y11.1.1)]),()),())))))) (b ((),(t,((0,(0,([],()))),(((e.1.2++[(ndE y9.1.1)]),()),())))))) (λ(d:(dc×(dx×(JT×(NdsT×dc)))))=>bo (h ([41],()) d.2.1.1 (d.2.1.2.1,d.2.1.2.2.1)) λy13=>ck (d.2.2.2.1.1.length+(List.length [(ndE y13.1.1)])) (c ((y11.1.2.1,()),((d.2.1.1,(y13.2.1,(y13.2.2,((),())))),(d.2.2.1,(((d.2.2.2.1.1++[(ndE y13.1.1)]),()),())))))))) (cond (seq j.1.1 [40]) (bo (g () x.1.1 o) λy9=>ck (e.1.2.length+(List.length [(ndE y9.1.1)])) (bo (f (a.1,()) x.1.1 (y9.2.1,y9.2.2)) λy11=>let u:=(x.1.1,(y11.2.1,(y11.2.2,((),()))));zg (λ(b:(dc×(dx×(JT×(NdsT×dc))))->da (da ((dx×dc)×(Nd×(Str×(dd×dc))))))=>cond y11.1.2.2.1 (ck ((List.length (e.1.2++[(ndE y9.1.1)]))+(List.length [(ndE y11.1.1)])) (b ((),(u,((0,(0,([],()))),((((e.1.2++[(ndE y9.1.1)])++[(ndE y11.1.1)]),()),())))))) (b ((),(u,((0,(0,([],()))),(((e.1.2++[(ndE y9.1.1)]),()),())))))) (λ(d:(dc×(dx×(JT×(NdsT×dc)))))=>bo (h ([41],()) d.2.1.1 (d.2.1.2.1,d.2.1.2.2.1)) λy13=>ck (d.2.2.2.1.1.length+(List.length [(ndE y13.1.1)])) (c ((y11.1.2.1,()),((d.2.1.1,(y13.2.1,(y13.2.2,((),())))),(d.2.2.1,(((d.2.2.2.1.1++[(ndE y13.1.1)]),()),())))))))) (cond (seq j.1.1 [91]) (bo (g () x.1.1 o) λy9=>ck (e.1.2.length+(List.length [(ndE y9.1.1)])) (bo (f (a.1,()) x.1.1 (y9.2.1,y9.2.2)) λy11=>let v:=(x.1.1,(y11.2.1,(y11.2.2,((),()))));zg (λ(b:(dc×(dx×(JT×(NdsT×dc))))->da (da ((dx×dc)×(Nd×(Str×(dd×dc))))))=>cond y11.1.2.2.1 (ck ((List.length (e.1.2++[(ndE y9.1.1)]))+(List.length [(ndE y11.1.1)])) (b ((),(v,((0,(0,([],()))),((((e.1.2++[(ndE y9.1.1)])++[(ndE y11.1.1)]),()),())))))) (b ((),(v,((0,(0,([],()))),(((e.1.2++[(ndE y9.1.1)]),()),())))))) (λ(d:(dc×(dx×(JT×(NdsT×dc)))))=>bo (h ([41],()) d.2.1.1 (d.2.1.2.1,d.2.1.2.2.1)) λy13=>ck (d.2.2.2.1.1.length+(List.length [(ndE y13.1.1)])) (c ((y11.1.2.1,()),((d.2.1.1,(y13.2.1,(y13.2.2,((),())))),(d.2.2.1,(((d.2.2.2.1.1++[(ndE y13.1.1)]),()),())))))))) (cond a.1 (bo (k (1,()) x.1.1 o) λy9=>cond y9.1.1 (bo (c76 (1,()) x.1.1 (y9.2.1,y9.2.2)) λy11=>cond (!y11.1.1) (bo (g () x.1.1 (y11.2.1,y11.2.2)) λy13=>ck (e.1.2.length+(List.length [(ndE y13.1.1)])) (bo (f (a.1,()) x.1.1 (y13.2.1,y13.2.2)) λy15=>let w:=(x.1.1,(y15.2.1,(y15.2.2,((),()))));zg (λ(b:(dc×(dx×(JT×(NdsT×dc))))->da (da ((dx×dc)×(Nd×(Str×(dd×dc))))))=>cond y15.1.2.2.1 (ck ((List.length (e.1.2++[(ndE y13.1.1)]))+(List.length [(ndE y15.1.1)])) (b ((),(w,((0,(0,([],()))),((((e.1.2++[(ndE y13.1.1)])++[(ndE y15.1.1)]),()),())))))) (b ((),(w,((0,(0,([],()))),(((e.1.2++[(ndE y13.1.1)]),()),())))))) (λ(d:(dc×(dx×(JT×(NdsT×dc)))))=>bo (h ([41],()) d.2.1.1 (d.2.1.2.1,d.2.1.2.2.1)) λy17=>ck (d.2.2.2.1.1.length+(List.length [(ndE y17.1.1)])) (c ((y15.1.2.1,()),((d.2.1.1,(y17.2.1,(y17.2.2,((),())))),(d.2.2.1,(((d.2.2.2.1.1++[(ndE y17.1.1)]),()),())))))))) (c (([],()),((x.1.1,(y11.2.1,(y11.2.2,((),())))),((0,(0,([],()))),((e.1.2,()),())))))) (c (([],()),((x.1.1,(y9.2.1,(y9.2.2,((),())))),((0,(0,([],()))),((e.1.2,()),())))))) (c (([],()),(s,((0,(0,([],()))),((e.1.2,()),()))))))))) (c (([],()),(s,((0,(0,([],()))),((e.1.2,()),()))))))) (bo (l ([[40]],()) x.1.1 (j.2.1,j.2.2)) λi=>let u11:=(x.1.1,(i.2.1,(i.2.2,((),()))));let p:=(i.2.1,i.2.2);cond i.1.1 (cond (seq j.1.1 [42]) (bo (g () x.1.1 p) λy7=>ck (e.1.2.length+(List.length [(ndE y7.1.1)])) (bo (f (a.1,()) x.1.1 (y7.2.1,y7.2.2)) λy9=>let y:=(x.1.1,(y9.2.1,(y9.2.2,((),()))));zg (λ(b:(dc×(dx×(JT×(NdsT×dc))))->da (da ((dx×dc)×(Nd×(Str×(dd×dc))))))=>cond y9.1.2.2.1 (ck ((List.length (e.1.2++[(ndE y7.1.1)]))+(List.length [(ndE y9.1.1)])) (b ((),(y,((0,(0,([],()))),((((e.1.2++[(ndE y7.1.1)])++[(ndE y9.1.1)]),()),())))))) (b ((),(y,((0,(0,([],()))),(((e.1.2++[(ndE y7.1.1)]),()),())))))) (λ(d:(dc×(dx×(JT×(NdsT×dc)))))=>bo (h ([41],()) d.2.1.1 (d.2.1.2.1,d.2.1.2.2.1)) λy11=>ck (d.2.2.2.1.1.length+(List.length [(ndE y11.1.1)])) (c ((y9.1.2.1,()),((d.2.1.1,(y11.2.1,(y11.2.2,((),())))),(d.2.2.1,(((d.2.2.2.1.1++[(ndE y11.1.1)]),()),())))))))) (cond (seq j.1.1 [40]) (bo (g () x.1.1 p) λy7=>ck (e.1.2.length+(List.length [(ndE y7.1.1)])) (bo (f (a.1,()) x.1.1 (y7.2.1,y7.2.2)) λy9=>let u9:=(x.1.1,(y9.2.1,(y9.2.2,((),()))));zg (λ(b:(dc×(dx×(JT×(NdsT×dc))))->da (da ((dx×dc)×(Nd×(Str×(dd×dc))))))=>cond y9.1.2.2.1 (ck ((List.length (e.1.2++[(ndE y7.1.1)]))+(List.length [(ndE y9.1.1)])) (b ((),(u9,((0,(0,([],()))),((((e.1.2++[(ndE y7.1.1)])++[(ndE y9.1.1)]),()),())))))) (b ((),(u9,((0,(0,([],()))),(((e.1.2++[(ndE y7.1.1)]),()),())))))) (λ(d:(dc×(dx×(JT×(NdsT×dc)))))=>bo (h ([41],()) d.2.1.1 (d.2.1.2.1,d.2.1.2.2.1)) λy11=>ck (d.2.2.2.1.1.length+(List.length [(ndE y11.1.1)])) (c ((y9.1.2.1,()),((d.2.1.1,(y11.2.1,(y11.2.2,((),())))),(d.2.2.1,(((d.2.2.2.1.1++[(ndE y11.1.1)]),()),())))))))) (cond (seq j.1.1 [91]) (bo (g () x.1.1 p) λy7=>ck (e.1.2.length+(List.length [(ndE y7.1.1)])) (bo (f (a.1,()) x.1.1 (y7.2.1,y7.2.2)) λy9=>let n:=(x.1.1,(y9.2.1,(y9.2.2,((),()))));zg (λ(b:(dc×(dx×(JT×(NdsT×dc))))->da (da ((dx×dc)×(Nd×(Str×(dd×dc))))))=>cond y9.1.2.2.1 (ck ((List.length (e.1.2++[(ndE y7.1.1)]))+(List.length [(ndE y9.1.1)])) (b ((),(n,((0,(0,([],()))),((((e.1.2++[(ndE y7.1.1)])++[(ndE y9.1.1)]),()),())))))) (b ((),(n,((0,(0,([],()))),(((e.1.2++[(ndE y7.1.1)]),()),())))))) (λ(d:(dc×(dx×(JT×(NdsT×dc)))))=>bo (h ([41],()) d.2.1.1 (d.2.1.2.1,d.2.1.2.2.1)) λy11=>ck (d.2.2.2.1.1.length+(List.length [(ndE y11.1.1)])) (c ((y9.1.2.1,()),((d.2.1.1,(y11.2.1,(y11.2.2,((),())))),(d.2.2.1,(((d.2.2.2.1.1++[(ndE y11.1.1)]),()),())))))))) (cond a.1 (bo (k (1,()) x.1.1 p) λy7=>cond y7.1.1 (bo (c76 (1,()) x.1.1 (y7.2.1,y7.2.2)) λy9=>cond (!y9.1.1) (bo (g () x.1.1 (y9.2.1,y9.2.2)) λy11=>ck (e.1.2.length+(List.length [(ndE y11.1.1)])) (bo (f (a.1,()) x.1.1 (y11.2.1,y11.2.2)) λy13=>let z:=(x.1.1,(y13.2.1,(y13.2.2,((),()))));zg (λ(b:(dc×(dx×(JT×(NdsT×dc))))->da (da ((dx×dc)×(Nd×(Str×(dd×dc))))))=>cond y13.1.2.2.1 (ck ((List.length (e.1.2++[(ndE y11.1.1)]))+(List.length [(ndE y13.1.1)])) (b ((),(z,((0,(0,([],()))),((((e.1.2++[(ndE y11.1.1)])++[(ndE y13.1.1)]),()),())))))) (b ((),(z,((0,(0,([],()))),(((e.1.2++[(ndE y11.1.1)]),()),())))))) (λ(d:(dc×(dx×(JT×(NdsT×dc)))))=>bo (h ([41],()) d.2.1.1 (d.2.1.2.1,d.2.1.2.2.1)) λy15=>ck (d.2.2.2.1.1.length+(List.length [(ndE y15.1.1)])) (c ((y13.1.2.1,()),((d.2.1.1,(y15.2.1,(y15.2.2,((),())))),(d.2.2.1,(((d.2.2.2.1.1++[(ndE y15.1.1)]),()),())))))))) (c (([],()),((x.1.1,(y9.2.1,(y9.2.2,((),())))),((0,(0,([],()))),((e.1.2,()),())))))) (c (([],()),((x.1.1,(y7.2.1,(y7.2.2,((),())))),((0,(0,([],()))),((e.1.2,()),())))))) (c (([],()),(u11,((0,(0,([],()))),((e.1.2,()),()))))))))) (c (([],()),(u11,((0,(0,([],()))),((e.1.2,()),()))))))) (λ(d:((Str×dc)×(dx×(JT×(NdsT×dc)))))=>bo (r () d.2.2.2.1.1 d.2.1.1 (d.2.1.2.1,d.2.1.2.2.1)) λi=>some (some (((d.2.1.1,(i.2.1,(i.2.2,((),())))),()),((ndE (Nd.mk 10 0 i.1.2)),(d.1.1,((ilt 0 (lenI i.1.2)),()))))))
def eq130(fu:Nat)(p:PS)(r:RS) x a:rnA fu p r false false fd130 [parK] [parK] ([.bool]:LK) ([.st TI.node,.str,.bool]:LK) x a=sh130 fu p.c54 p.c72 p.c73 p.c76 p.c78 r.c79 r.c82 p.c85 r.c130 x a:=dO
def sh81(fu:Nat)(c:((db Str)×dc)->MM (dd×dc))(c59:((da MT)×dc)->MM dc)(c61:dc->MM ((da MT)×dc))(g:dc->MM (Nd×dc))(f:(Str×dc)->MM (Nd×dc))(d:dc->MM (Nd×dc))(x:(dx×dc))(a:dc):(da (da ((zD4×dc)×(Nd×dc)))):=bo (f ([40],()) x.1.1 (x.1.2.1,x.1.2.2.1)) λh=>ck (List.length [(ndE h.1.1)]) (bo (c59 ((some []),()) x.1.1 (h.2.1,h.2.2)) λk=>bo (c ([[41]],()) x.1.1 (k.2.1,k.2.2)) λi=>iter fu (λ(e:((dd×dc)×(dx×(JT×(NdsT×dc))))->da (da ((zD4×dc)×(Nd×dc))))(b:((dd×dc)×(dx×(JT×(NdsT×dc)))))=>let j:=(b.2.1.2.1,b.2.1.2.2.1);cond b.1.1 (cond (ilt 1 (lenI b.2.2.2.1.1)) (bo (g () b.2.1.1 j) λy7=>let l:=List.length (b.2.2.2.1.1++[(ndE y7.1.1)]);ck (b.2.2.2.1.1.length+(List.length [(ndE y7.1.1)])) (bo (c ([[46,46,46]],()) b.2.1.1 (y7.2.1,y7.2.2)) λy9=>cond y9.1.1 (bo (g () b.2.1.1 (y9.2.1,y9.2.2)) λy11=>ck (l+(List.length [(ndE y11.1.1)])) (bo (f ([41],()) b.2.1.1 (y11.2.1,y11.2.2)) λy13=>let m:=ndE (Nd.mk 11 0 (((b.2.2.2.1.1++[(ndE y7.1.1)])++[(ndE y11.1.1)])++[(ndE y13.1.1)]));ck ((List.length ((b.2.2.2.1.1++[(ndE y7.1.1)])++[(ndE y11.1.1)]))+(List.length [(ndE y13.1.1)])) (bo (c61 () b.2.1.1 (y13.2.1,y13.2.2)) λy15=>zX y15.1.1 (some (some (((b.2.1.1,(y15.2.1,(y15.2.2,(none,())))),()),(m,())))) λy16=>some (some (((b.2.1.1,(y15.2.1,(y15.2.2,((some y16),())))),()),(m,())))))) (bo (d () b.2.1.1 (y9.2.1,y9.2.2)) λy11=>ck (l+(List.length [(ndE y11.1.1)])) (bo (c ([[44]],()) b.2.1.1 (y11.2.1,y11.2.2)) λy13=>e ((y13.1.1,()),((b.2.1.1,(y13.2.1,(y13.2.2,((),())))),(b.2.2.1,((((b.2.2.2.1.1++[(ndE y7.1.1)])++[(ndE y11.1.1)]),()),())))))))) (bo (d () b.2.1.1 j) λy7=>ck (b.2.2.2.1.1.length+(List.length [(ndE y7.1.1)])) (bo (c ([[44]],()) b.2.1.1 (y7.2.1,y7.2.2)) λy9=>e ((y9.1.1,()),((b.2.1.1,(y9.2.1,(y9.2.2,((),())))),(b.2.2.1,(((b.2.2.2.1.1++[(ndE y7.1.1)]),()),()))))))) (bo (f ([41],()) b.2.1.1 j) λy7=>let n:=ndE (Nd.mk 11 0 (b.2.2.2.1.1++[(ndE y7.1.1)]));ck (b.2.2.2.1.1.length+(List.length [(ndE y7.1.1)])) (bo (c61 () b.2.1.1 (y7.2.1,y7.2.2)) λy9=>zX y9.1.1 (some (some (((b.2.1.1,(y9.2.1,(y9.2.2,(none,())))),()),(n,())))) λy10=>some (some (((b.2.1.1,(y9.2.1,(y9.2.2,((some y10),())))),()),(n,())))))) (((!i.1.1),()),((x.1.1,(i.2.1,(i.2.2,((),())))),((0,(0,([],()))),(([(ndE h.1.1)],()),())))))
def eq81(fu:Nat)(p:PS)(r:RS) x a:rnA fu p r false false fd81 [parK] [parL] ([]:LK) ([.st TI.node]:LK) x a=sh81 fu p.c54 p.c59 p.c61 p.c73 p.c78 r.c110 x a:=dO
def sh110(fu:Nat)(g:dc->MM (Nd×(dd×dc)))(c58:(Str×(dd×dc))->MM dc)(e:(dd×dc)->MM (Nd×(Str×(dd×dc))))(x:(dx×dc))(a:dc):(da (da ((dx×dc)×(Nd×dc)))):=bo (g () x.1.1 (x.1.2.1,x.1.2.2.1)) λc=>let h:=List.length [(ndE c.1.1)];ck h (bo (e (true,()) x.1.1 (c.2.1,c.2.2)) λd=>let i:=(x.1.1,(d.2.1,(d.2.2,((),()))));zg (λ(b:(dc×(dx×(JT×(NdsT×dc))))->da (da ((dx×dc)×(Nd×dc))))=>cond d.1.2.2.1 (ck (h+(List.length [(ndE d.1.1)])) (b ((),(i,((0,(0,([],()))),((([(ndE c.1.1)]++[(ndE d.1.1)]),()),())))))) (b ((),(i,((0,(0,([],()))),(([(ndE c.1.1)],()),())))))) (λ(f:(dc×(dx×(JT×(NdsT×dc)))))=>bo (c58 (d.1.2.1,(c.1.2.1,())) f.2.1.1 (f.2.1.2.1,f.2.1.2.2.1)) λj=>some (some (((f.2.1.1,(j.2.1,(j.2.2,((),())))),()),((ndE (Nd.mk 12 0 f.2.2.2.1.1)),())))))
def eq110(fu:Nat)(p:PS)(r:RS) x a:rnA fu p r false false fd110 [parK] [parK] ([]:LK) ([.st TI.node]:LK) x a=sh110 fu r.c53 p.c58 r.c130 x a:=dO
def sh151(fu:Nat)(e:dc->MM (Nd×(dd×dc)))(b:(dd×dc)->MM (Nd×(Str×(dd×dc))))(x:(dx×dc))(a:dc):(da (da ((dx×dc)×(Nd×dc)))):=bo (e () x.1.1 (x.1.2.1,x.1.2.2.1)) λc=>let f:=List.length [(ndE c.1.1)];ck f (bo (b (false,()) x.1.1 (c.2.1,c.2.2)) λd=>let g:=(x.1.1,(d.2.1,(d.2.2,((),()))));cond d.1.2.2.1 (ck (f+(List.length [(ndE d.1.1)])) (some (some ((g,()),((ndE (Nd.mk 14 0 ([(ndE c.1.1)]++[(ndE d.1.1)]))),()))))) (some (some ((g,()),((ndE (Nd.mk 14 0 [(ndE c.1.1)])),())))))
def eq151(fu:Nat)(p:PS)(r:RS) x a:rnA fu p r false false fd151 [parK] [parK] ([]:LK) ([.st TI.node]:LK) x a=sh151 fu r.c53 r.c130 x a:=dO
def sh83(fu:Nat)(d:((db Str)×dc)->MM (dd×dc))(e:dc->MM (Nd×dc))(f:(Str×dc)->MM (Nd×dc))(k:dc->MM (Nd×dc))(g:dc->MM (Nd×dc))(x:(dx×dc))(a:dc):(da (da ((dx×dc)×(Nd×dc)))):=bo (d ([[123]],()) x.1.1 (x.1.2.1,x.1.2.2.1)) λh=>cond (!h.1.1) (bo (g () x.1.1 (h.2.1,h.2.2)) λc=>some (some (((x.1.1,(c.2.1,(c.2.2,((),())))),()),((ndE c.1.1),())))) (bo (e () x.1.1 (h.2.1,h.2.2)) λc=>ck (List.length [(ndE c.1.1)]) (iter fu (λ(i:(dc×(dx×(JT×(NdsT×dc))))->da (da ((dx×dc)×(Nd×dc))))(b:(dc×(dx×(JT×(NdsT×dc)))))=>bo (d ([[125]],()) b.2.1.1 (b.2.1.2.1,b.2.1.2.2.1)) λj=>cond (!j.1.1) (bo (k () b.2.1.1 (j.2.1,j.2.2)) λy7=>let l:=List.length (b.2.2.2.1.1++[(ndE y7.1.1)]);ck (b.2.2.2.1.1.length+(List.length [(ndE y7.1.1)])) (bo (d ([[44]],()) b.2.1.1 (y7.2.1,y7.2.2)) λy9=>cond (!y9.1.1) (bo (f ([125],()) b.2.1.1 (y9.2.1,y9.2.2)) λy11=>ck (l+(List.length [(ndE y11.1.1)])) (some (some (((b.2.1.1,(y11.2.1,(y11.2.2,((),())))),()),((ndE (Nd.mk 13 0 ((b.2.2.2.1.1++[(ndE y7.1.1)])++[(ndE y11.1.1)]))),()))))) (bo (e () b.2.1.1 (y9.2.1,y9.2.2)) λy11=>ck (l+(List.length [(ndE y11.1.1)])) (i ((),((b.2.1.1,(y11.2.1,(y11.2.2,((),())))),(b.2.2.1,((((b.2.2.2.1.1++[(ndE y7.1.1)])++[(ndE y11.1.1)]),()),())))))))) (bo (f ([125],()) b.2.1.1 (j.2.1,j.2.2)) λy7=>ck (b.2.2.2.1.1.length+(List.length [(ndE y7.1.1)])) (some (some (((b.2.1.1,(y7.2.1,(y7.2.2,((),())))),()),((ndE (Nd.mk 13 0 (b.2.2.2.1.1++[(ndE y7.1.1)]))),())))))) ((),((x.1.1,(c.2.1,(c.2.2,((),())))),((0,(0,([],()))),(([(ndE c.1.1)],()),()))))))
def eq83(fu:Nat)(p:PS)(r:RS) x a:rnA fu p r false false fd83 [parK] [parK] ([]:LK) ([.st TI.node]:LK) x a=sh83 fu p.c54 p.c73 p.c78 r.c83 r.c111 x a:=dO
def sh57(fu:Nat)(d:((db Str)×dc)->MM (dd×dc))(c58:(Str×(dd×dc))->MM dc)(e:dc->MM (Nd×dc))(f:dc->MM (Nd×dc))(x:(dx×dc))(a:(Nd×(Str×(dd×dc)))):(da (da ((dx×dc)×(Nd×dc)))) :=  let g:=List.length [(ndE a.1)];ck g (bo (c58 (a.2.1,(a.2.2.1,())) x.1.1 (x.1.2.1,x.1.2.2.1)) λh=>bo (d ([[61]],()) x.1.1 (h.2.1,h.2.2)) λb=>cond b.1.1 (bo (e () x.1.1 (b.2.1,b.2.2)) λc=>bo (f () x.1.1 (c.2.1,c.2.2)) λy7=>ck (g+(List.length [(ndE c.1.1),(ndE y7.1.1)])) (some (some (((x.1.1,(y7.2.1,(y7.2.2,((),())))),()),((ndE (Nd.mk 9 0 ([(ndE a.1)]++[(ndE c.1.1),(ndE y7.1.1)]))),()))))) (some (some (((x.1.1,(b.2.1,(b.2.2,((),())))),()),((ndE (Nd.mk 9 0 [(ndE a.1)])),())))))
def eq57(fu:Nat)(p:PS)(r:RS) x a:rnA fu p r false false fd57 [parK] [parK] ([.st TI.node,.str,.bool]:LK) ([.st TI.node]:LK) x a=sh57 fu p.c54 p.c58 p.c73 r.c83 x a:=dO
def sh55(fu:Nat)(g:((db Str)×dc)->MM (dd×dc))(h:dc->MM ((Nd×(Str×(dd×dc)))×(da (da MT))))(i:(Nd×(Str×(dd×dc)))->MM (Nd×dc))(j:dc->MM (Nd×dc))(k:(Str×dc)->MM (Nd×dc))(x:(dx×dc))(a:(NdsT×(dd×dc))):(da (da ((dx×dc)×(Nd×dc)))):=iter fu (λ(d:(dc×(dx×(NdsT×(JT×dc))))->da (da ((dx×dc)×(Nd×dc))))(b:(dc×(dx×(NdsT×(JT×dc)))))=>bo (g ([[44]],()) b.2.1.1 (b.2.1.2.1,b.2.1.2.2.1)) λe=>cond e.1.1 (bo (j () b.2.1.1 (e.2.1,e.2.2)) λc=>ck (b.2.2.1.1.length+(List.length [(ndE c.1.1)])) (bo (h () b.2.1.1 (c.2.1,c.2.2)) λf=>bo (i ((ndE f.1.1.1),(f.1.1.2.1,(a.2.1,()))) b.2.1.1 (f.2.1,f.2.2)) λy7=>ck ((List.length (b.2.2.1.1++[(ndE c.1.1)]))+(List.length [(ndE y7.1.1)])) (d ((),((b.2.1.1,(y7.2.1,(y7.2.2,((),())))),((((b.2.2.1.1++[(ndE c.1.1)])++[(ndE y7.1.1)]),()),(b.2.2.2.1,()))))))) (bo (k ([59],()) b.2.1.1 (e.2.1,e.2.2)) λc=>ck (b.2.2.1.1.length+(List.length [(ndE c.1.1)])) (some (some (((b.2.1.1,(c.2.1,(c.2.2,((),())))),()),((ndE (Nd.mk 3 0 (b.2.2.1.1++[(ndE c.1.1)]))),())))))) ((),((x.1.1,(x.1.2.1,(x.1.2.2.1,((),())))),((a.1.1,()),((0,(0,([],()))),()))))
def eq55(fu:Nat)(p:PS)(r:RS) x a:rnA fu p r true false fd55 [parK] [parK] ([.ag [.ow true TI.node],.bool]:LK) ([.st TI.node]:LK) x a=sh55 fu p.c54 r.c56 r.c57 p.c73 p.c78 x a:=dO
def sh37(fu:Nat)(n:dc->MM (Nd×(dd×dc)))(k:((db Str)×dc)->MM (dd×dc))(b:(NdsT×(dd×dc))->MM (Nd×dc))(o:dc->MM ((Nd×(Str×(dd×dc)))×(da (da MT))))(c:(Nd×(Str×(dd×dc)))->MM (Nd×dc))(c58:(Str×(dd×dc))->MM dc)(c59:((da MT)×dc)->MM dc)(l:dc->MM (Nd×dc))(c61:dc->MM ((da MT)×dc))(x:(dx×dc))(a:(dd×dc)):(da (da ((dx×dc)×(Nd×dc)))):=bo (n () x.1.1 (x.1.2.1,x.1.2.2.1)) λd=>let g:=(d.1.2.1,());let f:=List.length [(ndE d.1.1)];ck f (bo (k ([[59]],()) x.1.1 (d.2.1,d.2.2)) λm=>cond m.1.1 (bo (b (([(ndE d.1.1)],()),g) x.1.1 (m.2.1,m.2.2)) λh=>some (some (((x.1.1,(h.2.1,(h.2.2,((),())))),()),((ndE h.1.1),())))) (bo (o () x.1.1 (m.2.1,m.2.2)) λh=>let p:=(h.1.1.2.1,(false,()));let i:=(h.2.1,h.2.2);let e:=ndE h.1.1.1;let j:=(h.1.1.2.1,g);zX h.1.2 (cond (!a.1) (bo (c (e,j) x.1.1 i) λy7=>ck (f+(List.length [(ndE y7.1.1)])) (bo (b ((([(ndE d.1.1)]++[(ndE y7.1.1)]),()),g) x.1.1 (y7.2.1,y7.2.2)) λy9=>some (some (((x.1.1,(y9.2.1,(y9.2.2,((),())))),()),((ndE y9.1.1),()))))) (cond (!h.1.1.2.2.1) (bo (c (e,j) x.1.1 i) λy7=>ck (f+(List.length [(ndE y7.1.1)])) (bo (b ((([(ndE d.1.1)]++[(ndE y7.1.1)]),()),g) x.1.1 (y7.2.1,y7.2.2)) λy9=>some (some (((x.1.1,(y9.2.1,(y9.2.2,((),())))),()),((ndE y9.1.1),()))))) (cond d.1.2.1 (bo (c (e,j) x.1.1 i) λy7=>ck (f+(List.length [(ndE y7.1.1)])) (bo (b ((([(ndE d.1.1)]++[(ndE y7.1.1)]),()),g) x.1.1 (y7.2.1,y7.2.2)) λy9=>some (some (((x.1.1,(y9.2.1,(y9.2.2,((),())))),()),((ndE y9.1.1),()))))) (bo (k ([[123]],()) x.1.1 i) λy7=>cond (!y7.1.1) (bo (c (e,j) x.1.1 (y7.2.1,y7.2.2)) λy9=>ck (f+(List.length [(ndE y9.1.1)])) (bo (b ((([(ndE d.1.1)]++[(ndE y9.1.1)]),()),g) x.1.1 (y9.2.1,y9.2.2)) λy11=>some (some (((x.1.1,(y11.2.1,(y11.2.2,((),())))),()),((ndE y11.1.1),()))))) (bo (c58 p x.1.1 (y7.2.1,y7.2.2)) λy9=>none))))) λt=>zX t (cond (!a.1) (bo (c (e,j) x.1.1 i) λy8=>ck (f+(List.length [(ndE y8.1.1)])) (bo (b ((([(ndE d.1.1)]++[(ndE y8.1.1)]),()),g) x.1.1 (y8.2.1,y8.2.2)) λy10=>some (some (((x.1.1,(y10.2.1,(y10.2.2,((),())))),()),((ndE y10.1.1),()))))) (cond (!h.1.1.2.2.1) (bo (c (e,j) x.1.1 i) λy8=>ck (f+(List.length [(ndE y8.1.1)])) (bo (b ((([(ndE d.1.1)]++[(ndE y8.1.1)]),()),g) x.1.1 (y8.2.1,y8.2.2)) λy10=>some (some (((x.1.1,(y10.2.1,(y10.2.2,((),())))),()),((ndE y10.1.1),()))))) (cond d.1.2.1 (bo (c (e,j) x.1.1 i) λy8=>ck (f+(List.length [(ndE y8.1.1)])) (bo (b ((([(ndE d.1.1)]++[(ndE y8.1.1)]),()),g) x.1.1 (y8.2.1,y8.2.2)) λy10=>some (some (((x.1.1,(y10.2.1,(y10.2.2,((),())))),()),((ndE y10.1.1),()))))) (bo (k ([[123]],()) x.1.1 i) λy8=>cond (!y8.1.1) (bo (c (e,j) x.1.1 (y8.2.1,y8.2.2)) λy10=>ck (f+(List.length [(ndE y10.1.1)])) (bo (b ((([(ndE d.1.1)]++[(ndE y10.1.1)]),()),g) x.1.1 (y10.2.1,y10.2.2)) λy12=>some (some (((x.1.1,(y12.2.1,(y12.2.2,((),())))),()),((ndE y12.1.1),()))))) (bo (c58 p x.1.1 (y8.2.1,y8.2.2)) λy10=>bo (c59 (none,()) x.1.1 (y10.2.1,y10.2.2)) λy12=>bo (l () x.1.1 (y12.2.1,y12.2.2)) λy14=>let q:=ndE (Nd.mk 2 0 ([(ndE d.1.1)]++[e,(ndE y14.1.1)]));ck (f+(List.length [e,(ndE y14.1.1)])) (bo (c61 () x.1.1 (y14.2.1,y14.2.2)) λy16=>let r:=(x.1.1,(y16.2.1,(y16.2.2,((),()))));zX y16.1.1 (some (some ((r,()),(q,())))) λy17=>some (some ((r,()),(q,()))))))))) λy7=>cond (!a.1) (bo (c (e,j) x.1.1 i) λy9=>ck (f+(List.length [(ndE y9.1.1)])) (bo (b ((([(ndE d.1.1)]++[(ndE y9.1.1)]),()),g) x.1.1 (y9.2.1,y9.2.2)) λy11=>some (some (((x.1.1,(y11.2.1,(y11.2.2,((),())))),()),((ndE y11.1.1),()))))) (cond (!h.1.1.2.2.1) (bo (c (e,j) x.1.1 i) λy9=>ck (f+(List.length [(ndE y9.1.1)])) (bo (b ((([(ndE d.1.1)]++[(ndE y9.1.1)]),()),g) x.1.1 (y9.2.1,y9.2.2)) λy11=>some (some (((x.1.1,(y11.2.1,(y11.2.2,((),())))),()),((ndE y11.1.1),()))))) (cond d.1.2.1 (bo (c (e,j) x.1.1 i) λy9=>ck (f+(List.length [(ndE y9.1.1)])) (bo (b ((([(ndE d.1.1)]++[(ndE y9.1.1)]),()),g) x.1.1 (y9.2.1,y9.2.2)) λy11=>some (some (((x.1.1,(y11.2.1,(y11.2.2,((),())))),()),((ndE y11.1.1),()))))) (bo (k ([[123]],()) x.1.1 i) λy9=>cond (!y9.1.1) (bo (c (e,j) x.1.1 (y9.2.1,y9.2.2)) λy11=>ck (f+(List.length [(ndE y11.1.1)])) (bo (b ((([(ndE d.1.1)]++[(ndE y11.1.1)]),()),g) x.1.1 (y11.2.1,y11.2.2)) λy13=>some (some (((x.1.1,(y13.2.1,(y13.2.2,((),())))),()),((ndE y13.1.1),()))))) (bo (c58 p x.1.1 (y9.2.1,y9.2.2)) λy11=>bo (c59 ((some y7),()) x.1.1 (y11.2.1,y11.2.2)) λy13=>bo (l () x.1.1 (y13.2.1,y13.2.2)) λy15=>let s:=ndE (Nd.mk 2 0 ([(ndE d.1.1)]++[e,(ndE y15.1.1)]));ck (f+(List.length [e,(ndE y15.1.1)])) (bo (c61 () x.1.1 (y15.2.1,y15.2.2)) λy17=>let u9:=(x.1.1,(y17.2.1,(y17.2.2,((),()))));zX y17.1.1 (some (some ((u9,()),(s,())))) λy18=>some (some ((u9,()),(s,()))))))))))
def eq37(fu:Nat)(p:PS)(r:RS) x a:rnA fu p r false false fd37 [parK] [parK] ([.bool]:LK) ([.st TI.node]:LK) x a=sh37 fu r.c53 p.c54 r.c55 r.c56 r.c57 p.c58 p.c59 r.c60 p.c61 x a:=dO
def sh60(fu:Nat)(e:(dd×dc)->MM (Nd×dc))(i:((db Str)×dc)->MM (dd×dc))(j:(Int×dc)->MM (Str×dc))(k:dc->MM (Nd×dc))(l:(Str×dc)->MM (Nd×dc))(m:(Int×dc)->MM (dd×dc))(n:(Int×dc)->MM (dd×dc))(f:dc->MM (Nd×dc))(x:(dx×dc))(a:dc):(da (da ((dx×dc)×(Nd×dc)))):=bo (l ([123],()) x.1.1 (x.1.2.1,x.1.2.2.1)) λh=>ck (List.length [(ndE h.1.1)]) (iter fu (λ(c:(dc×(dx×(JT×(NdsT×dc))))->da (da ((dx×dc)×(Nd×dc))))(b:(dc×(dx×(JT×(NdsT×dc)))))=>bo (i ([[125]],()) b.2.1.1 (b.2.1.2.1,b.2.1.2.2.1)) λg=>cond (!g.1.1) (bo (m (0,()) b.2.1.1 (g.2.1,g.2.2)) λd=>cond d.1.1 (bo (n (0,()) b.2.1.1 (d.2.1,d.2.2)) λy7=>cond y7.1.1 (bo (j (1,()) b.2.1.1 (y7.2.1,y7.2.2)) λy9=>cond (!(seq y9.1.1 [58])) (bo (e (false,()) b.2.1.1 (y9.2.1,y9.2.2)) λy11=>ck (b.2.2.2.1.1.length+(List.length [(ndE y11.1.1)])) (c ((),((b.2.1.1,(y11.2.1,(y11.2.2,((),())))),(b.2.2.1,(((b.2.2.2.1.1++[(ndE y11.1.1)]),()),())))))) (bo (f () b.2.1.1 (y9.2.1,y9.2.2)) λy11=>ck (b.2.2.2.1.1.length+(List.length [(ndE y11.1.1)])) (c ((),((b.2.1.1,(y11.2.1,(y11.2.2,((),())))),(b.2.2.1,(((b.2.2.2.1.1++[(ndE y11.1.1)]),()),()))))))) (bo (e (false,()) b.2.1.1 (y7.2.1,y7.2.2)) λy9=>ck (b.2.2.2.1.1.length+(List.length [(ndE y9.1.1)])) (c ((),((b.2.1.1,(y9.2.1,(y9.2.2,((),())))),(b.2.2.1,(((b.2.2.2.1.1++[(ndE y9.1.1)]),()),()))))))) (bo (f () b.2.1.1 (d.2.1,d.2.2)) λy7=>ck (b.2.2.2.1.1.length+(List.length [(ndE y7.1.1)])) (c ((),((b.2.1.1,(y7.2.1,(y7.2.2,((),())))),(b.2.2.1,(((b.2.2.2.1.1++[(ndE y7.1.1)]),()),()))))))) (bo (k () b.2.1.1 (g.2.1,g.2.2)) λd=>ck (b.2.2.2.1.1.length+(List.length [(ndE d.1.1)])) (some (some (((b.2.1.1,(d.2.1,(d.2.2,((),())))),()),((ndE (Nd.mk 20 0 (b.2.2.2.1.1++[(ndE d.1.1)]))),())))))) ((),((x.1.1,(h.2.1,(h.2.2,((),())))),((0,(0,([],()))),(([(ndE h.1.1)],()),())))))
def eq60(fu:Nat)(p:PS)(r:RS) x a:rnA fu p r false false fd60 [parK] [parK] ([]:LK) ([.st TI.node]:LK) x a=sh60 fu r.c37 p.c54 p.c72 p.c73 p.c78 p.c84 p.c85 r.c86 x a:=dO
def sh116(fu:Nat)(g:(dd×dc)->MM (Nd×dc))(c59:((da MT)×dc)->MM dc)(c61:dc->MM ((da MT)×dc))(h:(Str×dc)->MM (Nd×dc))(i:(Int×dc)->MM (dd×dc))(j:dc->MM (Nd×dc))(b:(Str×dc)->(db Nd)->MM (dc×(db Nd)))(x:(dx×dc))(a:(NdsT×dc)):(da (da ((dx×dc)×(Nd×dc)))):=bo (c59 ((some []),()) x.1.1 (x.1.2.1,x.1.2.2.1)) λk=>bo (h ([40],()) x.1.1 (k.2.1,k.2.2)) λf=>ck (a.1.1.length+(List.length [(ndE f.1.1)])) (zg (λ(c:(dc×(dx×(NdsT×(JT×dc))))->da (da ((dx×dc)×(Nd×dc))))=>bo (i (0,()) x.1.1 (f.2.1,f.2.2)) λd=>cond d.1.1 (bo (g (false,()) x.1.1 (d.2.1,d.2.2)) λy7=>ck ((List.length (a.1.1++[(ndE f.1.1)]))+(List.length [(ndE y7.1.1)])) (c ((),((x.1.1,(y7.2.1,(y7.2.2,((),())))),((((a.1.1++[(ndE f.1.1)])++[(ndE y7.1.1)]),()),((0,(0,([],()))),())))))) (bo (b ([59],()) (a.1.1++[(ndE f.1.1)]) x.1.1 (d.2.1,d.2.2)) λy7=>c ((),((x.1.1,(y7.2.1,(y7.2.2,((),())))),((y7.1.2,()),((0,(0,([],()))),())))))) (λ(e:(dc×(dx×(NdsT×(JT×dc)))))=>bo (b ([59],()) e.2.2.1.1 e.2.1.1 (e.2.1.2.1,e.2.1.2.2.1)) λd=>bo (b ([41],()) d.1.2 e.2.1.1 (d.2.1,d.2.2)) λy7=>bo (j () e.2.1.1 (y7.2.1,y7.2.2)) λy9=>let l:=ndE (Nd.mk 25 0 (y7.1.2++[(ndE y9.1.1)]));ck (y7.1.2.length+(List.length [(ndE y9.1.1)])) (bo (c61 () e.2.1.1 (y9.2.1,y9.2.2)) λy11=>let m:=(e.2.1.1,(y11.2.1,(y11.2.2,((),()))));zX y11.1.1 (some (some ((m,()),(l,())))) λy12=>some (some ((m,()),(l,()))))))
def eq116(fu:Nat)(p:PS)(r:RS) x a:rnA fu p r false false fd116 [parK] [parK] ([.ag [.ow true TI.node]]:LK) ([.st TI.node]:LK) x a=sh116 fu r.c37 p.c59 p.c61 p.c78 p.c84 r.c86 r.c117 x a:=dO
def sh115(fu:Nat)(b:(Str×dc)->MM (Nd×dc))(c:dc->MM (Nd×dc))(x:(dx×(NdsT×dc)))(a:dc):(da (da ((dx×(NdsT×dc))×dc))):=bo (b ([40],()) x.1.1 (x.1.2.1,x.1.2.2.1)) λd=>bo (c () x.1.1 (d.2.1,d.2.2)) λe=>bo (b ([41],()) x.1.1 (e.2.1,e.2.2)) λf=>ck (x.2.1.1.length+(List.length [(ndE d.1.1),(ndE e.1.1),(ndE f.1.1)])) (some (some (((x.1.1,(f.2.1,(f.2.2,((),())))),(((x.2.1.1++[(ndE d.1.1),(ndE e.1.1),(ndE f.1.1)]),()),())),())))
def eq115(fu:Nat)(p:PS)(r:RS) x a:rnA fu p r false false fd115 [parK,ptsK] [parK,ptsK] ([]:LK) ([]:LK) x a=sh115 fu p.c78 r.c113 x a:=dO
def sh86(fu:Nat)(w:((db Str)×dc)->MM (dd×dc))(c59:((da MT)×dc)->MM dc)(H:dc->MM (Nd×dc))(c61:dc->MM ((da MT)×dc))(y:(Int×dc)->MM (Str×dc))(k:dc->MM (Nd×dc))(d:(Str×dc)->MM (Nd×dc))(z:dc->MM (Nd×dc))(r:(Int×dc)->MM (dd×dc))(f:dc->MM (Nd×dc))(n:(Int×dc)->MM (dd×dc))(h:dc->MM (Nd×dc))(o:dc->MM (Nd×dc))(i:dc->(db Nd)->MM (dc×(db Nd)))(p:(NdsT×dc)->MM (Nd×dc))(q:(Str×dc)->(db Nd)->MM (dc×(db Nd)))(x:(dx×dc))(a:dc):(da (da ((dx×dc)×(Nd×dc)))):=bo (y (0,()) x.1.1 (x.1.2.1,x.1.2.2.1)) λe=>let s:=(e.2.1,e.2.2);cond (seq e.1.1 [123]) (bo (c59 ((some []),()) x.1.1 s) λm=>bo (H () x.1.1 (m.2.1,m.2.2)) λj=>bo (c61 () x.1.1 (j.2.1,j.2.2)) λy7=>let u9:=(x.1.1,(y7.2.1,(y7.2.2,((),()))));zX y7.1.1 (some (some ((u9,()),((ndE j.1.1),())))) λy8=>some (some ((u9,()),((ndE j.1.1),())))) (cond (seq e.1.1 [59]) (bo (k () x.1.1 s) λm=>ck (List.length [(ndE m.1.1)]) (some (some (((x.1.1,(m.2.1,(m.2.2,((),())))),()),((ndE (Nd.mk 33 0 [(ndE m.1.1)])),()))))) (bo (r (0,()) x.1.1 s) λm=>cond m.1.1 (bo (y (1,()) x.1.1 (m.2.1,m.2.2)) λj=>cond (seq j.1.1 [58]) (bo (k () x.1.1 (j.2.1,j.2.2)) λy7=>bo (k () x.1.1 (y7.2.1,y7.2.2)) λy9=>bo (f () x.1.1 (y9.2.1,y9.2.2)) λy11=>ck (List.length [(ndE y7.1.1),(ndE y9.1.1),(ndE y11.1.1)]) (some (some (((x.1.1,(y11.2.1,(y11.2.2,((),())))),()),((ndE (Nd.mk 29 0 [(ndE y7.1.1),(ndE y9.1.1),(ndE y11.1.1)])),()))))) (bo (r (0,()) x.1.1 (j.2.1,j.2.2)) λy7=>cond y7.1.1 (bo (h () x.1.1 (y7.2.1,y7.2.2)) λy9=>bo (d ([59],()) x.1.1 (y9.2.1,y9.2.2)) λy11=>ck (List.length [(ndE y9.1.1),(ndE y11.1.1)]) (some (some (((x.1.1,(y11.2.1,(y11.2.2,((),())))),()),((ndE (Nd.mk 21 0 [(ndE y9.1.1),(ndE y11.1.1)])),()))))) (bo (n (1,()) x.1.1 (y7.2.1,y7.2.2)) λy9=>let t:=(y9.2.1,y9.2.2);cond (!y9.1.1) (bo (h () x.1.1 t) λy11=>bo (d ([59],()) x.1.1 (y11.2.1,y11.2.2)) λy13=>ck (List.length [(ndE y11.1.1),(ndE y13.1.1)]) (some (some (((x.1.1,(y13.2.1,(y13.2.2,((),())))),()),((ndE (Nd.mk 21 0 [(ndE y11.1.1),(ndE y13.1.1)])),()))))) (cond (seq e.1.1 [115,105,122,101,111,102]) (bo (h () x.1.1 t) λy11=>bo (d ([59],()) x.1.1 (y11.2.1,y11.2.2)) λy13=>ck (List.length [(ndE y11.1.1),(ndE y13.1.1)]) (some (some (((x.1.1,(y13.2.1,(y13.2.2,((),())))),()),((ndE (Nd.mk 21 0 [(ndE y11.1.1),(ndE y13.1.1)])),()))))) (bo (k () x.1.1 t) λy11=>let u11:=(y11.2.1,y11.2.2);let K:=(x.1.1,(y11.2.1,(y11.2.2,((),()))));let I:=List.length [(ndE y11.1.1)];ck I (zg (λ(l:(dc×(dx×(JT×(NdsT×dc))))->da (da ((dx×dc)×(Nd×dc))))=>cond (seq e.1.1 [99,97,115,101]) (bo (o () x.1.1 u11) λy13=>bo (d ([58],()) x.1.1 (y13.2.1,y13.2.2)) λy15=>bo (f () x.1.1 (y15.2.1,y15.2.2)) λy17=>ck (I+(List.length [(ndE y13.1.1),(ndE y15.1.1),(ndE y17.1.1)])) (some (some (((x.1.1,(y17.2.1,(y17.2.2,((),())))),()),((ndE (Nd.mk 31 0 ([(ndE y11.1.1)]++[(ndE y13.1.1),(ndE y15.1.1),(ndE y17.1.1)]))),()))))) (cond (seq e.1.1 [100,101,102,97,117,108,116]) (bo (d ([58],()) x.1.1 u11) λy13=>bo (f () x.1.1 (y13.2.1,y13.2.2)) λy15=>ck (I+(List.length [(ndE y13.1.1),(ndE y15.1.1)])) (some (some (((x.1.1,(y15.2.1,(y15.2.2,((),())))),()),((ndE (Nd.mk 32 0 ([(ndE y11.1.1)]++[(ndE y13.1.1),(ndE y15.1.1)]))),()))))) (cond (seq e.1.1 [105,102]) (bo (i () [(ndE y11.1.1)] x.1.1 u11) λy13=>bo (f () x.1.1 (y13.2.1,y13.2.2)) λy15=>ck (y13.1.2.length+(List.length [(ndE y15.1.1)])) (bo (w ([[101,108,115,101]],()) x.1.1 (y15.2.1,y15.2.2)) λy17=>cond y17.1.1 (bo (k () x.1.1 (y17.2.1,y17.2.2)) λy19=>bo (f () x.1.1 (y19.2.1,y19.2.2)) λy21=>ck ((List.length (y13.1.2++[(ndE y15.1.1)]))+(List.length [(ndE y19.1.1),(ndE y21.1.1)])) (some (some (((x.1.1,(y21.2.1,(y21.2.2,((),())))),()),((ndE (Nd.mk 22 0 ((y13.1.2++[(ndE y15.1.1)])++[(ndE y19.1.1),(ndE y21.1.1)]))),()))))) (some (some (((x.1.1,(y17.2.1,(y17.2.2,((),())))),()),((ndE (Nd.mk 22 0 (y13.1.2++[(ndE y15.1.1)]))),())))))) (zg (λ(c:((dd×dc)×(dx×(JT×(NdsT×dc))))->da (da ((dx×dc)×(Nd×dc))))=>cond (seq e.1.1 [119,104,105,108,101]) (c ((true,()),(K,((0,(0,([],()))),(([(ndE y11.1.1)],()),()))))) (c (((seq e.1.1 [115,119,105,116,99,104]),()),(K,((0,(0,([],()))),(([(ndE y11.1.1)],()),())))))) (λ(b:((dd×dc)×(dx×(JT×(NdsT×dc)))))=>let A:=(b.2.2.2.1.1,());let N:=(b.2.1.1,(b.2.1.2.1,(b.2.1.2.2.1,((),()))));let B:=(N,(b.2.2.1,(A,())));let F:=(b.2.1.2.1,b.2.1.2.2.1);cond b.1.1 (bo (i () b.2.2.2.1.1 b.2.1.1 F) λy13=>bo (f () b.2.1.1 (y13.2.1,y13.2.2)) λy15=>let L:=(b.2.1.1,(y15.2.1,(y15.2.2,((),()))));ck (y13.1.2.length+(List.length [(ndE y15.1.1)])) (cond (seq e.1.1 [119,104,105,108,101]) (some (some ((L,()),((ndE (Nd.mk 23 0 (y13.1.2++[(ndE y15.1.1)]))),())))) (some (some ((L,()),((ndE (Nd.mk 30 0 (y13.1.2++[(ndE y15.1.1)]))),())))))) (cond (seq e.1.1 [100,111]) (bo (f () b.2.1.1 F) λy13=>bo (d ([119,104,105,108,101],()) b.2.1.1 (y13.2.1,y13.2.2)) λy15=>ck (b.2.2.2.1.1.length+(List.length [(ndE y13.1.1),(ndE y15.1.1)])) (bo (i () (b.2.2.2.1.1++[(ndE y13.1.1),(ndE y15.1.1)]) b.2.1.1 (y15.2.1,y15.2.2)) λy17=>bo (d ([59],()) b.2.1.1 (y17.2.1,y17.2.2)) λy19=>ck (y17.1.2.length+(List.length [(ndE y19.1.1)])) (some (some (((b.2.1.1,(y19.2.1,(y19.2.2,((),())))),()),((ndE (Nd.mk 24 0 (y17.1.2++[(ndE y19.1.1)]))),())))))) (cond (seq e.1.1 [102,111,114]) (bo (p (A,()) b.2.1.1 F) λy13=>some (some (((b.2.1.1,(y13.2.1,(y13.2.2,((),())))),()),((ndE y13.1.1),())))) (cond (seq e.1.1 [114,101,116,117,114,110]) (bo (q ([59],()) b.2.2.2.1.1 b.2.1.1 F) λy13=>some (some (((b.2.1.1,(y13.2.1,(y13.2.2,((),())))),()),((ndE (Nd.mk 26 0 y13.1.2)),())))) (zg (λ(c:((dd×dc)×(dx×(JT×(NdsT×dc))))->da (da ((dx×dc)×(Nd×dc))))=>cond (seq e.1.1 [98,114,101,97,107]) (c ((true,()),B)) (c (((seq e.1.1 [99,111,110,116,105,110,117,101]),()),B))) (λ(g:((dd×dc)×(dx×(JT×(NdsT×dc)))))=>cond g.1.1 (bo (d ([59],()) g.2.1.1 (g.2.1.2.1,g.2.1.2.2.1)) λy13=>ck (g.2.2.2.1.1.length+(List.length [(ndE y13.1.1)])) (some (some (((g.2.1.1,(y13.2.1,(y13.2.2,((),())))),()),((ndE (Nd.mk 27 0 (g.2.2.2.1.1++[(ndE y13.1.1)]))),()))))) (l ((),((g.2.1.1,(g.2.1.2.1,(g.2.1.2.2.1,((),())))),(g.2.2.1,((g.2.2.2.1.1,()),()))))))))))))))) (λ(b:(dc×(dx×(JT×(NdsT×dc)))))=>cond (seq e.1.1 [103,111,116,111]) (bo (z () b.2.1.1 (b.2.1.2.1,b.2.1.2.2.1)) λy13=>bo (d ([59],()) b.2.1.1 (y13.2.1,y13.2.2)) λy15=>ck (b.2.2.2.1.1.length+(List.length [(ndE y13.1.1),(ndE y15.1.1)])) (some (some (((b.2.1.1,(y15.2.1,(y15.2.2,((),())))),()),((ndE (Nd.mk 28 0 (b.2.2.2.1.1++[(ndE y13.1.1),(ndE y15.1.1)]))),()))))) (some none)))))))) (bo (r (0,()) x.1.1 (m.2.1,m.2.2)) λj=>cond j.1.1 (bo (h () x.1.1 (j.2.1,j.2.2)) λy7=>bo (d ([59],()) x.1.1 (y7.2.1,y7.2.2)) λy9=>ck (List.length [(ndE y7.1.1),(ndE y9.1.1)]) (some (some (((x.1.1,(y9.2.1,(y9.2.2,((),())))),()),((ndE (Nd.mk 21 0 [(ndE y7.1.1),(ndE y9.1.1)])),()))))) (bo (n (1,()) x.1.1 (j.2.1,j.2.2)) λy7=>let u:=(y7.2.1,y7.2.2);cond (!y7.1.1) (bo (h () x.1.1 u) λy9=>bo (d ([59],()) x.1.1 (y9.2.1,y9.2.2)) λy11=>ck (List.length [(ndE y9.1.1),(ndE y11.1.1)]) (some (some (((x.1.1,(y11.2.1,(y11.2.2,((),())))),()),((ndE (Nd.mk 21 0 [(ndE y9.1.1),(ndE y11.1.1)])),()))))) (cond (seq e.1.1 [115,105,122,101,111,102]) (bo (h () x.1.1 u) λy9=>bo (d ([59],()) x.1.1 (y9.2.1,y9.2.2)) λy11=>ck (List.length [(ndE y9.1.1),(ndE y11.1.1)]) (some (some (((x.1.1,(y11.2.1,(y11.2.2,((),())))),()),((ndE (Nd.mk 21 0 [(ndE y9.1.1),(ndE y11.1.1)])),()))))) (bo (k () x.1.1 u) λy9=>let v:=(y9.2.1,y9.2.2);let C:=(x.1.1,(y9.2.1,(y9.2.2,((),()))));let J:=List.length [(ndE y9.1.1)];ck J (zg (λ(l:(dc×(dx×(JT×(NdsT×dc))))->da (da ((dx×dc)×(Nd×dc))))=>cond (seq e.1.1 [99,97,115,101]) (bo (o () x.1.1 v) λy11=>bo (d ([58],()) x.1.1 (y11.2.1,y11.2.2)) λy13=>bo (f () x.1.1 (y13.2.1,y13.2.2)) λy15=>ck (J+(List.length [(ndE y11.1.1),(ndE y13.1.1),(ndE y15.1.1)])) (some (some (((x.1.1,(y15.2.1,(y15.2.2,((),())))),()),((ndE (Nd.mk 31 0 ([(ndE y9.1.1)]++[(ndE y11.1.1),(ndE y13.1.1),(ndE y15.1.1)]))),()))))) (cond (seq e.1.1 [100,101,102,97,117,108,116]) (bo (d ([58],()) x.1.1 v) λy11=>bo (f () x.1.1 (y11.2.1,y11.2.2)) λy13=>ck (J+(List.length [(ndE y11.1.1),(ndE y13.1.1)])) (some (some (((x.1.1,(y13.2.1,(y13.2.2,((),())))),()),((ndE (Nd.mk 32 0 ([(ndE y9.1.1)]++[(ndE y11.1.1),(ndE y13.1.1)]))),()))))) (cond (seq e.1.1 [105,102]) (bo (i () [(ndE y9.1.1)] x.1.1 v) λy11=>bo (f () x.1.1 (y11.2.1,y11.2.2)) λy13=>ck (y11.1.2.length+(List.length [(ndE y13.1.1)])) (bo (w ([[101,108,115,101]],()) x.1.1 (y13.2.1,y13.2.2)) λy15=>cond y15.1.1 (bo (k () x.1.1 (y15.2.1,y15.2.2)) λy17=>bo (f () x.1.1 (y17.2.1,y17.2.2)) λy19=>ck ((List.length (y11.1.2++[(ndE y13.1.1)]))+(List.length [(ndE y17.1.1),(ndE y19.1.1)])) (some (some (((x.1.1,(y19.2.1,(y19.2.2,((),())))),()),((ndE (Nd.mk 22 0 ((y11.1.2++[(ndE y13.1.1)])++[(ndE y17.1.1),(ndE y19.1.1)]))),()))))) (some (some (((x.1.1,(y15.2.1,(y15.2.2,((),())))),()),((ndE (Nd.mk 22 0 (y11.1.2++[(ndE y13.1.1)]))),())))))) (zg (λ(c:((dd×dc)×(dx×(JT×(NdsT×dc))))->da (da ((dx×dc)×(Nd×dc))))=>cond (seq e.1.1 [119,104,105,108,101]) (c ((true,()),(C,((0,(0,([],()))),(([(ndE y9.1.1)],()),()))))) (c (((seq e.1.1 [115,119,105,116,99,104]),()),(C,((0,(0,([],()))),(([(ndE y9.1.1)],()),())))))) (λ(b:((dd×dc)×(dx×(JT×(NdsT×dc)))))=>let D:=(b.2.2.2.1.1,());let O:=(b.2.1.1,(b.2.1.2.1,(b.2.1.2.2.1,((),()))));let E:=(O,(b.2.2.1,(D,())));let G:=(b.2.1.2.1,b.2.1.2.2.1);cond b.1.1 (bo (i () b.2.2.2.1.1 b.2.1.1 G) λy11=>bo (f () b.2.1.1 (y11.2.1,y11.2.2)) λy13=>let M:=(b.2.1.1,(y13.2.1,(y13.2.2,((),()))));ck (y11.1.2.length+(List.length [(ndE y13.1.1)])) (cond (seq e.1.1 [119,104,105,108,101]) (some (some ((M,()),((ndE (Nd.mk 23 0 (y11.1.2++[(ndE y13.1.1)]))),())))) (some (some ((M,()),((ndE (Nd.mk 30 0 (y11.1.2++[(ndE y13.1.1)]))),())))))) (cond (seq e.1.1 [100,111]) (bo (f () b.2.1.1 G) λy11=>bo (d ([119,104,105,108,101],()) b.2.1.1 (y11.2.1,y11.2.2)) λy13=>ck (b.2.2.2.1.1.length+(List.length [(ndE y11.1.1),(ndE y13.1.1)])) (bo (i () (b.2.2.2.1.1++[(ndE y11.1.1),(ndE y13.1.1)]) b.2.1.1 (y13.2.1,y13.2.2)) λy15=>bo (d ([59],()) b.2.1.1 (y15.2.1,y15.2.2)) λy17=>ck (y15.1.2.length+(List.length [(ndE y17.1.1)])) (some (some (((b.2.1.1,(y17.2.1,(y17.2.2,((),())))),()),((ndE (Nd.mk 24 0 (y15.1.2++[(ndE y17.1.1)]))),())))))) (cond (seq e.1.1 [102,111,114]) (bo (p (D,()) b.2.1.1 G) λy11=>some (some (((b.2.1.1,(y11.2.1,(y11.2.2,((),())))),()),((ndE y11.1.1),())))) (cond (seq e.1.1 [114,101,116,117,114,110]) (bo (q ([59],()) b.2.2.2.1.1 b.2.1.1 G) λy11=>some (some (((b.2.1.1,(y11.2.1,(y11.2.2,((),())))),()),((ndE (Nd.mk 26 0 y11.1.2)),())))) (zg (λ(c:((dd×dc)×(dx×(JT×(NdsT×dc))))->da (da ((dx×dc)×(Nd×dc))))=>cond (seq e.1.1 [98,114,101,97,107]) (c ((true,()),E)) (c (((seq e.1.1 [99,111,110,116,105,110,117,101]),()),E))) (λ(g:((dd×dc)×(dx×(JT×(NdsT×dc)))))=>cond g.1.1 (bo (d ([59],()) g.2.1.1 (g.2.1.2.1,g.2.1.2.2.1)) λy11=>ck (g.2.2.2.1.1.length+(List.length [(ndE y11.1.1)])) (some (some (((g.2.1.1,(y11.2.1,(y11.2.2,((),())))),()),((ndE (Nd.mk 27 0 (g.2.2.2.1.1++[(ndE y11.1.1)]))),()))))) (l ((),((g.2.1.1,(g.2.1.2.1,(g.2.1.2.2.1,((),())))),(g.2.2.1,((g.2.2.2.1.1,()),()))))))))))))))) (λ(b:(dc×(dx×(JT×(NdsT×dc)))))=>cond (seq e.1.1 [103,111,116,111]) (bo (z () b.2.1.1 (b.2.1.2.1,b.2.1.2.2.1)) λy11=>bo (d ([59],()) b.2.1.1 (y11.2.1,y11.2.2)) λy13=>ck (b.2.2.2.1.1.length+(List.length [(ndE y11.1.1),(ndE y13.1.1)])) (some (some (((b.2.1.1,(y13.2.1,(y13.2.2,((),())))),()),((ndE (Nd.mk 28 0 (b.2.2.2.1.1++[(ndE y11.1.1),(ndE y13.1.1)]))),()))))) (some none)))))))))
def eq86(fu:Nat)(p:PS)(r:RS) x a:rnA fu p r false false fd86 [parK] [parK] ([]:LK) ([.st TI.node]:LK) x a=sh86 fu p.c54 p.c59 r.c60 p.c61 p.c72 p.c73 p.c78 p.c80 p.c85 r.c86 p.c112 r.c113 r.c114 r.c115 r.c116 r.c117 x a:=dO
def sh117(fu:Nat)(g:((db Str)×dc)->MM (dd×dc))(h:(Str×dc)->MM (Nd×dc))(e:dc->MM (Nd×dc))(x:(dx×(NdsT×dc)))(a:(Str×dc)):(da (da ((dx×(NdsT×dc))×dc))):=zg (λ(b:(dc×(dx×(NdsT×dc)))->da (da ((dx×(NdsT×dc))×dc)))=>bo (g ([a.1],()) x.1.1 (x.1.2.1,x.1.2.2.1)) λc=>cond (!c.1.1) (bo (e () x.1.1 (c.2.1,c.2.2)) λf=>ck (x.2.1.1.length+(List.length [(ndE f.1.1)])) (b ((),((x.1.1,(f.2.1,(f.2.2,((),())))),(((x.2.1.1++[(ndE f.1.1)]),()),()))))) (b ((),((x.1.1,(c.2.1,(c.2.2,((),())))),((x.2.1.1,()),()))))) (λ(d:(dc×(dx×(NdsT×dc))))=>bo (h (a.1,()) d.2.1.1 (d.2.1.2.1,d.2.1.2.2.1)) λc=>ck (d.2.2.1.1.length+(List.length [(ndE c.1.1)])) (some (some (((d.2.1.1,(c.2.1,(c.2.2,((),())))),(((d.2.2.1.1++[(ndE c.1.1)]),()),())),()))))
def eq117(fu:Nat)(p:PS)(r:RS) x a:rnA fu p r false false fd117 [parK,ptsK] [parK,ptsK] ([.str]:LK) ([]:LK) x a=sh117 fu p.c54 p.c78 r.c113 x a:=dO
def sh113(fu:Nat)(f:((db Str)×dc)->MM (dd×dc))(g:dc->MM (Nd×dc))(b:dc->MM (Nd×dc))(c:dc->MM (Nd×dc))(x:(dx×dc))(a:dc):(da (da ((dx×dc)×(Nd×dc)))):=bo (b () x.1.1 (x.1.2.1,x.1.2.2.1)) λe=>bo (f ([[44]],()) x.1.1 (e.2.1,e.2.2)) λd=>cond (!d.1.1) (some (some (((x.1.1,(d.2.1,(d.2.2,((),())))),()),((ndE e.1.1),())))) (bo (g () x.1.1 (d.2.1,d.2.2)) λh=>bo (c () x.1.1 (h.2.1,h.2.2)) λy7=>some (some (((x.1.1,(y7.2.1,(y7.2.2,((),())))),()),((Nd.mk 54 0 [(ndE e.1.1),(ndE h.1.1),(ndE y7.1.1)]),()))))
def eq113(fu:Nat)(p:PS)(r:RS) x a:rnA fu p r false false fd113 [parK] [parK] ([]:LK) ([.st TI.node]:LK) x a=sh113 fu p.c54 p.c73 r.c111 r.c113 x a:=dO
def sh111(fu:Nat)(f:((db Str)×dc)->MM (dd×dc))(g:dc->MM (Nd×dc))(b:dc->MM (Nd×dc))(c:dc->MM (Nd×dc))(x:(dx×dc))(a:dc):(da (da ((dx×dc)×(Nd×dc)))):=bo (c () x.1.1 (x.1.2.1,x.1.2.2.1)) λe=>bo (f ([[61],[42,61],[47,61],[37,61],[43,61],[45,61],[60,60,61],[62,62,61],[38,61],[94,61],[124,61]],()) x.1.1 (e.2.1,e.2.2)) λd=>cond (!d.1.1) (some (some (((x.1.1,(d.2.1,(d.2.2,((),())))),()),((ndE e.1.1),())))) (bo (g () x.1.1 (d.2.1,d.2.2)) λh=>bo (b () x.1.1 (h.2.1,h.2.2)) λy7=>some (some (((x.1.1,(y7.2.1,(y7.2.2,((),())))),()),((Nd.mk 53 0 [(ndE e.1.1),(ndE h.1.1),(ndE y7.1.1)]),()))))
def eq111(fu:Nat)(p:PS)(r:RS) x a:rnA fu p r false false fd111 [parK] [parK] ([]:LK) ([.st TI.node]:LK) x a=sh111 fu p.c54 p.c73 r.c111 r.c114 x a:=dO
def sh114(fu:Nat)(h:((db Str)×dc)->MM (dd×dc))(i:dc->MM (Nd×dc))(j:(Str×dc)->MM (Nd×dc))(b:dc->MM (Nd×dc))(c:dc->MM (Nd×dc))(d:(Int×dc)->MM (Nd×dc))(x:(dx×dc))(a:dc):(da (da ((dx×dc)×(Nd×dc)))):=bo (d (1,()) x.1.1 (x.1.2.1,x.1.2.2.1)) λe=>bo (h ([[63]],()) x.1.1 (e.2.1,e.2.2)) λf=>cond (!f.1.1) (some (some (((x.1.1,(f.2.1,(f.2.2,((),())))),()),((ndE e.1.1),())))) (bo (i () x.1.1 (f.2.1,f.2.2)) λg=>bo (b () x.1.1 (g.2.1,g.2.2)) λy7=>bo (j ([58],()) x.1.1 (y7.2.1,y7.2.2)) λy9=>bo (c () x.1.1 (y9.2.1,y9.2.2)) λy11=>ck (List.length [(ndE e.1.1),(ndE g.1.1),(ndE y7.1.1),(ndE y9.1.1),(ndE y11.1.1)]) (some (some (((x.1.1,(y11.2.1,(y11.2.2,((),())))),()),((ndE (Nd.mk 52 0 [(ndE e.1.1),(ndE g.1.1),(ndE y7.1.1),(ndE y9.1.1),(ndE y11.1.1)])),())))))
def eq114(fu:Nat)(p:PS)(r:RS) x a:rnA fu p r false false fd114 [parK] [parK] ([]:LK) ([.st TI.node]:LK) x a=sh114 fu p.c54 p.c73 p.c78 r.c113 r.c114 r.c131 x a:=dO
def sh131(fu:Nat)(c143:(Str×dc)->(da (Int×dc)))(h:(Int×dc)->MM (Str×dc))(i:dc->MM (Nd×dc))(c:(Int×dc)->MM (Nd×dc))(d:dc->MM (Nd×dc))(x:(dx×dc))(a:(Int×dc)):(da (da ((dx×dc)×(Nd×dc)))):=bo (d () x.1.1 (x.1.2.1,x.1.2.2.1)) λe=>iter fu (λ(f:(dc×(dx×(JT×(JT×dc))))->da (da ((dx×dc)×(Nd×dc))))(b:(dc×(dx×(JT×(JT×dc)))))=>let j:=Nd.mk b.2.2.2.1.1 b.2.2.2.1.2.1 b.2.2.2.1.2.2.1;bo (h (0,()) b.2.1.1 (b.2.1.2.1,b.2.1.2.2.1)) λg=>let m:=(b.2.1.1,(g.2.1,(g.2.2,((),()))));Option.bind (c143 (g.1.1,())) λk=>cond (ilt k.1 a.1) (some (some ((m,()),(j,())))) (cond (ieq k.1 0) (some (some ((m,()),(j,())))) (bo (i () b.2.1.1 (g.2.1,g.2.2)) λl=>bo (c ((iadd .i64 k.1 1),()) b.2.1.1 (l.2.1,l.2.2)) λy8=>f ((),((b.2.1.1,(y8.2.1,(y8.2.2,((),())))),(b.2.2.1,((51,(0,([j,(ndE l.1.1),(ndE y8.1.1)],()))),()))))))) ((),((x.1.1,(e.2.1,(e.2.2,((),())))),((0,(0,([],()))),(((Nd.kind e.1.1),((Nd.tok e.1.1),((Nd.kids e.1.1),()))),()))))
def eq131(fu:Nat)(p:PS)(r:RS) x a:rnA fu p r false false fd131 [parK] [parK] ([.int .i64]:LK) ([.st TI.node]:LK) x a=sh131 fu p.c143 p.c72 p.c73 r.c131 r.c142 x a:=dO
def sh142(fu:Nat)(h:((db Str)×dc)->MM (dd×dc))(i:dc->MM (Nd×dc))(j:(Str×dc)->MM (Nd×dc))(k:(Int×dc)->MM (dd×dc))(e:dc->MM (Nd×dc))(c:dc->MM (Nd×dc))(f:dc->MM (Nd×dc))(x:(dx×dc))(a:dc):(da (da ((dx×dc)×(Nd×dc)))):=bo (h ([[40]],()) x.1.1 (x.1.2.1,x.1.2.2.1)) λg=>cond (!g.1.1) (bo (c () x.1.1 (g.2.1,g.2.2)) λb=>some (some (((x.1.1,(b.2.1,(b.2.2,((),())))),()),((ndE b.1.1),())))) (bo (k (1,()) x.1.1 (g.2.1,g.2.2)) λb=>cond (!b.1.1) (bo (c () x.1.1 (b.2.1,b.2.2)) λd=>some (some (((x.1.1,(d.2.1,(d.2.2,((),())))),()),((ndE d.1.1),())))) (bo (i () x.1.1 (b.2.1,b.2.2)) λd=>bo (f () x.1.1 (d.2.1,d.2.2)) λy7=>bo (j ([41],()) x.1.1 (y7.2.1,y7.2.2)) λy9=>bo (e () x.1.1 (y9.2.1,y9.2.2)) λy11=>ck (List.length [(ndE d.1.1),(ndE y7.1.1),(ndE y9.1.1),(ndE y11.1.1)]) (some (some (((x.1.1,(y11.2.1,(y11.2.2,((),())))),()),((ndE (Nd.mk 50 0 [(ndE d.1.1),(ndE y7.1.1),(ndE y9.1.1),(ndE y11.1.1)])),()))))))
def eq142(fu:Nat)(p:PS)(r:RS) x a:rnA fu p r false false fd142 [parK] [parK] ([]:LK) ([.st TI.node]:LK) x a=sh142 fu p.c54 p.c73 p.c78 p.c84 r.c142 r.c150 r.c151 x a:=dO
def sh150(fu:Nat)(e:((db Str)×dc)->MM (dd×dc))(f:dc->MM (Nd×dc))(m:(Str×dc)->MM (Nd×dc))(n:(Int×dc)->MM (dd×dc))(g:dc->MM (Nd×dc))(c:dc->MM (Nd×dc))(h:dc->MM (Nd×dc))(i:(Nd×dc)->MM (Nd×dc))(j:dc->MM (Nd×dc))(x:(dx×dc))(a:dc):(da (da ((dx×dc)×(Nd×dc)))):=bo (e ([[43,43],[45,45]],()) x.1.1 (x.1.2.1,x.1.2.2.1)) λk=>cond k.1.1 (bo (f () x.1.1 (k.2.1,k.2.2)) λd=>bo (c () x.1.1 (d.2.1,d.2.2)) λb=>ck (List.length [(ndE d.1.1),(ndE b.1.1)]) (some (some (((x.1.1,(b.2.1,(b.2.2,((),())))),()),((ndE (Nd.mk 48 0 [(ndE d.1.1),(ndE b.1.1)])),()))))) (bo (e ([[38],[42],[43],[45],[126],[33]],()) x.1.1 (k.2.1,k.2.2)) λd=>cond d.1.1 (bo (f () x.1.1 (d.2.1,d.2.2)) λb=>bo (g () x.1.1 (b.2.1,b.2.2)) λy7=>ck (List.length [(ndE b.1.1),(ndE y7.1.1)]) (some (some (((x.1.1,(y7.2.1,(y7.2.2,((),())))),()),((ndE (Nd.mk 48 0 [(ndE b.1.1),(ndE y7.1.1)])),()))))) (bo (e ([[115,105,122,101,111,102]],()) x.1.1 (d.2.1,d.2.2)) λb=>cond b.1.1 (bo (f () x.1.1 (b.2.1,b.2.2)) λy7=>let l:=List.length [(ndE y7.1.1)];ck l (bo (e ([[40]],()) x.1.1 (y7.2.1,y7.2.2)) λy9=>cond y9.1.1 (bo (n (1,()) x.1.1 (y9.2.1,y9.2.2)) λy11=>cond y11.1.1 (bo (f () x.1.1 (y11.2.1,y11.2.2)) λy13=>bo (h () x.1.1 (y13.2.1,y13.2.2)) λy15=>bo (m ([41],()) x.1.1 (y15.2.1,y15.2.2)) λy17=>ck (l+(List.length [(ndE y13.1.1),(ndE y15.1.1),(ndE y17.1.1)])) (some (some (((x.1.1,(y17.2.1,(y17.2.2,((),())))),()),((ndE (Nd.mk 49 0 ([(ndE y7.1.1)]++[(ndE y13.1.1),(ndE y15.1.1),(ndE y17.1.1)]))),()))))) (bo (c () x.1.1 (y11.2.1,y11.2.2)) λy13=>ck (l+(List.length [(ndE y13.1.1)])) (some (some (((x.1.1,(y13.2.1,(y13.2.2,((),())))),()),((ndE (Nd.mk 49 0 ([(ndE y7.1.1)]++[(ndE y13.1.1)]))),())))))) (bo (c () x.1.1 (y9.2.1,y9.2.2)) λy11=>ck (l+(List.length [(ndE y11.1.1)])) (some (some (((x.1.1,(y11.2.1,(y11.2.2,((),())))),()),((ndE (Nd.mk 49 0 ([(ndE y7.1.1)]++[(ndE y11.1.1)]))),()))))))) (bo (j () x.1.1 (b.2.1,b.2.2)) λy7=>bo (i ((ndE y7.1.1),()) x.1.1 (y7.2.1,y7.2.2)) λy9=>some (some (((x.1.1,(y9.2.1,(y9.2.2,((),())))),()),((ndE y9.1.1),()))))))
def eq150(fu:Nat)(p:PS)(r:RS) x a:rnA fu p r false false fd150 [parK] [parK] ([]:LK) ([.st TI.node]:LK) x a=sh150 fu p.c54 p.c73 p.c78 p.c84 r.c142 r.c150 r.c151 r.c154 r.c155 x a:=dO
def sh154(fu:Nat)(d:((db Str)×dc)->MM (dd×dc))(g:dc->MM (Nd×dc))(l:(Str×dc)->MM (Nd×dc))(p:dc->MM (Nd×dc))(i:dc->MM (Nd×dc))(m:dc->MM (Nd×dc))(x:(dx×dc))(a:(Nd×dc)):(da (da ((dx×dc)×(Nd×dc)))):=iter fu (λ(f:(dc×(dx×(JT×(JT×dc))))->da (da ((dx×dc)×(Nd×dc))))(b:(dc×(dx×(JT×(JT×dc)))))=>let q:=(b.2.2.2.1,());let k:=Nd.mk b.2.2.1.1 b.2.2.1.2.1 b.2.2.1.2.2.1;let n:=List.length [k];ck n (bo (d ([[91]],()) b.2.1.1 (b.2.1.2.1,b.2.1.2.2.1)) λo=>cond o.1.1 (bo (g () b.2.1.1 (o.2.1,o.2.2)) λh=>bo (m () b.2.1.1 (h.2.1,h.2.2)) λe=>bo (l ([93],()) b.2.1.1 (e.2.1,e.2.2)) λy7=>let r:=Nd.mk 45 0 ([k]++[(ndE h.1.1),(ndE e.1.1),(ndE y7.1.1)]);ck (n+(List.length [(ndE h.1.1),(ndE e.1.1),(ndE y7.1.1)])) (f ((),((b.2.1.1,(y7.2.1,(y7.2.2,((),())))),(((Nd.kind r),((Nd.tok r),((Nd.kids r),()))),q))))) (bo (d ([[40]],()) b.2.1.1 (o.2.1,o.2.2)) λh=>cond h.1.1 (bo (g () b.2.1.1 (h.2.1,h.2.2)) λe=>ck (n+(List.length [(ndE e.1.1)])) (bo (d ([[41]],()) b.2.1.1 (e.2.1,e.2.2)) λy7=>iter fu (λ(j:((dd×dc)×(dx×(JT×(JT×(NdsT×dc)))))->da (da ((dx×dc)×(Nd×dc))))(c:((dd×dc)×(dx×(JT×(JT×(NdsT×dc))))))=>let s:=(c.2.1.2.1,c.2.1.2.2.1);cond c.1.1 (cond (ilt 2 (lenI c.2.2.2.2.1.1)) (bo (g () c.2.1.1 s) λy9=>ck (c.2.2.2.2.1.1.length+(List.length [(ndE y9.1.1)])) (bo (i () c.2.1.1 (y9.2.1,y9.2.2)) λy11=>ck ((List.length (c.2.2.2.2.1.1++[(ndE y9.1.1)]))+(List.length [(ndE y11.1.1)])) (bo (d ([[44]],()) c.2.1.1 (y11.2.1,y11.2.2)) λy13=>j ((y13.1.1,()),((c.2.1.1,(y13.2.1,(y13.2.2,((),())))),(c.2.2.1,(c.2.2.2.1,((((c.2.2.2.2.1.1++[(ndE y9.1.1)])++[(ndE y11.1.1)]),()),())))))))) (bo (i () c.2.1.1 s) λy9=>ck (c.2.2.2.2.1.1.length+(List.length [(ndE y9.1.1)])) (bo (d ([[44]],()) c.2.1.1 (y9.2.1,y9.2.2)) λy11=>j ((y11.1.1,()),((c.2.1.1,(y11.2.1,(y11.2.2,((),())))),(c.2.2.1,(c.2.2.2.1,(((c.2.2.2.2.1.1++[(ndE y9.1.1)]),()),())))))))) (bo (l ([41],()) c.2.1.1 s) λy9=>let t:=Nd.mk 44 0 (c.2.2.2.2.1.1++[(ndE y9.1.1)]);ck (c.2.2.2.2.1.1.length+(List.length [(ndE y9.1.1)])) (f ((),((c.2.1.1,(y9.2.1,(y9.2.2,((),())))),(((Nd.kind t),((Nd.tok t),((Nd.kids t),()))),(c.2.2.2.1,()))))))) (((!y7.1.1),()),((b.2.1.1,(y7.2.1,(y7.2.2,((),())))),(b.2.2.1,(b.2.2.2.1,((([k]++[(ndE e.1.1)]),()),()))))))) (bo (d ([[46],[45,62]],()) b.2.1.1 (h.2.1,h.2.2)) λe=>cond e.1.1 (bo (g () b.2.1.1 (e.2.1,e.2.2)) λy7=>bo (p () b.2.1.1 (y7.2.1,y7.2.2)) λy9=>let u:=Nd.mk 46 0 ([k]++[(ndE y7.1.1),(ndE y9.1.1)]);ck (n+(List.length [(ndE y7.1.1),(ndE y9.1.1)])) (f ((),((b.2.1.1,(y9.2.1,(y9.2.2,((),())))),(((Nd.kind u),((Nd.tok u),((Nd.kids u),()))),q))))) (bo (d ([[43,43],[45,45]],()) b.2.1.1 (e.2.1,e.2.2)) λy7=>cond y7.1.1 (bo (g () b.2.1.1 (y7.2.1,y7.2.2)) λy9=>let v:=Nd.mk 47 0 ([k]++[(ndE y9.1.1)]);ck (n+(List.length [(ndE y9.1.1)])) (f ((),((b.2.1.1,(y9.2.1,(y9.2.2,((),())))),(((Nd.kind v),((Nd.tok v),((Nd.kids v),()))),q))))) (some (some (((b.2.1.1,(y7.2.1,(y7.2.2,((),())))),()),(k,()))))))))) ((),((x.1.1,(x.1.2.1,(x.1.2.2.1,((),())))),(((Nd.kind a.1),((Nd.tok a.1),((Nd.kids a.1),()))),((0,(0,([],()))),()))))
def eq154(fu:Nat)(p:PS)(r:RS) x a:rnA fu p r false false fd154 [parK] [parK] ([.st TI.node]:LK) ([.st TI.node]:LK) x a=sh154 fu p.c54 p.c73 p.c78 p.c80 r.c111 r.c113 x a:=dO
def sh155(fu:Nat)(f:dc->MM (Nd×dc))(j:(Int×dc)->MM (dd×dc))(b:(Int×dc)->MM (dd×dc))(g:dc->(db Nd)->MM (dc×(db Nd)))(x:(dx×dc))(a:dc):(da (da ((dx×dc)×(Nd×dc)))):=bo (j (0,()) x.1.1 (x.1.2.1,x.1.2.2.1)) λh=>cond h.1.1 (bo (f () x.1.1 (h.2.1,h.2.2)) λc=>ck (List.length [(ndE c.1.1)]) (some (some (((x.1.1,(c.2.1,(c.2.2,((),())))),()),((ndE (Nd.mk 40 0 [(ndE c.1.1)])),()))))) (bo (b (2,()) x.1.1 (h.2.1,h.2.2)) λc=>cond c.1.1 (bo (f () x.1.1 (c.2.1,c.2.2)) λd=>ck (List.length [(ndE d.1.1)]) (some (some (((x.1.1,(d.2.1,(d.2.2,((),())))),()),((ndE (Nd.mk 41 0 [(ndE d.1.1)])),()))))) (bo (b (3,()) x.1.1 (c.2.1,c.2.2)) λd=>cond d.1.1 (bo (f () x.1.1 (d.2.1,d.2.2)) λy7=>ck (List.length [(ndE y7.1.1)]) (some (some (((x.1.1,(y7.2.1,(y7.2.2,((),())))),()),((ndE (Nd.mk 41 0 [(ndE y7.1.1)])),()))))) (bo (b (4,()) x.1.1 (d.2.1,d.2.2)) λy7=>cond y7.1.1 (iter fu (λ(i:(dc×(dx×(JT×(NdsT×dc))))->da (da ((dx×dc)×(Nd×dc))))(e:(dc×(dx×(JT×(NdsT×dc)))))=>bo (b (4,()) e.2.1.1 (e.2.1.2.1,e.2.1.2.2.1)) λy9=>cond y9.1.1 (bo (f () e.2.1.1 (y9.2.1,y9.2.2)) λy11=>ck (e.2.2.2.1.1.length+(List.length [(ndE y11.1.1)])) (i ((),((e.2.1.1,(y11.2.1,(y11.2.2,((),())))),(e.2.2.1,(((e.2.2.2.1.1++[(ndE y11.1.1)]),()),())))))) (some (some (((e.2.1.1,(y9.2.1,(y9.2.2,((),())))),()),((ndE (Nd.mk 42 0 e.2.2.2.1.1)),()))))) ((),((x.1.1,(y7.2.1,(y7.2.2,((),())))),((0,(0,([],()))),(([],()),()))))) (bo (g () [] x.1.1 (y7.2.1,y7.2.2)) λy9=>some (some (((x.1.1,(y9.2.1,(y9.2.2,((),())))),()),((ndE (Nd.mk 43 0 y9.1.2)),())))))))
def eq155(fu:Nat)(p:PS)(r:RS) x a:rnA fu p r false false fd155 [parK] [parK] ([]:LK) ([.st TI.node]:LK) x a=sh155 fu p.c73 p.c85 p.c112 r.c115 x a:=dO
def sh143(fu:Nat)(b:Nat->dd)(a:Str):(da (Int×dc)):=cond (seq a [124,124]) (some (1,())) (cond (seq a [38,38]) (some (2,())) (cond (seq a [124]) (some (3,())) (cond (seq a [94]) (some (4,())) (cond (seq a [38]) (some (5,())) (cond (seq a [61,61]) (some (6,())) (cond (seq a [33,61]) (some (6,())) (cond (seq a [60]) (some (7,())) (cond (seq a [62]) (some (7,())) (cond (seq a [60,61]) (some (7,())) (cond (seq a [62,61]) (some (7,())) (cond (seq a [60,60]) (some (8,())) (cond (seq a [62,62]) (some (8,())) (cond (seq a [43]) (some (9,())) (cond (seq a [45]) (some (9,())) (cond (seq a [42]) (some (10,())) (cond (seq a [47]) (some (10,())) (cond (seq a [37]) (some (10,())) (some (0,())))))))))))))))))))
def eq143:@run143=@sh143:=dO
def con53(fu:Nat){p:PS}(a:POk p){r:RS}(b:ROk r):CQ 53 (cM k0 ([.st TI.node,.bool]:LK) (mM (sh53 fu p.c33 p.c72 p.c73 r.c74 r.c75 p.c76))):=
 qG (qI fu a b fdok53 dP (eq53 fu p r))
def con74(fu:Nat){p:PS}(a:POk p){r:RS}(b:ROk r):CQ 74 (cM k0 kN (mM (sh74 fu p.c54 p.c73 p.c85 r.c107))):=
 qG (qI fu a b fdok74 dP (eq74 fu p r))
def con107(fu:Nat){p:PS}(a:POk p){r:RS}(b:ROk r):CQ 107 (cM k0 kN (mM (sh107 fu r.c53 p.c54 r.c56 p.c73 p.c78))):=
 qG (qI fu a b zSy dP (eq107 fu p r))
def con75(fu:Nat){p:PS}(a:POk p){r:RS}(b:ROk r):CQ 75 (cM k0 kN (mM (sh75 fu p.c54 p.c73 p.c78 p.c85 r.c108))):=
 qG (qI fu a b fdok75 dP (eq75 fu p r))
def con108(fu:Nat){p:PS}(a:POk p){r:RS}(b:ROk r):CQ 108 (cM k0 kN (mM (sh108 fu p.c54 p.c58 p.c72 p.c73 p.c80 r.c114))):=
 qG (qI fu a b zSo dP (eq108 fu p r))
def con79(fu:Nat){p:PS}(a:POk p){r:RS}(b:ROk r):CQ 79 (cX k0 k0 (mX (sh79 fu p.c54 p.c73))):=
 zKN (qI fu a b fdok79 dP (eq79 fu p r))
def con82(fu:Nat){p:PS}(a:POk p){r:RS}(b:ROk r):CQ 82 (cX k0 k0 (mX (sh82 fu p.c54 p.c73 p.c78 r.c81 r.c111))):=
 zKN (qI fu a b fdok82 dP (eq82 fu p r))
def con56(fu:Nat){p:PS}(a:POk p){r:RS}(b:ROk r):CQ 56 (cN k0 ([.st TI.node,.str,.bool]:LK) (mN (sh56 fu p.c54 r.c56 p.c72 p.c73 p.c78 r.c79 p.c80 r.c81 r.c82))):=
 cN_of (qI fu a b fdok56 dP (eq56 fu p r))
def con130(fu:Nat){p:PS}(a:POk p){r:RS}(b:ROk r):CQ 130 (cM kB ([.st TI.node,.str,.bool]:LK) (mM (sh130 fu p.c54 p.c72 p.c73 p.c76 p.c78 r.c79 r.c82 p.c85 r.c130))):=
 qG (qI fu a b zT0 dP (eq130 fu p r))
def con81(fu:Nat){p:PS}(a:POk p){r:RS}(b:ROk r):CQ 81 (cL k0 kN (mL (sh81 fu p.c54 p.c59 p.c61 p.c73 p.c78 r.c110))):=
 cL_of (qI fu a b fdok81 dP (eq81 fu p r))
def con110(fu:Nat){p:PS}(a:POk p){r:RS}(b:ROk r):CQ 110 (cM k0 kN (mM (sh110 fu r.c53 p.c58 r.c130))):=
 qG (qI fu a b zSJ dP (eq110 fu p r))
def con151(fu:Nat){p:PS}(a:POk p){r:RS}(b:ROk r):CQ 151 (cM k0 kN (mM (sh151 fu r.c53 r.c130))):=
 qG (qI fu a b zTJ dP (eq151 fu p r))
def con83(fu:Nat){p:PS}(a:POk p){r:RS}(b:ROk r):CQ 83 (cM k0 kN (mM (sh83 fu p.c54 p.c73 p.c78 r.c83 r.c111))):=
 qG (qI fu a b fdok83 dP (eq83 fu p r))
def con57(fu:Nat){p:PS}(a:POk p){r:RS}(b:ROk r):CQ 57 (cM ([.st TI.node,.str,.bool]:LK) kN (mM (sh57 fu p.c54 p.c58 p.c73 r.c83))):=
 qG (qI fu a b fdok57 dP (eq57 fu p r))
def con55(fu:Nat){p:PS}(a:POk p){r:RS}(b:ROk r):CQ 55 (cM ([.ag [.ow true TI.node],.bool]:LK) kN (mM (sh55 fu p.c54 r.c56 r.c57 p.c73 p.c78))):=
 qG (qI fu a b fdok55 dP (eq55 fu p r))
def con37(fu:Nat){p:PS}(a:POk p){r:RS}(b:ROk r):CQ 37 (cM kB kN (mM (sh37 fu r.c53 p.c54 r.c55 r.c56 r.c57 p.c58 p.c59 r.c60 p.c61))):=
 qG (qI fu a b fdok37 dP (eq37 fu p r))
def con60(fu:Nat){p:PS}(a:POk p){r:RS}(b:ROk r):CQ 60 (cM k0 kN (mM (sh60 fu r.c37 p.c54 p.c72 p.c73 p.c78 p.c84 p.c85 r.c86))):=
 qG (qI fu a b fdok60 dP (eq60 fu p r))
def con86(fu:Nat){p:PS}(a:POk p){r:RS}(b:ROk r):CQ 86 (cM k0 kN (mM (sh86 fu p.c54 p.c59 r.c60 p.c61 p.c72 p.c73 p.c78 p.c80 p.c85 r.c86 p.c112 r.c113 r.c114 r.c115 r.c116 r.c117))):=
 qG (qI fu a b fdok86 dP (eq86 fu p r))
def con116(fu:Nat){p:PS}(a:POk p){r:RS}(b:ROk r):CQ 116 (cM ([.ag [.ow true TI.node]]:LK) kN (mM (sh116 fu r.c37 p.c59 p.c61 p.c78 p.c84 r.c86 r.c117))):=
 qG (qI fu a b zTz dP (eq116 fu p r))
def con115(fu:Nat){p:PS}(a:POk p){r:RS}(b:ROk r):CQ 115 (cX k0 k0 (mX (sh115 fu p.c78 r.c113))):=
 zKN (qI fu a b zS9 dP (eq115 fu p r))
def con117(fu:Nat){p:PS}(a:POk p){r:RS}(b:ROk r):CQ 117 (cX kS k0 (mX (sh117 fu p.c54 p.c78 r.c113))):=
 zKN (qI fu a b zSg dP (eq117 fu p r))
def con113(fu:Nat){p:PS}(a:POk p){r:RS}(b:ROk r):CQ 113 (cM k0 kN (mM (sh113 fu p.c54 p.c73 r.c111 r.c113))):=
 qG (qI fu a b zSX dP (eq113 fu p r))
def con111(fu:Nat){p:PS}(a:POk p){r:RS}(b:ROk r):CQ 111 (cM k0 kN (mM (sh111 fu p.c54 p.c73 r.c111 r.c114))):=
 qG (qI fu a b zSM dP (eq111 fu p r))
def con114(fu:Nat){p:PS}(a:POk p){r:RS}(b:ROk r):CQ 114 (cM k0 kN (mM (sh114 fu p.c54 p.c73 p.c78 r.c113 r.c114 r.c131))):=
 qG (qI fu a b zTw dP (eq114 fu p r))
def con131(fu:Nat){p:PS}(a:POk p){r:RS}(b:ROk r):CQ 131 (cM kI kN (mM (sh131 fu p.c143 p.c72 p.c73 r.c131 r.c142))):=
 qG (qI fu a b zS2 dP (eq131 fu p r))
def con142(fu:Nat){p:PS}(a:POk p){r:RS}(b:ROk r):CQ 142 (cM k0 kN (mM (sh142 fu p.c54 p.c73 p.c78 p.c84 r.c142 r.c150 r.c151))):=
 qG (qI fu a b zTF dP (eq142 fu p r))
def con150(fu:Nat){p:PS}(a:POk p){r:RS}(b:ROk r):CQ 150 (cM k0 kN (mM (sh150 fu p.c54 p.c73 p.c78 p.c84 r.c142 r.c150 r.c151 r.c154 r.c155))):=
 qG (qI fu a b zTQ dP (eq150 fu p r))
def con154(fu:Nat){p:PS}(a:POk p){r:RS}(b:ROk r):CQ 154 (cM kN kN (mM (sh154 fu p.c54 p.c73 p.c78 p.c80 r.c111 r.c113))):=
 qG (qI fu a b zT7 dP (eq154 fu p r))
def con155(fu:Nat){p:PS}(a:POk p){r:RS}(b:ROk r):CQ 155 (cM k0 kN (mM (sh155 fu p.c73 p.c85 p.c112 r.c115))):=
 qG (qI fu a b zTW dP (eq155 fu p r))
def con143(fu:Nat) :CoX 143 ⟨zGc,zFB,λx=>sh143 fu (λ_=>false) x.1⟩:=
 rfk zC zC zC zC zTK rfl (qj rfl) (λa x=>by show run143 fu a x.1=_;rw[eq143];rfl)
def c33(x:db Str×Str×dc):da (dd×dc):=if x.1.length<1000 then some (x.1.contains x.2.1,())else none
def zSS(fu:Nat)(j:1000<fu)(l:Nat->dd)(a:db Str)(b:Str)(h:a.length<1000):sh33 fu l a b=some (a.contains b,()):=by
 unfold sh33;refine zHL (λs=>∃k:Nat,s=((((k:Int),()),()):(Int×PUnit)×PUnit)/\k<=a.length/\(a.take k).contains b=false) (λs=>a.length-s.1.1.toNat) ?_ fu _ ⟨0,rfl,zVI _,dQ⟩ d4;rintro rec s ⟨k,rfl,p,f⟩ d;simp only[ilt,lenI,inB,ile];by_cases c:k<a.length
 .have g:((k:Int)<(a.length:Int)):=dM
  have m:(0:Int)<=(k:Int):=dM
  simp only[g,m,decide_true,zUP,zUi,zU3];have n:a.getD k []=a[k]:=by simp[zUV,c]
  rw[n];by_cases e:b=a[k]
  .have:seq b a[k]=true:=by simp[seq,e]
   rw[this,zUi];have o:b∈a:=by rw[e];exact zUv _
   simp[o]
  .have:seq b a[k]=false:=by simp[seq,e]
   rw[this,zUk];have i:iadd .i64 (k:Int) 1=((k+1:Nat):Int):=by unfold iadd;rw[IntWalk.i64_in _ dM];omega
   refine d _ ⟨k+1,by rw[i],c,?_⟩ (by simp only[i];simp;omega);rw[zVT c];simp only[List.contains_eq_mem,zUa,zUJ,zWO,not_or]at f ⊢;exact⟨f,e⟩
 .obtain rfl:k=a.length:=dM
  have g:¬((a.length:Int)<(a.length:Int)):=dM
  simp only[g,decide_false,zUk];rw[zVb]at f;rw[f];rfl
def ok33:CoX 33 ⟨as33,rs33,c33⟩:=by
 refine(con33 1001).sub ?_;rintro⟨b,c,u⟩ y a;unfold c33 at a;split at a
 .rename_i h;injection a with a
  subst a;exact zSS 1001 dM _ _ _ h
 .cases a
def c15(x:Str×dc):da (dd×dc):=some (kwL.contains x.1,())
def ok15:CoX 15 ⟨as15,rs15,c15⟩:=by
 refine(con15 0 c33 ok33).sub ?_;rintro⟨b,u⟩ y a;injection a with a
 subst a;rfl
def c143(x:Str×dc):da (Int×dc):=sh143 0 (λ_=>false) x.1
def ok143:CoX 143 ⟨zGc,zFB,c143⟩:=con143 0
noncomputable def b72(fu:Nat):zA kI->MM (zA kS):=mJ (sh72 fu )
def ok72(fu:Nat):CQ 72 (cJ (kI) (kS) (b72 fu)):=con72 fu
noncomputable def b54(fu:Nat):zA kL->MM (zA kB):=mJ (sh54 fu c33 (b72 fu))
def ok54(fu:Nat):CQ 54 (cJ (kL) (kB) (b54 fu)):=con54 fu c33 ok33 (b72 fu) (ok72 fu)
noncomputable def b85(fu:Nat):zA kI->MM (zA kB):=mM (sh85 fu c15)
def ok85(fu:Nat):CQ 85 (cM (kI) (kB) (b85 fu)):=con85 fu c15 ok15
noncomputable def b112(fu:Nat):zA kI->MM (zA kB):=mM (sh112 fu )
def ok112(fu:Nat):CQ 112 (cM (kI) (kB) (b112 fu)):=con112 fu
noncomputable def b73(fu:Nat):zA k0->MM (zA kN):=mM (sh73 fu )
def ok73(fu:Nat):CQ 73 (cM (k0) (kN) (b73 fu)):=con73 fu (ok77)
noncomputable def b78(fu:Nat):zA kS->MM (zA kN):=mM (sh78 fu (b54 fu) (b73 fu))
def ok78(fu:Nat):CQ 78 (cM (kS) (kN) (b78 fu)):=con78 fu (b54 fu) (ok54 fu) (b73 fu) (ok73 fu) (ok77)
noncomputable def b80(fu:Nat):zA k0->MM (zA kN):=mM (sh80 fu (b73 fu) (b85 fu))
def ok80(fu:Nat):CQ 80 (cM (k0) (kN) (b80 fu)):=con80 fu (b73 fu) (ok73 fu) (ok77) (b85 fu) (ok85 fu)
noncomputable def b76(fu:Nat):Int×dc->MM (dd×dc):=c76 (b85 fu)
def ok76'(fu:Nat):CQ 76 (cM kI kB (b76 fu)):=ok76 _ (ok85 fu)
noncomputable def b84(fu:Nat):zA kI->MM (zA kB):=mM (sh84 fu c33 (b72 fu) (b76 fu))
def ok84(fu:Nat):CQ 84 (cM (kI) (kB) (b84 fu)):=con84 fu c33 ok33 (b72 fu) (ok72 fu) (b76 fu) (ok76' fu)
noncomputable def RS.next(fu:Nat)(r:RS):RS where
 c53:=mM (sh53 fu c33 (b72 fu) (b73 fu) r.c74 r.c75 (b76 fu))
 c74:=mM (sh74 fu (b54 fu) (b73 fu) (b85 fu) r.c107)
 c107:=mM (sh107 fu r.c53 (b54 fu) r.c56 (b73 fu) (b78 fu))
 c75:=mM (sh75 fu (b54 fu) (b73 fu) (b78 fu) (b85 fu) r.c108)
 c108:=mM (sh108 fu (b54 fu) (c58) (b72 fu) (b73 fu) (b80 fu) r.c114)
 c79:=mX (sh79 fu (b54 fu) (b73 fu))
 c82:=mX (sh82 fu (b54 fu) (b73 fu) (b78 fu) r.c81 r.c111)
 c56:=mN (sh56 fu (b54 fu) r.c56 (b72 fu) (b73 fu) (b78 fu) r.c79 (b80 fu) r.c81 r.c82)
 c130:=mM (sh130 fu (b54 fu) (b72 fu) (b73 fu) (b76 fu) (b78 fu) r.c79 r.c82 (b85 fu) r.c130)
 c81:=mL (sh81 fu (b54 fu) (c59) (c61) (b73 fu) (b78 fu) r.c110)
 c110:=mM (sh110 fu r.c53 (c58) r.c130)
 c151:=mM (sh151 fu r.c53 r.c130)
 c83:=mM (sh83 fu (b54 fu) (b73 fu) (b78 fu) r.c83 r.c111)
 c57:=mM (sh57 fu (b54 fu) (c58) (b73 fu) r.c83)
 c55:=mM (sh55 fu (b54 fu) r.c56 r.c57 (b73 fu) (b78 fu))
 c37:=mM (sh37 fu r.c53 (b54 fu) r.c55 r.c56 r.c57 (c58) (c59) r.c60 (c61))
 c60:=mM (sh60 fu r.c37 (b54 fu) (b72 fu) (b73 fu) (b78 fu) (b84 fu) (b85 fu) r.c86)
 c86:=mM (sh86 fu (b54 fu) (c59) r.c60 (c61) (b72 fu) (b73 fu) (b78 fu) (b80 fu) (b85 fu) r.c86 (b112 fu) r.c113 r.c114 r.c115 r.c116 r.c117)
 c116:=mM (sh116 fu r.c37 (c59) (c61) (b78 fu) (b84 fu) r.c86 r.c117)
 c115:=mX (sh115 fu (b78 fu) r.c113)
 c117:=mX (sh117 fu (b54 fu) (b78 fu) r.c113)
 c113:=mM (sh113 fu (b54 fu) (b73 fu) r.c111 r.c113)
 c111:=mM (sh111 fu (b54 fu) (b73 fu) r.c111 r.c114)
 c114:=mM (sh114 fu (b54 fu) (b73 fu) (b78 fu) r.c113 r.c114 r.c131)
 c131:=mM (sh131 fu c143 (b72 fu) (b73 fu) r.c131 r.c142)
 c142:=mM (sh142 fu (b54 fu) (b73 fu) (b78 fu) (b84 fu) r.c142 r.c150 r.c151)
 c150:=mM (sh150 fu (b54 fu) (b73 fu) (b78 fu) (b84 fu) r.c142 r.c150 r.c151 r.c154 r.c155)
 c154:=mM (sh154 fu (b54 fu) (b73 fu) (b78 fu) (b80 fu) r.c111 r.c113)
 c155:=mM (sh155 fu (b73 fu) (b85 fu) (b112 fu) r.c115)
noncomputable def rs(fu:Nat):Nat->RS
 |0=>RS.zero
 |n+1=>(rs fu n).next fu
noncomputable def prS(fu:Nat):PS:=⟨c33,c143,b54 fu,b72 fu,b73 fu,b76 fu,b78 fu,b80 fu,b84 fu,b85 fu,b112 fu,c58,c59,c61⟩
def xW(fu:Nat):POk (prS fu):=⟨ok33,ok143,ok38,ok77,ok54 fu,ok72 fu,ok73 fu,ok76' fu,ok78 fu,ok80 fu,ok84 fu,ok85 fu,ok112 fu,ok58,ok59,ok61⟩
def ROk.next(fu:Nat){r:RS}(h:ROk r):ROk (r.next fu) where
 h53:=con53 fu (xW fu) h
 h74:=con74 fu (xW fu) h
 h107:=con107 fu (xW fu) h
 h75:=con75 fu (xW fu) h
 h108:=con108 fu (xW fu) h
 h79:=con79 fu (xW fu) h
 h82:=con82 fu (xW fu) h
 h56:=con56 fu (xW fu) h
 h130:=con130 fu (xW fu) h
 h81:=con81 fu (xW fu) h
 h110:=con110 fu (xW fu) h
 h151:=con151 fu (xW fu) h
 h83:=con83 fu (xW fu) h
 h57:=con57 fu (xW fu) h
 h55:=con55 fu (xW fu) h
 h37:=con37 fu (xW fu) h
 h60:=con60 fu (xW fu) h
 h86:=con86 fu (xW fu) h
 h116:=con116 fu (xW fu) h
 h115:=con115 fu (xW fu) h
 h117:=con117 fu (xW fu) h
 h113:=con113 fu (xW fu) h
 h111:=con111 fu (xW fu) h
 h114:=con114 fu (xW fu) h
 h131:=con131 fu (xW fu) h
 h142:=con142 fu (xW fu) h
 h150:=con150 fu (xW fu) h
 h154:=con154 fu (xW fu) h
 h155:=con155 fu (xW fu) h
def rok(fu:Nat):∀n,ROk (rs fu n)
 |0=>ROk.zero
 |n+1=>(rok fu n).next fu
noncomputable def zAB(fu:Nat):zA ([.int .i64,.int .i64,.int .i64]:LK)->WW (zA ([]:LK)):=mW (sh127 fu)
def zQU(fu:Nat):CQ 127 (cW ([.int .i64,.int .i64,.int .i64]:LK) ([]:LK) (zAB fu)):=con127 fu
noncomputable def c67w(fu:Nat):zA ([.int .i64]:LK)->WW (zA ([.bool]:LK)):=mW (sh67 fu c15)
def zKa(fu:Nat):CQ 67 (cW ([.int .i64]:LK) ([.bool]:LK) (c67w fu)):=con67 fu c15 ok15
def lbAt(x:Nd):Int:=match Nd.kids x with|k::_=>Nd.tok k|[]=>-1
def ql(l:db dw)(xs:db Nd):MT:=xs.reverse.foldl (λc x=>yd c (l.getD (lbAt x).toNat tokD).text (lbAt x+1)) []
def c98S(d:zA ([.st TI.node]:LK)->WW (zA ([]:LK)))(e:zA ([.st TI.node]:LK)->WW (zA ([]:LK)×da (da LT1)))(c:zA ([.st TI.node]:LK)->WW (zA ([.int .i64]:LK)×da (da LT1)))(a:Nd×dc):WW dc:=λq=>
 match Nd.kids a.1 with
 |k0::k1::k2::_=>
  Option.bind (e (k0,()) q) λg=>Option.bind (c (k1,()) g.2) λf=>
   match f.1.2 with
   |some (some pp)=>Option.bind (c102 ((show Int×dc from f.1.1).1,()) f.2) λb=>
    if b.2.1.length<1000000/\(∀x∈fdT k2 29,0<=lbAt x/\lbAt x<b.2.1.length)/\(allT k2).length<1000000 then
     Option.bind (d (k2,()) (b.2.1,b.2.2.1,pp::b.2.2.2.1,b.2.2.2.2.1,ql b.2.1 (fdT k2 29))) λh=>
      Option.bind (c104 () h.2) λi=>some ((),i.2)
    else none
   |_=>none
 |_=>none
structure WC where
 c45:zA ([.st TI.node]:LK)->WW (zA ([.int .i64]:LK))
 c48:zA ([.st TI.node]:LK)->WW (zA ([]:LK))
 c68:zA ([.st TI.node]:LK)->WW (zA ([]:LK)×Option (Option LT1))
 c98:zA ([.st TI.node]:LK)->WW (zA ([]:LK))
 c99:zA ([.st TI.node]:LK)->WW (zA ([]:LK))
 c100:zA ([.st TI.node]:LK)->WW (zA ([]:LK))
 c101:zA ([.st TI.node]:LK)->WW (zA ([]:LK))
 c103:zA ([.st TI.node]:LK)->WW (zA ([.int .i64]:LK)×Option (Option LT1))
 c105:zA ([.st TI.node]:LK)->WW (zA ([]:LK))
noncomputable def wcS(fu:Nat)(p:WC):WC where
 c45:=mW (sh45 fu p.c45 (c67w fu))
 c48:=mW (sh48 fu p.c68)
 c68:=mWt (sh68 fu c47 p.c48 p.c68 p.c98 p.c99 p.c100 p.c101 c102 p.c103 c104 p.c105)
 c98:=c98S p.c48 p.c68 p.c103
 c99:=mW (sh99 fu (c67w fu) p.c68 c125)
 c100:=mW (sh100 fu p.c48 (c67w fu) c126)
 c101:=mW (sh101 fu c46 p.c68 p.c103 (zAB fu))
 c103:=mWt (sh103 fu (c67w fu) p.c68 p.c103)
 c105:=mW (sh105 fu c46 p.c48 p.c68 c125 (zAB fu))
noncomputable def wcs(fu:Nat):Nat->WC
 |0=>⟨λ_ _=>none,λ_ _=>none,λ_ _=>none,λ_ _=>none,λ_ _=>none,λ_ _=>none,λ_ _=>none,λ_ _=>none,λ_ _=>none⟩
 |n+1=>wcS fu (wcs fu n)
structure WOk(p:WC):Prop where
 h45:CQ 45 (cW ([.st TI.node]:LK) ([.int .i64]:LK) p.c45)
 h48:CQ 48 (cW ([.st TI.node]:LK) ([]:LK) p.c48)
 h68:CQ 68 (cWt ([.st TI.node]:LK) ([]:LK) p.c68)
 h98:CQ 98 (cW ([.st TI.node]:LK) ([]:LK) p.c98)
 h99:CQ 99 (cW ([.st TI.node]:LK) ([]:LK) p.c99)
 h100:CQ 100 (cW ([.st TI.node]:LK) ([]:LK) p.c100)
 h101:CQ 101 (cW ([.st TI.node]:LK) ([]:LK) p.c101)
 h103:CQ 103 (cWt ([.st TI.node]:LK) ([.int .i64]:LK) p.c103)
 h105:CQ 105 (cW ([.st TI.node]:LK) ([]:LK) p.c105)
def wok(c:∀p,WOk p->CQ 98 (cW ([.st TI.node]:LK) ([]:LK) (c98S p.c48 p.c68 p.c103)))(fu:Nat):∀n,WOk (wcs fu n)
 |0=>⟨ee,ee,ee,ee,ee,ee,ee,ee,ee⟩
 |n+1=>by
  have h:=wok c fu n;show WOk (wcS fu (wcs fu n));generalize wcs fu n=p at h ⊢;exact⟨con45 fu p.c45 h.h45 (c67w fu) (zKa fu),
   con48 fu p.c68 (zBm h.h68),
   con68 fu c47 ok47 p.c48 h.h48 p.c68 (zBm h.h68) p.c98 h.h98 p.c99 h.h99 p.c100 h.h100 p.c101 h.h101 c102 ok102 p.c103 (zBm h.h103) c104 ok104 p.c105 h.h105,
   c p h,
   con99 fu (c67w fu) (zKa fu) p.c68 (zBm h.h68) c125 ok125,
   con100 fu p.c48 h.h48 (c67w fu) (zKa fu) c126 ok126,
   con101 fu c46 ok46 p.c68 (zBm h.h68) p.c103 (zBm h.h103) (zAB fu) (zQU fu),
   con103 fu (c67w fu) (zKa fu) p.c68 h.h68 p.c103 (zBm h.h103),
   con105 fu c46 ok46 p.c48 h.h48 p.c68 (zBm h.h68) c125 ok125 (zAB fu) (zQU fu)⟩
end
end Go.Proofs.YtnamdpbcpnnhaaaGreatDoor
namespace Go.Den
section
open Go.Al
def wrp64(n:Int)(a:-9223372036854775808<=n)(b:n<=9223372036854775807):IntKind.i64.wrap n=n:=IntWalk.i64_in n dM
def qa(a b:Int)(c:-9223372036854775808<=a+b)(d:a+b<=9223372036854775807):iadd .i64 a b=a+b:=wrp64 _ c d
def zIs(a b:Int)(c:-9223372036854775808<=a-b)(d:a-b<=9223372036854775807):isub .i64 a b=a-b:=wrp64 _ c d
def zEg(i n:Nat):inB (i:Int) n=decide (i<n):=by unfold inB;simp
def zCn{b n:Nat}(h:n*b<=140737488355328)(a:n<=maxLen):okN b n=true:=by simp[okN,h,a]
def yr(a b:Int):ieq a b=decide (a=b):=by unfold ieq;by_cases h:a=b<;>simp[h]
def zI4(a b:Int):ine a b=!decide (a=b):=by unfold ine;by_cases h:a=b<;>simp[h]
def zRs{a b:Int}(h:a=b):ieq a b=true:=by simp[ieq,h]
def zJu{a b:Int}(h:a=b):ine a b=false:=by simp[ine,h]
def zHC{a b:Int}(h:a≠b):ine a b=true:=by simp[ine,h]
def zEh(a b:db UInt8):seq a b=decide (a=b):=by unfold seq;by_cases h:a=b<;>simp[h]
def zRA{α:Type}(l:db α)(n:Nat):cutL l 0 (n:Int)=l.take n:=by unfold cutL;simp
def zQy{α:Type}(l:db α)(n:Nat):cutL l (n:Int) (lenI l)=l.drop n:=by unfold cutL lenI;simp
def zCp{σ R:Type}{F:(σ->da R)->σ->da R}(P:da R->Prop)(I:σ->Prop)(μ:σ->Nat)(step:∀(rec:σ->da R) s,I s->(∀s',I s'->μ s'<μ s->P (rec s'))->P (F rec s)) :
 ∀(n:Nat)(s:σ),I s->μ s<n->P (iter n F s):=by
 intro n
 induction n with
 |zero=>intro s _ h;omega
 |succ n a=>
  intro s b d;simp only[iter];exact step _ s b λs' hs' c=>a s' hs' dM
end
end Go.Den
namespace Go.Proofs.YtnamdpbcpnnhaaaGreatDoor
section
open Go.Al Go.Den
def tkA(l:db dw)(p:Int):dw:=l.getD p.toNat tokD
def zt(l:db dw)(p:Int):Str:=if(l.length:Int)<=p then[]else if(tkA l p).kind=1\/(tkA l p).kind=5 then(tkA l p).text else[]
def zY(l:db dw)(p:Int):dd:=decide (p<l.length)&&(decide ((tkA l p).kind=1)&&!kwL.contains (tkA l p).text)
def kH(k:Int)(l:db dw)(p:Int):dd:=decide (p<l.length)&&decide ((tkA l p).kind=k)
def isF(L:db Str)(l:db dw)(p:Int):dd:=!seq (zt l p) []&&L.contains (zt l p)
def zBG(l:db dw)(xs:db MT)(p:Int):dd:=zY l p&&zAY (tkA l p).text xs.reverse
def zGP(l:db dw)(xs:db MT)(p:Int):dd:=
 zBG l xs p||(marksL.contains (zt l p)||(wordsL.contains (zt l p)||(seq (zt l p) [101,110,117,109]||(seq (zt l p) [115,116,114,117,99,116]||seq (zt l p) [117,110,105,111,110]))))
noncomputable def q72(fu:Nat):Int×dc->MM (Str×dc):=b72 fu
noncomputable def q54(fu:Nat):db Str×dc->MM (dd×dc):=b54 fu
noncomputable def q85(fu:Nat):Int×dc->MM (dd×dc):=b85 fu
noncomputable def q112(fu:Nat):Int×dc->MM (dd×dc):=b112 fu
noncomputable def q73(fu:Nat):dc->MM (Nd×dc):=b73 fu
noncomputable def q78(fu:Nat):Str×dc->MM (Nd×dc):=b78 fu
noncomputable def q80(fu:Nat):dc->MM (Nd×dc):=b80 fu
noncomputable def q76(fu:Nat):Int×dc->MM (dd×dc):=b76 fu
noncomputable def q84(fu:Nat):Int×dc->MM (dd×dc):=b84 fu
section
variable(fu:Nat){l:db dw}{xs:db MT}{i:Int}
def zOw{i f:Int}{n:Nat}(a:0<=i)(b:i<=n)(c:n<1000000)(d:0<=f)(f1:f<1000000):iadd .i64 i f=i+f:=qa _ _ dM dM
def aJ{β:Type}(l:db dw)(i:Int)(xs:db MT)(b:β):da (da ((jN×dc)×β)):=some (some (((l,i,xs,none,()),()),b))
def aM{β:Type}(l:db dw)(i:Int)(xs:db MT)(b:β):da (da ((dx×dc)×β)):=some (some (((l,i,xs,(),()),()),b))
def zES{β:Type}(b:β):outJ l (aJ l i xs b)=some (some (b,(i,xs))):=if_pos rfl
def kr{β:Type}(b:β):outM l (aM l i xs b)=some (some (b,(i,xs))):=if_pos rfl
def zLS(f:Int)(b:0<=i)(c:i<=l.length)(d:l.length<1000000)(e:0<=f)(f1:f<1000000):q72 fu (f,()) l (i,xs)=some (some ((zt l (i+f),()),(i,xs))):=by
 show outJ l (cond (ile (lenI l) (iadd .i64 i f)) (aJ l i xs (([]:Str),())) (cond (inB (iadd .i64 i f) l.length) (cond (ine (TokT.kind (tkA l (iadd .i64 i f))) 1) (cond (ine (TokT.kind (tkA l (iadd .i64 i f))) 5) (aJ l i xs (([]:Str),())) (aJ l i xs (TokT.text (tkA l (iadd .i64 i f)),()))) (aJ l i xs (TokT.text (tkA l (iadd .i64 i f)),()))) none))=_;rw[zOw b c d e f1];unfold zt;by_cases h:(l.length:Int)<=i+f
 .rw[show ile (lenI l) (i+f)=true from zUg h,if_pos h,zUi,zES]
 .rw[show ile (lenI l) (i+f)=false from zUh h,if_neg h,zUk];rw[show inB (i+f) l.length=true from by unfold inB;simp;omega,zUi];rw[zI4,zI4];by_cases k1:(tkA l (i+f)).kind=1
  .rw[if_pos (.inl k1),show(!decide ((tkA l (i+f)).kind=1))=false by simp[k1],zUk,zES]
  .rw[show(!decide ((tkA l (i+f)).kind=1))=true by simp[k1],zUi];by_cases a:(tkA l (i+f)).kind=5
   .rw[if_pos (.inr a),show(!decide ((tkA l (i+f)).kind=5))=false by simp[a],zUk,zES]
   .rw[if_neg (by simp[k1,a]),show(!decide ((tkA l (i+f)).kind=5))=true by simp[a],zUi,zES]
def zOu(L:db Str)(e:L.length<1000)(f:0<=i)(g:i<=l.length)(j:l.length<1000000):q54 fu (L,()) l (i,xs)=some (some ((isF L l i,()),(i,xs))):=by
 have b:=zLS (xs:=xs) fu 0 f g j dM dM;rw[Int.add_zero]at b;have c:c33 (L,zt l i,())=some (L.contains (zt l i),()):=if_pos e;show outJ l (Option.bind (q72 fu (0,()) l (i,xs)) λk=>zX k (some none) λa=>cond (!seq a.1.1 []) (Option.bind (c33 (L,a.1.1,())) λd=>aJ l a.2.1 a.2.2 (d.1,())) (aJ l a.2.1 a.2.2 (false,())))=_;rw[b];show outJ l (cond (!seq (zt l i) []) (Option.bind (c33 (L,zt l i,())) λd=>aJ l i xs (d.1,())) (aJ l i xs (false,())))=_;rw[c];unfold isF;cases h:seq (zt l i) []
 .rw[zWE,zUi,zVY,zES,zUU]
 .rw[zV7,zUk,zES,Bool.false_and]
def zLN(f:Int)(a:0<=i)(b:i<=l.length)(c:l.length<1000000)(d:0<=f)(f1:f<1000000):q85 fu (f,()) l (i,xs)=some (some ((zY l (i+f),()),(i,xs))):=by
 show outM l (cond (ilt (iadd .i64 i f) (lenI l)) (cond (inB (iadd .i64 i f) l.length) (cond (ieq (TokT.kind (tkA l (iadd .i64 i f))) 1) (cond (inB (iadd .i64 i f) l.length) (Option.bind (c15 (TokT.text (tkA l (iadd .i64 i f)),())) λe=>aM l i xs (!e.1,())) none) (aM l i xs (false,()))) none) (aM l i xs (false,())))=_;rw[zOw a b c d f1];unfold zY;by_cases h:i+f<(l.length:Int)
 .rw[show ilt (i+f) (lenI l)=true from zUg h,zUi];rw[show inB (i+f) l.length=true from by unfold inB;simp;omega,zUi,zUi,yr];by_cases k1:(tkA l (i+f)).kind=1
  .rw[show decide ((tkA l (i+f)).kind=1)=true from zUg k1,zUi,zUg h,zUU,zUU];rw[show c15 (TokT.text (tkA l (i+f)),())=some (kwL.contains (tkA l (i+f)).text,())from rfl,zVY,kr]
  .rw[show decide ((tkA l (i+f)).kind=1)=false from zUh k1,zUk,Bool.false_and,Bool.and_false,kr]
 .rw[show ilt (i+f) (lenI l)=false from zUh h,zUk,zUh h,Bool.false_and,kr]
def zTE(k:Int)(a:0<=i)(b:i<=l.length)(c:l.length<1000000):q112 fu (k,()) l (i,xs)=some (some ((kH k l i,()),(i,xs))):=by
 show outM l (cond (ilt i (lenI l)) (cond (inB i l.length) (aM l i xs (ieq (TokT.kind (tkA l i)) k,())) none) (aM l i xs (false,())))=_;unfold kH;by_cases h:i<(l.length:Int)
 .rw[show ilt i (lenI l)=true from zUg h,zUi];rw[show inB i l.length=true from by unfold inB;simp;omega,zUi,yr,zUg h,zUU,kr]
 .rw[show ilt i (lenI l)=false from zUh h,zUk,zUh h,Bool.false_and,kr]
def zLA(c:0<=i)(d:i<=l.length)(e:l.length<1000000):q73 fu () l (i,xs)=if i<(l.length:Int)then some (some ((Nd.mk 0 i [],()),(i+1,xs)))else some none:=by
 show outM l (cond (ilt i (lenI l)) (aM l (iadd .i64 i 1) xs (Nd.mk 0 (isub .i64 (iadd .i64 i 1) 1) [],())) (some none))=_;by_cases h:i<(l.length:Int)
 .have a:iadd .i64 i 1=i+1:=qa _ _ dM dM;have b:isub .i64 (i+1) 1=i:=by rw[zIs _ _ dM dM];omega
  rw[show ilt i (lenI l)=true from zUg h,zUi,if_pos h,a,b,kr]
 .rw[show ilt i (lenI l)=false from zUh h,zUk,if_neg h];rfl
def zH4{L:db Str}(h:isF L l i=true):i<(l.length:Int):=by
 unfold isF zt at h;by_cases a:(l.length:Int)<=i
 .rw[if_pos a]at h;simp[seq]at h
 .omega
def zBL(h:zY l i=true):i<(l.length:Int):=by
 unfold zY at h;simp only[zUE,zU7]at h;exact h.1
def q78_eq(s:Str)(d:0<=i)(e:i<=l.length)(f:l.length<1000000):q78 fu (s,()) l (i,xs)=if isF [s] l i=true then some (some ((Nd.mk 0 i [],()),(i+1,xs)))else some none:=by
 show outM l (Option.bind (q54 fu ([s],()) l (i,xs)) λg=>zX g (some none) λb=>cond b.1.1 (Option.bind (q73 fu () l (b.2.1,b.2.2)) λc=>zX c (some none) λa=>aM l a.2.1 a.2.2 (ndE a.1.1,())) (some none))=_;rw[zOu fu [s] dQ d e f];show outM l (cond (isF [s] l i) (Option.bind (q73 fu () l (i,xs)) λc=>zX c (some none) λa=>aM l a.2.1 a.2.2 (ndE a.1.1,())) (some none))=_;cases h:isF [s] l i with
 |false=>rfl
 |true=>
  rw[zLA fu d e f,if_pos (zH4 h),if_pos rfl];exact kr _
def q80_eq(d:0<=i)(e:i<=l.length)(f:l.length<1000000):q80 fu () l (i,xs)=if zY l i=true then some (some ((Nd.mk 0 i [],()),(i+1,xs)))else some none:=by
 show outM l (Option.bind (q85 fu (0,()) l (i,xs)) λg=>zX g (some none) λb=>cond b.1.1 (Option.bind (q73 fu () l (b.2.1,b.2.2)) λc=>zX c (some none) λa=>aM l a.2.1 a.2.2 (ndE a.1.1,())) (some none))=_;rw[zLN fu 0 d e f dM dM,Int.add_zero];show outM l (cond (zY l i) (Option.bind (q73 fu () l (i,xs)) λc=>zX c (some none) λa=>aM l a.2.1 a.2.2 (ndE a.1.1,())) (some none))=_;cases h:zY l i with
 |false=>rfl
 |true=>
  rw[zLA fu d e f,if_pos (zBL h),if_pos rfl];exact kr _
def zQG(f:Int)(a:0<=i)(d:i<=l.length)(b:l.length<1000000)(c:0<=f)(f1:f<1000000)(e:xs.length<1000000):q76 fu (f,()) l (i,xs)=some (some ((zBG l xs (i+f),()),(i,xs))):=by
 show c76 (q85 fu) (f,()) l (i,xs)=_;unfold c76;rw[zLN fu f a d b c f1];dsimp only;rw[if_pos ⟨rfl,e,λh=>⟨a,c,zBL h,b⟩⟩];rfl
def q84_eq(f:Int)(g:0<=i)(h:i<=l.length)(j:l.length<1000000)(k:0<=f)(f1:f<1000000)(m:xs.length<1000000):q84 fu (f,()) l (i,xs)=some (some ((zGP l xs (i+f),()),(i,xs))):=by
 have n:c33 (marksL,zt l (i+f),())=some (marksL.contains (zt l (i+f)),()):=if_pos (show marksL.length<1000 by decide);have o:c33 (wordsL,zt l (i+f),())=some (wordsL.contains (zt l (i+f)),()):=if_pos (show wordsL.length<1000 by decide);show outM l (Option.bind (q72 fu (f,()) l (i,xs)) λp=>zX p (some none) λb=>Option.bind (q76 fu (f,()) l (b.2.1,b.2.2)) λc=>zX c (some none) λa=>cond a.1.1 (aM l a.2.1 a.2.2 (true,()))
  (Option.bind (c33 (marksL,b.1.1,())) λd=>cond d.1 (aM l a.2.1 a.2.2 (true,())) (Option.bind (c33 (wordsL,b.1.1,())) λe=>cond e.1 (aM l a.2.1 a.2.2 (true,()))
   (cond (seq b.1.1 [101,110,117,109]) (aM l a.2.1 a.2.2 (true,())) (cond (seq b.1.1 [115,116,114,117,99,116]) (aM l a.2.1 a.2.2 (true,())) (aM l a.2.1 a.2.2 (seq b.1.1 [117,110,105,111,110],())))))))=_
 rw[zLS fu f g h j k f1];show outM l (Option.bind (q76 fu (f,()) l (i,xs)) λc=>zX c (some none) λa=>cond a.1.1 (aM l a.2.1 a.2.2 (true,()))
  (Option.bind (c33 (marksL,zt l (i+f),())) λd=>cond d.1 (aM l a.2.1 a.2.2 (true,())) (Option.bind (c33 (wordsL,zt l (i+f),())) λe=>cond e.1 (aM l a.2.1 a.2.2 (true,()))
   (cond (seq (zt l (i+f)) [101,110,117,109]) (aM l a.2.1 a.2.2 (true,())) (cond (seq (zt l (i+f)) [115,116,114,117,99,116]) (aM l a.2.1 a.2.2 (true,())) (aM l a.2.1 a.2.2 (seq (zt l (i+f)) [117,110,105,111,110],())))))))=_
 rw[zQG fu f g h j k f1 m,n,o];unfold zGP;show outM l (cond (zBG l xs (i+f)) (aM l i xs (true,())) (cond (marksL.contains (zt l (i+f))) (aM l i xs (true,())) (cond (wordsL.contains (zt l (i+f))) (aM l i xs (true,()))
  (cond (seq (zt l (i+f)) [101,110,117,109]) (aM l i xs (true,())) (cond (seq (zt l (i+f)) [115,116,114,117,99,116]) (aM l i xs (true,())) (aM l i xs (seq (zt l (i+f)) [117,110,105,111,110],())))))))=_
 cases zBG l xs (i+f)
 .cases marksL.contains (zt l (i+f))
  .cases wordsL.contains (zt l (i+f))
   .cases seq (zt l (i+f)) [101,110,117,109]
    .cases seq (zt l (i+f)) [115,116,114,117,99,116]<;>exact kr _
    .exact kr _
   .exact kr _
  .exact kr _
 .exact kr _
end
end
section
open Go.Al Go.Den
mutual
def shN(d:Int):Nd->Nd
 |.mk k p l=>.mk k (if k=0 then p+d else p) (shL d l)
def shL(d:Int):List Nd->List Nd
 |[]=>[]
 |x::r=>shN d x::shL d r
end
mutual
/-- The leaves' tokens. -/
def lvN:Nd->List Int
 |.mk k p l=>if k=0 then[p]else lvL l
def lvL:List Nd->List Int
 |[]=>[]
 |x::r=>lvN x++lvL r
end
def prK(k kk:Int):dd:=decide (kk=0)||((decide (kk=11)&&!decide (k=11))||((decide (k=4)&&(decide (kk=5)||decide (kk=6)))||((decide (k=9)&&decide (kk=10))||((decide (k=12)||decide (k=14))&&decide (kk=4)))))
mutual
/-- A leaf has no parts;what has a kind has no token. -/
def okT:Nd->Prop
 |.mk k p l=>(k=0->l=[])/\(k≠0->p=0)/\l.length<=(lvL l).length/\(∀x,l=[x]->prK k x.kind=true)/\okL l
def okL:List Nd->Prop
 |[]=>True
 |x::r=>(okT x/\lvN x≠[])/\okL r
end
def zBf:∀(a b:db Nd),lvL (a++b)=lvL a++lvL b
 |[],b=>rfl
 |x::a,b=>by rw[zUO,lvL,lvL,zBf a b,zVB]
def zH2:∀(a b:db Nd),okL (a++b)↔okL a/\okL b
 |[],b=>by simp[okL]
 |x::a,b=>by rw[zUO,okL,okL,zH2 a b];exact(and_assoc).symm
def jG(a b:Int):db Int:=(List.range (b-a).toNat).map λk:Nat=>a+(k:Int)
def zMY(a:Int):jG a a=[]:=by unfold jG;rw[Int.sub_self];rfl
def zAJ(a b:Int):(jG a b).length=(b-a).toNat:=by unfold jG;rw[zUZ,List.length_range]
def zN3(a:Int):jG a (a+1)=[a]:=by
 unfold jG;rw[show a+1-a=1 by omega];show[a+((0:Nat):Int)]=[a];simp
def zJ3{a m b:Int}(c:a<=m)(d:m<=b):jG a m++jG m b=jG a b:=by
 unfold jG;obtain⟨x,e⟩:∃x:Nat,m=a+x:=⟨(m-a).toNat,dM⟩;obtain⟨y,f⟩:∃y:Nat,b=m+y:=⟨(b-m).toNat,dM⟩;rw[show(m-a).toNat=x by omega,show(b-m).toNat=y by omega,show(b-a).toNat=x+y by omega,List.range_add,zVa,zVr];congr 1;refine zVQ λk _=>?_;show m+(k:Int)=a+((x+k:Nat):Int);omega
def Tr(a b:Int)(c:Nd):Prop:=a<b/\lvN c=jG a b/\okT c
def Pt(a b:Int)(ps:db Nd):Prop:=a<=b/\lvL ps=jG a b/\okL ps/\(ps.length:Int)<=b-a
def Tr.leaf(p:Int):Tr p (p+1) (Nd.mk 0 p []):=⟨dM,by rw[zN3];rfl,by simp[okT,okL,lvL]⟩
def Tr.lt{a b:Int}{c:Nd}(h:Tr a b c):a<b:=h.1
def Pt.nil(a:Int):Pt a a []:=⟨dM,by rw[zMY];rfl,trivial,dQ⟩
def Pt.le{a b:Int}{ps:db Nd}(h:Pt a b ps):a<=b:=h.1
def Pt.len{a b:Int}{ps:db Nd}(h:Pt a b ps):(ps.length:Int)<=b-a:=h.2.2.2
def Pt.one{a b:Int}{c:Nd}(h:Tr a b c):Pt a b [c]:=⟨Int.le_of_lt h.1,by show lvN c++[]=_;rw[zUR,h.2.1],⟨⟨h.2.2,λe=>by
 have f:=h.1;have d:=zU1 List.length h.2.1;rw[zAJ,e]at d;change 0=_ at d;omega⟩,trivial⟩,by have:=h.1;simp;omega⟩
def Pt.app{a m b:Int}{ps d:db Nd}(h:Pt a m ps)(c:Pt m b d):Pt a b (ps++d):=
 ⟨by have:=h.1;have:=c.1;omega,by rw[zBf,h.2.1,c.2.1,zJ3 h.1 c.1],(zH2 _ _).2 ⟨h.2.2.1,c.2.2.1⟩,by rw[zUI];have:=h.2.2.2;have:=c.2.2.2;omega⟩
def Pt.cons{a m b:Int}{c:Nd}{d:db Nd}(h:Tr a m c)(e:Pt m b d):Pt a b (c::d):=(Pt.one h).app e
def Pt.snoc{a m b:Int}{ps:db Nd}{c:Nd}(h:Pt a m ps)(d:Tr m b c):Pt a b (ps++[c]):=h.app (Pt.one d)
def Tr.mk{a b:Int}{ps:db Nd}{k:Int}(h:Pt a b ps)(f:a<b)(c:k≠0)(d:∀x,ps=[x]->prK k x.kind=true):Tr a b (Nd.mk k 0 ps):=
 ⟨f,by show(if k=0 then[0]else lvL ps)=_;rw[if_neg c,h.2.1],⟨λe=>absurd e c,λ_=>rfl,by have d:=h.len;rw[h.2.1,zAJ];omega,d,h.2.2.1⟩⟩
def Pt.ne{a b:Int}{ps:db Nd}(h:Pt a b ps)(d:a<b):ps≠[]:=λe=>by
 subst e;have c:=zU1 List.length h.2.1;rw[zAJ]at c;change 0=_ at c;omega
section
variable{k:Int}{ps:db Nd}{n n2 n3:Nd}
def zM0{x:Nd}(e:ps++[n]=[x]):n=x:=by
 cases ps with
 |nil=>injection e
 |cons a r=>simp at e
def zPU{x:Nd}(e:ps++[n,n2]=[x]):False:=by have:=zU1 List.length e;simp at this
def zK7{x:Nd}(e:ps++[n,n2,n3]=[x]):False:=by have:=zU1 List.length e;simp at this
def yD(h:prK k n.kind=true):∀x,ps++[n]=[x]->prK k x.kind=true:=λ_ e=>zM0 e▸h
def yJ(h:prK k n.kind=true):∀x,[n]=[x]->prK k x.kind=true:=λ_ e=>by injection e with e;exact e▸h
def zz{kk:Int}(h:n.kind=kk)(a:prK k kk=true):∀x,ps++[n]=[x]->prK k x.kind=true:=yD (h▸a)
def yF{kk:Int}(h:n.kind=kk)(a:prK k kk=true):∀x,[n]=[x]->prK k x.kind=true:=yJ (h▸a)
def yM:∀x,ps++[n,n2]=[x]->prK k x.kind=true:=λ_ e=>(zPU e).elim
def zy:∀x,ps++[n,n2,n3]=[x]->prK k x.kind=true:=λ_ e=>(zK7 e).elim
def yZ(h:ps≠[]):∀x,ps++[n]=[x]->prK k x.kind=true:=λ_ e=>by
 cases ps with
 |nil=>exact absurd rfl h
 |cons a r=>simp at e
def pk(ps:db Nd):Prop:=∀x,ps=[x]->x.kind=0\/x.kind=11
def qm:pk []:=λ_ e=>fb
def qu(h:n.kind=0\/n.kind=11):pk [n]:=λ_ e=>by injection e with e;exact e▸h
def yH(h:n.kind=0\/n.kind=11):pk (ps++[n]):=λ_ e=>zM0 e▸h
def qt:pk (ps++[n,n2]):=λ_ e=>(zPU e).elim
def xw:pk (ps++[n,n2,n3]):=λ_ e=>(zK7 e).elim
def yW(a:k≠11)(h:pk ps):∀x,ps=[x]->prK k x.kind=true:=λx e=>by
 unfold prK;rcases h x e with h|h
 .rw[h];rfl
 .rw[h,zUh a];rfl
end
def Pt.empty{a b:Int}(h:Pt a b []):b=a:=by
 obtain⟨e,d,_,_⟩:=h;have c:=zU1 List.length d;simp only[jG,zUZ,List.length_range]at c;change 0=_ at c;omega
def weakW:db Str:=[[99,111,110,115,116],[101,120,116,101,114,110],[105,110,108,105,110,101],[114,101,103,105,115,116,101,114],[115,116,97,116,105,99],[97,117,116,111],[116,121,112,101,100,101,102],[118,111,108,97,116,105,108,101],
 [99,104,97,114],[100,111,117,98,108,101],[102,108,111,97,116],[105,110,116],[108,111,110,103],[115,104,111,114,116],[115,105,103,110,101,100],[117,110,115,105,103,110,101,100],[118,111,105,100],
 [115,116,114,117,99,116],[117,110,105,111,110],[101,110,117,109],[123],[125],[44],[61],[42],[40],[91],[93],[46,46,46],[58],[63],[46],[45,62],[43,43],[45,45],[38],[43],[45],[126],[33],[115,105,122,101,111,102],
 [42,61],[47,61],[37,61],[43,61],[45,61],[60,60,61],[62,62,61],[38,61],[94,61],[124,61],[124,124],[38,38],[124],[94],[61,61],[33,61],[60],[62],[60,61],[62,61],[60,60],[62,62],[47],[37],
 [99,97,115,101],[100,101,102,97,117,108,116],[105,102],[101,108,115,101],[119,104,105,108,101],[115,119,105,116,99,104],[100,111],[102,111,114],[114,101,116,117,114,110],[98,114,101,97,107],[99,111,110,116,105,110,117,101],[103,111,116,111]]
def fullW:db Str:=[[41],[59]]
def lvlF(t:Str):Int:=(sh143 0 (λ_=>false) t).elim 0 λy=>y.1
structure Sim where
 A:List TokT
 B:List TokT
 d:Int
 Ag:Int->Prop
 SR:List MT->List MT->Prop
 MR:MT->MT->Prop
 TD:Prop
 lo:Int
structure Sim.Ok(W:Sim):Prop where
 lenA:W.A.length<=4000
 lenB:W.B.length<1000000
 d0:0<=W.d
 lo0:0<=W.lo
 lenAB:(W.A.length:Int)+W.d<=W.B.length
 mono:∀{a b},a<=b->W.Ag b->W.Ag a
 weak:∀p,W.lo<=p->p<=(W.A.length:Int)->W.Ag (2*p+1)->∀w∈weakW,(zt W.A p=w↔zt W.B (p+W.d)=w)
 full:∀p,W.lo<=p->p<=(W.A.length:Int)->W.Ag (2*p+2)->∀w∈fullW,(zt W.A p=w↔zt W.B (p+W.d)=w)
 name:∀p,W.lo<=p->p<=(W.A.length:Int)->W.Ag (2*p+1)->zY W.A p=zY W.B (p+W.d)
 kind:∀k p,W.lo<=p->p<=(W.A.length:Int)->W.Ag (2*p+1)->kH k W.A p=kH k W.B (p+W.d)
 type:∀p xs ys,W.lo<=p->p<=(W.A.length:Int)->W.SR xs ys->W.Ag (2*p+1)->zBG W.A xs p=zBG W.B ys (p+W.d)
 srlen:∀{xs ys},W.SR xs ys->xs.length=ys.length
 push:∀{xs ys m m'},W.SR xs ys->W.MR m m'->W.SR (xs++[m]) (ys++[m'])
 mr0:W.MR [] []
 pop:∀{xs ys m m'},W.SR (xs++[m]) (ys++[m'])->xs≠[]->W.SR xs ys/\W.MR m m'
 dcl:∀{xs ys m m' p v},W.SR (xs++[m]) (ys++[m'])->W.lo<=p->zY W.A p=true->(v=1\/v=2/\W.TD)->W.SR (xs++[yd m (zt W.A p) v]) (ys++[yd m' (zt W.B (p+W.d)) v])
 nameE:∀p,W.lo<=p->zY W.A p=true->(zt W.A p=[]↔zt W.B (p+W.d)=[])
 td:∀p,zt W.A p=[116,121,112,101,100,101,102]->W.TD
structure Pr where
 c54:List Str×Unit->MM (Bool×Unit)
 c72:Int×Unit->MM (Str×Unit)
 c73:Unit->MM (Nd×Unit)
 c76:Int×Unit->MM (Bool×Unit)
 c78:Str×Unit->MM (Nd×Unit)
 c80:Unit->MM (Nd×Unit)
 c84:Int×Unit->MM (Bool×Unit)
 c85:Int×Unit->MM (Bool×Unit)
 c112:Int×Unit->MM (Bool×Unit)
structure Pr.Ok(P:Pr):Prop where
 e54:∀{l:List TokT}{xs:List MT}{i:Int}(L:List Str),L.length<1000->0<=i->i<=l.length->l.length<1000000->P.c54 (L,()) l (i,xs)=some (some ((isF L l i,()),(i,xs)))
 e72:∀{l:List TokT}{xs:List MT}{i:Int}(f:Int),0<=i->i<=l.length->l.length<1000000->0<=f->f<1000000->P.c72 (f,()) l (i,xs)=some (some ((zt l (i+f),()),(i,xs)))
 e85:∀{l:List TokT}{xs:List MT}{i:Int}(f:Int),0<=i->i<=l.length->l.length<1000000->0<=f->f<1000000->P.c85 (f,()) l (i,xs)=some (some ((zY l (i+f),()),(i,xs)))
 e112:∀{l:List TokT}{xs:List MT}{i:Int}(k:Int),0<=i->i<=l.length->l.length<1000000->P.c112 (k,()) l (i,xs)=some (some ((kH k l i,()),(i,xs)))
 e73:∀{l:List TokT}{xs:List MT}{i:Int},0<=i->i<=l.length->l.length<1000000->P.c73 () l (i,xs)=if i<(l.length:Int)then some (some ((Nd.mk 0 i [],()),(i+1,xs)))else some none
 e78:∀{l:List TokT}{xs:List MT}{i:Int}(s:Str),0<=i->i<=l.length->l.length<1000000->P.c78 (s,()) l (i,xs)=if isF [s] l i=true then some (some ((Nd.mk 0 i [],()),(i+1,xs)))else some none
 e80:∀{l:List TokT}{xs:List MT}{i:Int},0<=i->i<=l.length->l.length<1000000->P.c80 () l (i,xs)=if zY l i=true then some (some ((Nd.mk 0 i [],()),(i+1,xs)))else some none
 e76:∀{l:List TokT}{xs:List MT}{i:Int}(f:Int),0<=i->i<=l.length->l.length<1000000->0<=f->f<1000000->xs.length<1000000->P.c76 (f,()) l (i,xs)=some (some ((zBG l xs (i+f),()),(i,xs)))
 e84:∀{l:List TokT}{xs:List MT}{i:Int}(f:Int),0<=i->i<=l.length->l.length<1000000->0<=f->f<1000000->xs.length<1000000->P.c84 (f,()) l (i,xs)=some (some ((zGP l xs (i+f),()),(i,xs)))
noncomputable def prF(fu:Nat):Pr:=⟨b54 fu,b72 fu,b73 fu,b76 fu,b78 fu,b80 fu,b84 fu,b85 fu,b112 fu⟩
def xX(fu:Nat):(prF fu).Ok where
 e54:=λL=>zOu fu L
 e72:=λf=>zLS fu f
 e85:=λf=>zLN fu f
 e112:=λk=>zTE fu k
 e73:=zLA fu
 e78:=λs=>q78_eq fu s
 e80:=q80_eq fu
 e76:=λf=>zQG fu f
 e84:=λf=>q84_eq fu f
section
variable(W:Sim)
structure Sta(n:Nat)(p:Int)(xs ys:List MT):Prop where
 p0:W.lo<=p
 p1:p<=(W.A.length:Int)
 n1:1<=n
 hn:xs.length=n
 sr:W.SR xs ys
def NR(s s':Str):Prop:=(s=[]/\s'=[])\/∃p,W.lo<=p/\zY W.A p=true/\s=zt W.A p/\s'=zt W.B (p+W.d)
def J{ρ:Type}(lev:ρ->Int)(b:Int)(a d:da (da ρ))(Q:ρ->ρ->Prop):Prop:=
 ∃o,a=some o/\∀y,o=some y->b<=lev y/\∃c,Q y c/\(W.Ag (lev y)->d=some (some c))
end
section
variable{W:Sim}{ρ:Type}{lev:ρ->Int}{b:Int}{Q:ρ->ρ->Prop}
def J.low{c:Int}{a d:da (da ρ)}(h:J W lev c a d Q)(j:b<=c):J W lev b a d Q:=by
 obtain⟨o,e,f⟩:=h;refine⟨o,e,λy g=>?_⟩;obtain⟨l,i⟩:=f y g;exact⟨dM,i⟩
def J.sub(g:W.Ok){a d c:da (da ρ)}(h:W.Ag b->d=c)(i:J W lev b a c Q):J W lev b a d Q:=by
 obtain⟨o,j,l⟩:=i;refine⟨o,j,λy m=>?_⟩;obtain⟨e,r,s,t⟩:=l y m;exact⟨e,r,s,λf=>by rw[h (g.mono e f)];exact t f⟩
end
def SpJ(W:Sim){β:Type}(κ:Int)(n:Nat)(p:Int)(xs ys:db MT)(f c:MM β)(R:Int->β->β->Prop):Prop:=
 J W (λy:β×PSt=>2*y.2.1+κ) (2*p) (f W.A (p,xs)) (c W.B (p+W.d,ys)) λy a=>Sta W n y.2.1 y.2.2 a.2.2/\a.2.1=y.2.1+W.d/\R y.2.1 y.1 a.1
section
variable{W:Sim}{ρ:Type}{lev:ρ->Int}{b:Int}{Q:ρ->ρ->Prop}{n:Nat}{p:Int}{xs ys:db MT}
variable{P:Pr}{F G:(dd×dc)×PSt->da (da ρ)}
def Sta.ok(a:W.Ok)(c:Sta W n p xs ys):0<=p/\p<=(W.A.length:Int)/\W.A.length<1000000/\0<=p+W.d/\p+W.d<=(W.B.length:Int)/\W.B.length<1000000/\xs.length=ys.length:=
 ⟨Int.le_trans a.lo0 c.p0,c.p1,by have:=a.lenA;omega,by have:=a.d0;have:=c.p0;have:=a.lo0;omega,by have:=a.lenAB;have:=c.p1;omega,a.lenB,a.srlen c.sr⟩
def zSV{l:db dw}{L:db Str}{i:Int}(a:[]∉L):isF L l i=decide (zt l i∈L):=by
 unfold isF;by_cases h:zt l i∈L
 .have:zt l i≠[]:=λe=>a (e▸h);simp[h,seq,this]
 .simp[h]
def zSt(t:Str):c143 (t,())=some (lvlF t,()):=by
 show sh143 0 (λ_=>false) t=some ((sh143 0 (λ_=>false) t).elim 0 λy=>y.1,());have:∃k,sh143 0 (λ_=>false) t=some (k,()):=by
  unfold sh143
  repeat (first|exact⟨_,rfl⟩|(rename_i c;fail)|(refine(show∀(c:dd)(x y:da (Int×dc)),(∃k,x=some (k,()))->(∃k,y=some (k,()))->∃k,cond c x y=some (k,())from λc x y a d=>by cases c;exact d;exact a) _ _ _ ⟨_,rfl⟩ ?_))
 obtain⟨k,e⟩:=this;rw[e];rfl
def Sta.small(c:W.Ok)(a:Sta W n p xs ys)(d:(n:Int)<=2*p+3):xs.length<1000000/\ys.length<1000000:=by
 have:=a.p1;have:=c.lenA;have:=a.hn;have:=c.srlen a.sr;omega
def Sta.step(a:Sta W n p xs ys)(c:p<(W.A.length:Int)):Sta W n (p+1) xs ys:=⟨by have:=a.p0;omega,dM,a.n1,a.hn,a.sr⟩
variable{F' G':(Nd×dc)×PSt->da (da ρ)}
def zHk{xs:db MT}(h:1<=xs.length):∃l m,xs=l++[m]/\l.length+1=xs.length:=by
 rcases List.eq_nil_or_concat xs with rfl|⟨l,m,rfl⟩
 .simp at h
 .exact⟨l,m,List.concat_eq_append,dQ⟩
variable{F1 G1:dc×PSt->da (da ρ)}
variable{F2 G2:(da MT×dc)×PSt->da (da ρ)}
end
section
variable{W:Sim}{n:Nat}{p q κ b:Int}{xs ys zs zs':db MT}
end
end
section
open Go.Al Go.Den
mutual
/-- The place of a Declarator's name;-1: it has none. -/
def dnN(A:List TokT):Nd->Int
 |.mk _ _ ps=>dnL A (-1) ps
def dnL(A:List TokT):Int->List Nd->Int
 |z,[]=>z
 |z,x::r=>dnL A (if x.kind=10 then dnN A x else if x.kind=0/\zY A x.tok=true then x.tok else z) r
end
section
variable(A:db dw)
def NL(x:Nd):Prop:=(x.kind=0->zY A x.tok=false)/\x.kind≠2/\x.kind≠10
def LW(x:Nd):Prop:=x.kind=0/\zY A x.tok=true
def NLs(ps:db Nd):Prop:=∀x∈ps,NL A x
def SD(ps:db Nd):Prop:=NLs A ps\/∃a x b,ps=a++x::b/\NLs A a/\NLs A b/\(LW A x\/x.kind=10)
def Nm(nd:Nd):Prop:=nd.kind=10/\0<=dnN A nd/\zY A (dnN A nd)=true
def FnD(nd:Nd):Prop:=∃a x y b,nd.kids=a++x::y::b/\NLs A a/\NLs A b/\LW A x/\y.kind=11
def gk(k:Int):dd:=!([0,2,4,5,6,7,8,9,10,12,14,28,29,40,46].contains k)
def Sh(k:Int)(ps:db Nd):Prop:=
 (gk k=true->NLs A ps) /\
 (k=2->∃s d b,ps=[s,d,b]/\NL A s/\Nm A d/\FnD A d/\b.kind=20) /\
 (k=4->∀x∈ps,x.kind≠2/\x.kind≠10) /\
 (k=5\/k=6->∃a b r,ps=a::b::r/\NL A a/\b.kind=0/\NLs A r) /\
 (k=7->∀x∈ps,NL A x\/Nm A x) /\
 (k=8->∃a r,ps=a::r/\LW A a/\NLs A r) /\
 (k=9->∃a r,ps=a::r/\a.kind=10/\NLs A r) /\
 (k=10->SD A ps) /\
 (k=12\/k=14->∃a r,ps=a::r/\NL A a/\(r=[]\/∃d,r=[d]/\d.kind=10)) /\
 (k=28->∃a b c,ps=[a,b,c]/\NL A a/\a.kind=0/\LW A b/\NL A c/\c.kind=0) /\
 (k=29->∃a b c,ps=[a,b,c]/\LW A a/\NL A b/\b.kind=0/\NL A c) /\
 (k=40->∃a,ps=[a]/\LW A a) /\
 (k=46->∃a b c,ps=[a,b,c]/\NL A a/\NL A b/\b.kind=0/\LW A c)
inductive Sp(A:List TokT):Nd->Prop
 |mk {k p:Int} {ps:List Nd}:(k≠0->Sh A k ps)->(∀x∈ps,Sp A x)->Sp A (.mk k p ps)
def Gd(nd:Nd):Prop:=Sp A nd/\nd.kind≠0/\NL A nd
def Elt(x:Nd):Prop:=Sp A x/\NL A x
def QP(ps:db Nd):Prop:=∀x∈ps,Elt A x
def QS(ps:db Nd):Prop:=∀x∈ps,Sp A x/\x.kind≠2/\x.kind≠10
def Q5(ps:db Nd):Prop:=(∀x∈ps,Sp A x)/\∃a b r,ps=a::b::r/\NL A a/\b.kind=0/\NLs A r
def Q7(ps:db Nd):Prop:=∀x∈ps,Sp A x/\(NL A x\/Nm A x)
def Dc(nd:Nd):Prop:=nd.kind=10/\Sp A nd
def Tp(t:dd)(nd:Nd):Prop:=Gd A nd\/t=true/\nd.kind=2/\Sp A nd
end
section
variable{A:db dw}{k p:Int}{ps qs:db Nd}{x y z nd:Nd}
def Sp.leaf:Sp A (.mk 0 p []):=.mk (λh=>absurd rfl h) λ_ h=>dU
def NL.leaf(h:zY A p=false):NL A (.mk 0 p []):=⟨λ_=>h,by show(0:Int)≠2;decide,by show(0:Int)≠10;decide⟩
def LW.leaf(h:zY A p=true):LW A (.mk 0 p []):=⟨rfl,h⟩
def Dc.sp(h:Dc A x):Sp A x:=h.2
def Elt.leaf(h:zY A p=false):Elt A (.mk 0 p []):=⟨.leaf,.leaf h⟩
def Gd.el(h:Gd A x):Elt A x:=⟨h.1,h.2.2⟩
def QP.nil:QP A []:=λ_ h=>dU
def QP.cons(h:Elt A x)(b:QP A ps):QP A (x::ps):=λy a=>by
 rcases zUG.1 a with rfl|a
 .exact h
 .exact b y a
def QP.app(h:QP A ps)(b:QP A qs):QP A (ps++qs):=λy a=>by
 rcases zUa.1 a with a|a
 .exact h y a
 .exact b y a
def QP.nls(h:QP A ps):NLs A ps:=λx a=>(h x a).2
def QP.sp(h:QP A ps):∀x∈ps,Sp A x:=λx a=>(h x a).1
def QS.nil:QS A []:=λ_ h=>dU
def QS.leaf(h:QS A ps):QS A (ps++[.mk 0 p []]):=λy a=>by
 rcases zUa.1 a with a|a
 .exact h y a
 .obtain rfl:=zUJ.1 a;exact⟨.leaf,by show(0:Int)≠2;decide,by show(0:Int)≠10;decide⟩
def QS.snoc(h:QS A ps)(b:Gd A x):QS A (ps++[x]):=λy a=>by
 rcases zUa.1 a with a|a
 .exact h y a
 .obtain rfl:=zUJ.1 a;exact⟨b.1,b.2.2.2⟩
def Q5.two{a b:Int}(h:zY A a=false):Q5 A [.mk 0 a [],.mk 0 b []]:=⟨λy c=>by
 rcases zUG.1 c with rfl|c
 .exact .leaf
 .obtain rfl:=zUJ.1 c;exact .leaf,_,_,[],rfl,.leaf h,rfl,λ_ h=>dU⟩
def Q5.snoc(h:Q5 A ps)(d:Elt A x):Q5 A (ps++[x]):=by
 obtain⟨e,a,b,r,rfl,f,g,i⟩:=h;refine⟨λy c=>?_,a,b,r++[x],rfl,f,g,λy c=>?_⟩
 .rcases zUa.1 c with c|c
  .exact e y c
  .obtain rfl:=zUJ.1 c;exact d.1
 .rcases zUa.1 c with c|c
  .exact i y c
  .obtain rfl:=zUJ.1 c;exact d.2
def Q5.app(h:Q5 A ps)(a:QP A qs):Q5 A (ps++qs):=by
 induction qs generalizing ps with
 |nil=>rwa [zUR]
 |cons x r b=>
  have:=b (h.snoc (a x zUz)) λy c=>a y (zUW _ c)
  rwa [zVB]at this
def Q7.one(h:Gd A x):Q7 A [x]:=λy a=>by obtain rfl:=zUJ.1 a;exact⟨h.1,.inl h.2.2⟩
def Q7.snoc(h:Q7 A ps)(b:Sp A x)(c:NL A x\/Nm A x):Q7 A (ps++[x]):=λy a=>by
 rcases zUa.1 a with a|a
 .exact h y a
 .obtain rfl:=zUJ.1 a;exact⟨b,c⟩
def Q7.app(h:Q7 A ps)(b:Q7 A qs):Q7 A (ps++qs):=λy a=>by
 rcases zUa.1 a with a|a
 .exact h y a
 .exact b y a
def Q7.el(h:Elt A x):Q7 A [x]:=λy a=>by obtain rfl:=zUJ.1 a;exact⟨h.1,.inl h.2⟩
def Q7.nm(h:Sp A x)(a:Nm A x):Q7 A [x]:=λy b=>by obtain rfl:=zUJ.1 b;exact⟨h,.inr a⟩
def Sh.gen(a:gk k=true)(h:NLs A ps):Sh A k ps:=by
 refine⟨λ_=>h,?_,?_,?_,?_,?_,?_,?_,?_,?_,?_,?_,?_⟩<;>intro e<;>first|(subst e;exact absurd a dP)|(rcases e with rfl|rfl<;>exact absurd a dP)
def gk_ne(a:gk k=true):k≠0/\k≠2/\k≠10:=by
 refine⟨?_,?_,?_⟩<;>intro e<;>subst e<;>exact absurd a dP
def Gd.of(a:k≠0/\k≠2/\k≠10)(h:Sh A k ps)(b:∀x∈ps,Sp A x):Gd A (.mk k 0 ps):=⟨.mk (λ_=>h) b,a.1,λe=>absurd e a.1,a.2.1,a.2.2⟩
def Gd.mk(a:gk k=true)(h:QP A ps):Gd A (.mk k 0 ps):=.of (gk_ne a) (.gen a h.nls) h.sp
def Gd.specs(h:QS A ps):Gd A (.mk 4 0 ps):=.of dP (by
 refine⟨?_,?_,?_,?_,?_,?_,?_,?_,?_,?_,?_,?_,?_⟩<;>intro e<;>first|exact absurd e dP|exact λx a=>(h x a).2) λx a=>(h x a).1
def Gd.tagged(a:k=5\/k=6)(h:Q5 A ps):Gd A (.mk k 0 ps):=by
 rcases a with rfl|rfl<;>exact .of dP (by
  refine⟨?_,?_,?_,?_,?_,?_,?_,?_,?_,?_,?_,?_,?_⟩<;>intro e<;>first|exact absurd e dP|exact h.2) h.1
def Gd.member(h:Q7 A ps):Gd A (.mk 7 0 ps):=.of dP (by
 refine⟨?_,?_,?_,?_,?_,?_,?_,?_,?_,?_,?_,?_,?_⟩<;>intro e<;>first|exact absurd e dP|exact λx a=>(h x a).2) λx a=>(h x a).1
def Gd.etor(h:zY A p=true)(b:QP A ps):Gd A (.mk 8 0 (.mk 0 p []::ps)):=.of dP (by
 refine⟨?_,?_,?_,?_,?_,?_,?_,?_,?_,?_,?_,?_,?_⟩<;>intro e<;>first|exact absurd e dP|exact⟨_,_,rfl,.leaf h,b.nls⟩) λx a=>by
 rcases zUG.1 a with rfl|a
 .exact .leaf
 .exact b.sp x a
def Gd.init(h:Dc A x)(b:QP A ps):Gd A (.mk 9 0 (x::ps)):=.of dP (by
 refine⟨?_,?_,?_,?_,?_,?_,?_,?_,?_,?_,?_,?_,?_⟩<;>intro e<;>first|exact absurd e dP|exact⟨_,_,rfl,h.1,b.nls⟩) λy a=>by
 rcases zUG.1 a with rfl|a
 .exact h.2
 .exact b.sp y a
def Gd.param(f:k=12\/k=14)(h:Gd A x)(c:ps=[]\/∃d,ps=[d]/\Dc A d):Gd A (.mk k 0 (x::ps)):=by
 have g:∀y∈x::ps,Sp A y:=λy a=>by
  rcases zUG.1 a with rfl|a
  .exact h.1
  .rcases c with rfl|⟨d,rfl,b⟩
   .cases a
   .obtain rfl:=zUJ.1 a;exact b.2
 have i:ps=[]\/∃d,ps=[d]/\d.kind=10:=c.imp id λ⟨d,e,b⟩=>⟨d,e,b.1⟩;rcases f with rfl|rfl<;>exact .of dP (by
  refine⟨?_,?_,?_,?_,?_,?_,?_,?_,?_,?_,?_,?_,?_⟩<;>intro e<;>first|exact absurd e dP|exact⟨_,_,rfl,h.2.2,i⟩) g
def sp3(h:Sp A x)(b:Sp A y)(c:Sp A z):∀w∈[x,y,z],Sp A w:=λw a=>by
 simp only[zUG,zU4,zVL]at a;rcases a with rfl|rfl|rfl
 .exact h
 .exact b
 .exact c
def Gd.goto_{a b c:Int}(h:zY A a=false)(d:zY A b=true)(f:zY A c=false):Gd A (.mk 28 0 [.mk 0 a [],.mk 0 b [],.mk 0 c []]):=.of dP (by
 refine⟨?_,?_,?_,?_,?_,?_,?_,?_,?_,?_,?_,?_,?_⟩<;>intro e<;>first|exact absurd e dP|exact⟨_,_,_,rfl,.leaf h,rfl,.leaf d,.leaf f,rfl⟩) (sp3 .leaf .leaf .leaf)
def Gd.label{a b:Int}(h:zY A a=true)(d:zY A b=false)(c:Gd A x):Gd A (.mk 29 0 [.mk 0 a [],.mk 0 b [],x]):=.of dP (by
 refine⟨?_,?_,?_,?_,?_,?_,?_,?_,?_,?_,?_,?_,?_⟩<;>intro e<;>first|exact absurd e dP|exact⟨_,_,_,rfl,.leaf h,.leaf d,rfl,c.2.2⟩) (sp3 .leaf .leaf c.1)
def Gd.name(h:zY A p=true):Gd A (.mk 40 0 [.mk 0 p []]):=.of dP (by
 refine⟨?_,?_,?_,?_,?_,?_,?_,?_,?_,?_,?_,?_,?_⟩<;>intro e<;>first|exact absurd e dP|exact⟨_,rfl,.leaf h⟩) λy a=>by obtain rfl:=zUJ.1 a;exact .leaf
def Gd.dot{a b:Int}(h:Gd A x)(c:zY A a=false)(d:zY A b=true):Gd A (.mk 46 0 [x,.mk 0 a [],.mk 0 b []]):=.of dP (by
 refine⟨?_,?_,?_,?_,?_,?_,?_,?_,?_,?_,?_,?_,?_⟩<;>intro e<;>first|exact absurd e dP|exact⟨_,_,_,rfl,h.2.2,.leaf c,rfl,.leaf d⟩) (sp3 h.1 .leaf .leaf)
def Sh.decl(h:SD A ps):Sh A 10 ps:=by
 refine⟨?_,?_,?_,?_,?_,?_,?_,?_,?_,?_,?_,?_,?_⟩<;>intro e<;>first|exact absurd e dP|exact h
def Dc.of(h:SD A ps)(a:∀x∈ps,Sp A x):Dc A (.mk 10 0 ps):=⟨rfl,.mk (λ_=>.decl h) a⟩
def zPF{b c:db Nd}(h:QP A b)(d:Sp A x)(e:QP A c):∀y∈b++x::c,Sp A y:=λy a=>by
 rcases zUa.1 a with a|a
 .exact h.sp y a
 .rcases zUG.1 a with rfl|a
  .exact d
  .exact e.sp y a
def Dc.name{a b:db Nd}(h:QP A a)(d:zY A p=true)(c:QP A b):Dc A (.mk 10 0 (a++.mk 0 p []::b)):=.of (.inr ⟨_,_,_,rfl,h.nls,c.nls,.inl (.leaf d)⟩) (zPF h .leaf c)
def Dc.within{a b:db Nd}(h:QP A a)(c:Dc A x)(d:QP A b):Dc A (.mk 10 0 (a++x::b)):=.of (.inr ⟨_,_,_,rfl,h.nls,d.nls,.inr c.1⟩) (zPF h c.2 d)
def Dc.none(h:QP A ps):Dc A (.mk 10 0 ps):=.of (.inl h.nls) h.sp
def zKh:∀{ps:db Nd}(z:Int),NLs A ps->∀r,dnL A z (ps++r)=dnL A z r
 |[],_,_,_=>rfl
 |x::ps,z,h,r=>by
  obtain⟨a,d,b⟩:=h x zUz;have e:¬(x.kind=0/\zY A x.tok=true):=λe=>by rw[a e.1]at e;cases e.2
  show dnL A (if x.kind=10 then _ else if _ then _ else z) (ps++r)=_;rw[if_neg b,if_neg e];exact zKh z (λy c=>h y (zUW _ c)) r
def zI6(z:Int)(h:NLs A ps):dnL A z ps=z:=by have:=zKh z h [];rwa [zUR]at this
def zDQ{a b:db Nd}{k p:Int}(h:NLs A a)(c:NLs A b):dnN A (.mk k p (a++x::b))=if x.kind=10 then dnN A x else if x.kind=0/\zY A x.tok=true then x.tok else -1:=by
 show dnL A (-1) (a++x::b)=_;rw[zKh _ h];exact zI6 _ c
def Nm.name{a b:db Nd}(h:NLs A a)(c:zY A p=true)(d:0<=p)(e:NLs A b):Nm A (.mk 10 0 (a++.mk 0 p []::b)):=by
 refine⟨rfl,?_⟩;rw[zDQ h e];show 0<=(if(0:Int)=10 then _ else if(0:Int)=0/\zY A p=true then p else -1)/\zY A (if(0:Int)=10 then _ else if(0:Int)=0/\zY A p=true then p else -1)=true;rw[if_neg dP,if_pos ⟨rfl,c⟩];exact⟨d,c⟩
def Nm.within{a b:db Nd}(h:NLs A a)(c:Nm A x)(d:NLs A b):Nm A (.mk 10 0 (a++x::b)):=by
 refine⟨rfl,?_⟩;rw[zDQ h d,if_pos c.1];exact c.2
def Fn.mk{s d b:Nd}(h:Gd A s)(a:Dc A d)(c:Nm A d)(f:FnD A d)(g:Gd A b)(i:b.kind=20):Sp A (.mk 2 0 [s,d,b]):=.mk (λ_=>by
 refine⟨?_,?_,?_,?_,?_,?_,?_,?_,?_,?_,?_,?_,?_⟩<;>intro e<;>first|exact absurd e dP|exact⟨_,_,_,rfl,h.2.2,c,f,i⟩) (sp3 h.1 a.2 g.1)
def FnD.mk{a b:db Nd}(h:NLs A a)(c:NLs A b)(d:zY A p=true)(e:y.kind=11):FnD A (.mk 10 0 (a++.mk 0 p []::y::b)):=⟨_,_,_,_,rfl,h,c,.leaf d,e⟩
def Tp.gd{t:dd}(h:Gd A x):Tp A t x:=.inl h
def Tp.fn{t:dd}(h:t=true)(a:x.kind=2)(b:Sp A x):Tp A t x:=.inr ⟨h,a,b⟩
end
structure Toks(A:List TokT):Prop where
 len:A.length<=4000
 kw:∀p w,(weakW.contains w||fullW.contains w)=true->zt A p=w->zY A p=false
structure Sto(A:List TokT)(n:Nat)(p:Int)(xs:List MT):Prop where
 p0:0<=p
 p1:p<=(A.length:Int)
 n1:1<=n
 hn:xs.length=n
def K1{ρ:Type}(a:da (da ρ))(Q:ρ->Prop):Prop:=∃o,a=some o/\∀y,o=some y->Q y
section
variable{ρ:Type}{Q:ρ->Prop}
def ya:K1 (some none) Q:=⟨none,rfl,λy h=>dU⟩
def zKG{y:ρ}(h:Q y):K1 (some (some y)) Q:=⟨some y,rfl,λz a=>by injection a with a;subst a;exact h⟩
def zCb{c:dd}{t f:da (da ρ)}(a:c=true->K1 t Q)(b:c=false->K1 f Q):K1 (cond c t f) Q:=by
 cases c
 .exact b rfl
 .exact a rfl
def zHl{c:dd}{t f:da (da ρ)}(h:K1 (cond c f t) Q):K1 (cond (!c) t f) Q:=by cases c<;>exact h
def yw{k:Nat}{t:da (da ρ)}(a:k<=100000)(h:K1 t Q):K1 (cond (okN 40 k) t none) Q:=by
 rw[show okN 40 k=true from zCn dM (by simp[maxLen];omega),zUi];exact h
def jx{σ:Type}{F:(σ->da (da ρ))->σ->da (da ρ)}(I:σ->Prop)(μ:σ->Nat)
 (step:∀(rec:σ->da (da ρ)) s,I s->(∀t,I t->μ t<μ s->K1 (rec t) Q)->K1 (F rec s) Q):∀(n:Nat) s,I s->μ s<n->K1 (iter n F s) Q:=by
 intro n
 induction n with
 |zero=>intro s _ h;omega
 |succ n a=>
  intro s b e;exact step _ s b λt c d=>a t c dM
def K_bind{a:Type}{b:a->Prop}{X:da (da a)}{F:a->da (da ρ)}(c:K1 X b)(h:∀y,b y->K1 (F y) Q):K1 (Option.bind X λd=>zX d (some none) F) Q:=by
 obtain⟨o,rfl,e⟩:=c;cases o with
 |none=>exact ya
 |some y=>exact h y (e y rfl)
end
def SpK1(A:db dw){β:Type}(n:Nat)(p:Int)(xs:db MT)(f:MM β)(R:Int->β->Prop):Prop:=K1 (f A (p,xs)) λy=>Sto A n y.2.1 y.2.2/\R y.2.1 y.1
section
variable{A:db dw}{ρ:Type}{Q:ρ->Prop}{n:Nat}{p:Int}{xs:db MT}
def jg{β:Type}{f:MM β}{R:Int->β->Prop}{F:β×PSt->da (da ρ)}(b:SpK1 A n p xs f R)(h:∀q zs r,Sto A n q zs->q<=(A.length:Int)->R q r->K1 (F (r,(q,zs))) Q) :
 K1 (Option.bind (f A (p,xs)) λc=>zX c (some none) F) Q:=by
 refine K_bind b ?_;rintro⟨r,q,zs⟩ ⟨a,d⟩;exact h q zs r a a.p1 d
variable{P:Pr}{F:(dd×dc)×PSt->da (da ρ)}
abbrev _root_.dJ:=@Toks
def Sto.ok(b:dJ A)(a:Sto A n p xs):0<=p/\p<=(A.length:Int)/\A.length<1000000:=⟨a.p0,a.p1,by have:=b.len;omega⟩
def zQF(a:dJ A){L:db Str}(b:(L.all λw=>weakW.contains w||fullW.contains w)=true)(h:isF L A p=true):zY A p=false:=by
 unfold isF at h;rw[zUE]at h;exact a.kw p _ (zUb.1 b _ (by simpa using h.2)) rfl
def K_is(b:P.Ok)(a:dJ A)(c:Sto A n p xs){L:db Str}(d:(L.all λw=>weakW.contains w||fullW.contains w)=true)(f:L.length<1000)
 (g:isF L A p=true->zY A p=false->p<(A.length:Int)->K1 (F ((true,()),(p,xs))) Q) (h:isF L A p=false->K1 (F ((false,()),(p,xs))) Q) :
 K1 (Option.bind (P.c54 (L,()) A (p,xs)) λi=>zX i (some none) F) Q:=by
 obtain⟨k1,k2,j⟩:=c.ok a;rw[b.e54 L f k1 k2 j];show K1 (F ((isF L A p,()),(p,xs))) Q;cases e:isF L A p with
 |true=>exact g e (zQF a d e) (zH4 e)
 |false=>exact h e
def zBc(a:P.Ok)(b:dJ A)(c:Sto A n p xs){F:(Str×dc)×PSt->da (da ρ)}(h:K1 (F ((zt A p,()),(p,xs))) Q):K1 (Option.bind (P.c72 (0,()) A (p,xs)) λd=>zX d (some none) F) Q:=by
 obtain⟨k1,k2,e⟩:=c.ok b;rw[a.e72 0 k1 k2 e dM dM,Int.add_zero];exact h
def zBW(a:P.Ok)(b:dJ A)(c:Sto A n p xs){F:(Str×dc)×PSt->da (da ρ)}(h:K1 (F ((zt A (p+1),()),(p,xs))) Q):K1 (Option.bind (P.c72 (1,()) A (p,xs)) λd=>zX d (some none) F) Q:=by
 obtain⟨k1,k2,e⟩:=c.ok b;rw[a.e72 1 k1 k2 e dM dM];exact h
def zKF(a:dJ A){w:Str}{t f:da (da ρ)}(q:Int)(b:(weakW.contains w||fullW.contains w)=true)(c:zt A q=w->zY A q=false->K1 t Q)(d:zt A q≠w->K1 f Q):K1 (cond (seq (zt A q) w) t f) Q:=by
 rw[zEh];by_cases e:zt A q=w
 .rw[zUg e];exact c e (a.kw q w b e)
 .rw[zUh e];exact d e
def K_c33{L:db Str}{F:dd×dc->da (da ρ)}(q:Int)(a:L.length<1000)(b:K1 (F (true,())) Q)(c:K1 (F (false,())) Q):K1 (Option.bind (c33 (L,(zt A q,()))) F) Q:=by
 rw[show c33 (L,(zt A q,()))=some (L.contains (zt A q),())from if_pos a];cases L.contains (zt A q)
 .exact c
 .exact b
def lvl_kw(f:dJ A)(q:Int)(h:lvlF (zt A q)≠0):zY A q=false:=by
 have b:∀w,w∈([[124,124],[38,38],[124],[94],[38],[61,61],[33,61],[60],[62],[60,61],[62,61],[60,60],[62,62],[43],[45],[42],[47],[37]]:db Str)->zt A q=w->zY A q=false:=λw c e=>
  f.kw q w ((show∀w∈([[124,124],[38,38],[124],[94],[38],[61,61],[33,61],[60],[62],[60,61],[62,61],[60,60],[62,62],[43],[45],[42],[47],[37]]:db Str),(weakW.contains w||fullW.contains w)=true by decide) w c) e
 by_cases d:zt A q∈([[124,124],[38,38],[124],[94],[38],[61,61],[33,61],[60],[62],[60,61],[62,61],[60,60],[62,62],[43],[45],[42],[47],[37]]:db Str)
 .exact b _ d rfl
 .exfalso;refine h ?_;have a:∀w∈([[124,124],[38,38],[124],[94],[38],[61,61],[33,61],[60],[62],[60,61],[62,61],[60,60],[62,62],[43],[45],[42],[47],[37]]:db Str),seq (zt A q) w=false:=λw c=>by
   rw[zEh];exact zUh λe=>d (e▸c)
  unfold lvlF sh143;rw[a [124,124] dP,a [38,38] dP,a [124] dP,a [94] dP,a [38] dP,a [61,61] dP,a [33,61] dP,a [60] dP,a [62] dP,a [60,61] dP,a [62,61] dP,a [60,60] dP,a [62,62] dP,a [43] dP,a [45] dP,a [42] dP,a [47] dP,a [37] dP];rfl
def K_c143(a:dJ A){F:Int×dc->da (da ρ)}(q:Int)(h:(lvlF (zt A q)≠0->zY A q=false)->K1 (F (lvlF (zt A q),())) Q):K1 (Option.bind (c143 (zt A q,())) F) Q:=by
 rw[zSt];exact h (lvl_kw a q)
def ze{a b:Int}(h:ieq a b=false):a≠b:=λe=>by rw[zRs e]at h;cases h
def zAU(a:P.Ok)(b:dJ A)(c:Sto A n p xs)(d:zY A p=true->p<(A.length:Int)->K1 (F ((true,()),(p,xs))) Q)(f:zY A p=false->K1 (F ((false,()),(p,xs))) Q) :
 K1 (Option.bind (P.c85 (0,()) A (p,xs)) λg=>zX g (some none) F) Q:=by
 obtain⟨k1,k2,h⟩:=c.ok b;rw[a.e85 0 k1 k2 h dM dM,Int.add_zero];show K1 (F ((zY A p,()),(p,xs))) Q;cases e:zY A p with
 |true=>exact d e (zBL e)
 |false=>exact f e
def zAN(a:P.Ok)(b:dJ A)(d:Sto A n p xs)(e:K1 (F ((true,()),(p,xs))) Q)(f:K1 (F ((false,()),(p,xs))) Q):K1 (Option.bind (P.c85 (1,()) A (p,xs)) λg=>zX g (some none) F) Q:=by
 obtain⟨k1,k2,h⟩:=d.ok b;rw[a.e85 1 k1 k2 h dM dM];show K1 (F ((zY A (p+1),()),(p,xs))) Q;generalize zY A (p+1)=c;cases c
 .exact f
 .exact e
def zSA{k:Int}(a:k≠1)(h:kH k A p=true):zY A p=false:=by
 unfold kH at h;rw[zUE]at h;have:=zUw h.2;unfold zY;rw[show decide ((tkA A p).kind=1)=false from zUh (by rw[this];exact a),Bool.false_and,Bool.and_false]
def zIA(a:P.Ok)(b:dJ A)(c:Sto A n p xs){k:Int}(d:kH k A p=true->(k≠1->zY A p=false)->p<(A.length:Int)->K1 (F ((true,()),(p,xs))) Q)(f:kH k A p=false->K1 (F ((false,()),(p,xs))) Q) :
 K1 (Option.bind (P.c112 (k,()) A (p,xs)) λg=>zX g (some none) F) Q:=by
 obtain⟨k1,k2,h⟩:=c.ok b;rw[a.e112 k k1 k2 h];show K1 (F ((kH k A p,()),(p,xs))) Q;cases e:kH k A p with
 |true=>exact d e (λi=>zSA i e) (by unfold kH at e;simp only[zUE,zU7]at e;exact e.1)
 |false=>exact f e
def Sto.small(b:dJ A)(a:Sto A n p xs)(c:(n:Int)<=2*p+3):xs.length<1000000:=by have:=a.p1;have:=b.len;have:=a.hn;omega
def zNN(c:P.Ok)(a:dJ A)(b:Sto A n p xs)(d:(n:Int)<=2*p+3)(f:zY A p=true->p<(A.length:Int)->K1 (F ((true,()),(p,xs))) Q)(g:K1 (F ((false,()),(p,xs))) Q) :
 K1 (Option.bind (P.c76 (0,()) A (p,xs)) λh=>zX h (some none) F) Q:=by
 obtain⟨k1,k2,i⟩:=b.ok a;rw[c.e76 0 k1 k2 i dM dM (b.small a d),Int.add_zero];show K1 (F ((zBG A xs p,()),(p,xs))) Q;cases e:zBG A xs p with
 |true=>
  have:=e;unfold zBG at this;rw[zUE]at this;exact f this.1 (zBL this.1)
 |false=>exact g
def zM3(d:P.Ok)(a:dJ A)(b:Sto A n p xs)(e:(n:Int)<=2*p+3)(f:K1 (F ((true,()),(p,xs))) Q)(g:K1 (F ((false,()),(p,xs))) Q):K1 (Option.bind (P.c76 (1,()) A (p,xs)) λh=>zX h (some none) F) Q:=by
 obtain⟨k1,k2,i⟩:=b.ok a;rw[d.e76 1 k1 k2 i dM dM (b.small a e)];show K1 (F ((zBG A xs (p+1),()),(p,xs))) Q;generalize zBG A xs (p+1)=c;cases c
 .exact g
 .exact f
def zEq(d:P.Ok)(a:dJ A)(b:Sto A n p xs)(e:(n:Int)<=2*p+3){f:Int}(g:0<=f)(f1:f<1000000)(h:K1 (F ((true,()),(p,xs))) Q)(i:K1 (F ((false,()),(p,xs))) Q):K1 (Option.bind (P.c84 (f,()) A (p,xs)) λj=>zX j (some none) F) Q:=by
 obtain⟨k1,k2,l⟩:=b.ok a;rw[d.e84 f k1 k2 l g f1 (b.small a e)];show K1 (F ((zGP A xs (p+f),()),(p,xs))) Q;generalize zGP A xs (p+f)=c;cases c
 .exact i
 .exact h
def Sto.step(a:Sto A n p xs)(b:p<(A.length:Int)):Sto A n (p+1) xs:=⟨by have:=a.p0;omega,dM,a.n1,a.hn⟩
variable{F':(Nd×dc)×PSt->da (da ρ)}
def yq(c:P.Ok)(d:dJ A)(b:Sto A n p xs)(h:p<(A.length:Int)->Sto A n (p+1) xs->Tr p (p+1) (Nd.mk 0 p [])->K1 (F' ((Nd.mk 0 p [],()),(p+1,xs))) Q) :
 K1 (Option.bind (P.c73 () A (p,xs)) λe=>zX e (some none) F') Q:=by
 obtain⟨k1,k2,f⟩:=b.ok d;rw[c.e73 k1 k2 f];by_cases a:p<(A.length:Int)
 .rw[if_pos a];exact h a (b.step a) (Tr.leaf p)
 .rw[if_neg a];exact ya
def qC(d:P.Ok)(b:dJ A)(c:Sto A n p xs){s:Str}(e:(weakW.contains s||fullW.contains s)=true)(h:zY A p=false->p<(A.length:Int)->Sto A n (p+1) xs->Tr p (p+1) (Nd.mk 0 p [])->K1 (F' ((Nd.mk 0 p [],()),(p+1,xs))) Q) :
 K1 (Option.bind (P.c78 (s,()) A (p,xs)) λf=>zX f (some none) F') Q:=by
 obtain⟨k1,k2,g⟩:=c.ok b;rw[d.e78 s k1 k2 g];by_cases a:isF [s] A p=true
 .rw[if_pos a];exact h (zQF b (by rw[zUd,e];rfl) a) (zH4 a) (c.step (zH4 a)) (Tr.leaf p)
 .rw[if_neg a];exact ya
def zBe(c:P.Ok)(d:dJ A)(b:Sto A n p xs)(h:zY A p=true->p<(A.length:Int)->Sto A n (p+1) xs->Tr p (p+1) (Nd.mk 0 p [])->K1 (F' ((Nd.mk 0 p [],()),(p+1,xs))) Q) :
 K1 (Option.bind (P.c80 () A (p,xs)) λe=>zX e (some none) F') Q:=by
 obtain⟨k1,k2,f⟩:=b.ok d;rw[c.e80 k1 k2 f];by_cases a:zY A p=true
 .rw[if_pos a];exact h a (zBL a) (b.step (zBL a)) (Tr.leaf p)
 .rw[if_neg a];exact ya
variable{F1:dc×PSt->da (da ρ)}
def zFm(b:dJ A)(a:Sto A n p xs)(c:(n:Int)<=2*p+3){m:MT}(h:∀zs,Sto A (n+1) p zs->K1 (F1 ((),(p,zs))) Q):K1 (Option.bind (c59 (some m,()) A (p,xs)) λd=>zX d (some none) F1) Q:=by
 rw[show c59 (some m,()) A (p,xs)=some (some ((),(p,xs++[m])))from if_pos (a.small b c)];exact h _ ⟨a.p0,a.p1,dM,by rw[zUI,a.hn];rfl⟩
variable{F2:(da MT×dc)×PSt->da (da ρ)}
def zHm(b:dJ A)(a:Sto A (n+1) p xs)(c:1<=n)(i:(n:Int)<=2*p+2)(h:∀m zs,Sto A n p zs->K1 (F2 ((some m,()),(p,zs))) Q):K1 (Option.bind (c61 () A (p,xs)) λd=>zX d (some none) F2) Q:=by
 have e:=a.small b dM;have f:=a.hn;obtain⟨l,m,rfl,j⟩:=zHk (xs:=xs) dM;have g:c61 () A (p,l++[m])=some (some ((some m,()),(p,l))):=by
  unfold c61;rw[if_pos e];simp
 rw[g];exact h m l ⟨a.p0,a.p1,c,dM⟩
def zKH(d:dJ A)(a:Sto A n p xs)(e:(n:Int)<=2*p+3){s:Str}{t:dd}(h:∀zs,Sto A n p zs->K1 (F1 ((),(p,zs))) Q):K1 (Option.bind (c58 (s,(t,())) A (p,xs)) λf=>zX f (some none) F1) Q:=by
 by_cases e0:s=[]
 .rw[show c58 (s,(t,())) A (p,xs)=some (some ((),(p,xs)))from if_pos e0];exact h _ a
 .have b:=a.hn;have c:=a.n1;have g:=a.small d e;obtain⟨l,m,rfl,i⟩:=zHk (xs:=xs) dM;rw[show c58 (s,(t,())) A (p,l++[m])=some (some ((),(p,l++[yd m s (if t=true then 2 else 1)])))by unfold c58;rw[if_neg e0,if_pos g];simp];exact h _ ⟨a.p0,a.p1,c,by rw[zUI]at b ⊢;exact b⟩
def zKT{t f:da (da ρ)}{z:Int}{ps:db Nd}(a:z<(ps.length:Int)->K1 t Q)(b:(ps.length:Int)<=z->K1 f Q):K1 (cond (ilt z (lenI ps)) t f) Q:=by
 refine zCb (λe=>a (zUw e)) λe=>b ?_;have:=zVj e;change ¬z<(ps.length:Int)at this;omega
end
section
variable{A:db dw}{n:Nat}{p q:Int}{xs zs:db MT}
def KM1(A:db dw){β:Type}(n:Nat)(R:Int->β->Prop)(y:(dx×dc)×β):Prop:=y.1.1.1=A/\Sto A n y.1.1.2.1 y.1.1.2.2.1/\R y.1.1.2.1 y.2
def KX1(A:db dw){β:Type}(n:Nat)(R:Int->β×db Nd->Prop)(y:(dx×NdsT×dc)×β):Prop:=y.1.1.1=A/\Sto A n y.1.1.2.1 y.1.1.2.2.1/\R y.1.1.2.1 (y.2,y.1.2.1.1)
def KL1(A:db dw){β:Type}(n:Nat)(R:Int->β×da MT->Prop)(y:(zD4×dc)×β):Prop:=y.1.1.1=A/\Sto A n y.1.1.2.1 y.1.1.2.2.1/\R y.1.1.2.1 (y.2,y.1.1.2.2.2.1)
def KN1(A:db dw){β:Type}(n:Nat)(R:Int->β×da (da MT)->Prop)(y:(jN×dc)×β):Prop:=y.1.1.1=A/\Sto A n y.1.1.2.1 y.1.1.2.2.1/\R y.1.1.2.1 (y.2,y.1.1.2.2.2.1)
def qQ{aa rs:LK}{b:dx×dc->zA aa->da (da ((dx×dc)×zA rs))}{a:zA aa}{R:Int->zA rs->Prop}
 (h:K1 (b ((A,(p,(xs,((),())))),()) a) (KM1 A n R)):SpK1 A n p xs (mM b a) R:=by
 obtain⟨o,d,e⟩:=h;cases o with
 |none=>exact⟨none,by show outM A (b ((A,(p,(xs,((),())))),()) a)=_;rw[d];rfl,λy h=>dU⟩
 |some y=>
  obtain⟨k1,k2,f⟩:=e y rfl;refine⟨some (y.2,(y.1.1.2.1,y.1.1.2.2.1)),?_,λz c=>?_⟩
  .show outM A (b ((A,(p,(xs,((),())))),()) a)=_;rw[d];exact if_pos k1
  .injection c with c
   subst c;exact⟨k2,f⟩
def xq{β:Type}{R:Int->β->Prop}{r:β}(a:Sto A n q zs)(b:R q r):K1 (some (some (((A,(q,(zs,((),())))),()),r))) (KM1 A n R):=zKG ⟨rfl,a,b⟩
def zIS{aa rs:LK}{b:dx×NdsT×dc->zA aa->da (da ((dx×NdsT×dc)×zA rs))}{a:zA aa}{ps:db Nd}{R:Int->zA rs×db Nd->Prop}
 (h:K1 (b ((A,(p,(xs,((),())))),((ps,()),())) a) (KX1 A n R)):SpK1 A n p xs (mX b a ps) R:=by
 obtain⟨o,d,e⟩:=h;cases o with
 |none=>exact⟨none,by show outX A (b ((A,(p,(xs,((),())))),((ps,()),())) a)=_;rw[d];rfl,λy h=>dU⟩
 |some y=>
  obtain⟨k1,k2,f⟩:=e y rfl;refine⟨some ((y.2,y.1.2.1.1),(y.1.1.2.1,y.1.1.2.2.1)),?_,λz c=>?_⟩
  .show outX A (b ((A,(p,(xs,((),())))),((ps,()),())) a)=_;rw[d];exact if_pos k1
  .injection c with c
   subst c;exact⟨k2,f⟩
def zIY{β:Type}{R:Int->β×db Nd->Prop}{r:β}{ps:db Nd}(a:Sto A n q zs)(b:R q (r,ps)):K1 (some (some (((A,(q,(zs,((),())))),((ps,()),())),r))) (KX1 A n R):=zKG ⟨rfl,a,b⟩
def SpK1_L{aa rs:LK}{b:dx×dc->zA aa->da (da ((zD4×dc)×zA rs))}{a:zA aa}{R:Int->zA rs×da MT->Prop}
 (h:K1 (b ((A,(p,(xs,((),())))),()) a) (KL1 A n R)):SpK1 A n p xs (mL b a) R:=by
 obtain⟨o,d,e⟩:=h;cases o with
 |none=>exact⟨none,by show outL A (b ((A,(p,(xs,((),())))),()) a)=_;rw[d];rfl,λy h=>dU⟩
 |some y=>
  obtain⟨k1,k2,f⟩:=e y rfl;refine⟨some ((y.2,y.1.1.2.2.2.1),(y.1.1.2.1,y.1.1.2.2.1)),?_,λz c=>?_⟩
  .show outL A (b ((A,(p,(xs,((),())))),()) a)=_;rw[d];exact if_pos k1
  .injection c with c
   subst c;exact⟨k2,f⟩
def K_retL{β:Type}{R:Int->β×da MT->Prop}{r:β}{a:da MT}(b:Sto A n q zs)(c:R q (r,a)):K1 (some (some (((A,(q,(zs,(a,())))),()),r))) (KL1 A n R):=zKG ⟨rfl,b,c⟩
def SpK1_N{aa rs:LK}{b:dx×dc->zA aa->da (da ((jN×dc)×zA rs))}{a:zA aa}{R:Int->zA rs×da (da MT)->Prop}
 (h:K1 (b ((A,(p,(xs,((),())))),()) a) (KN1 A n R)):SpK1 A n p xs (mN b a) R:=by
 obtain⟨o,d,e⟩:=h;cases o with
 |none=>exact⟨none,by show outN A (b ((A,(p,(xs,((),())))),()) a)=_;rw[d];rfl,λy h=>dU⟩
 |some y=>
  obtain⟨k1,k2,f⟩:=e y rfl;refine⟨some ((y.2,y.1.1.2.2.2.1),(y.1.1.2.1,y.1.1.2.2.1)),?_,λz c=>?_⟩
  .show outN A (b ((A,(p,(xs,((),())))),()) a)=_;rw[d];exact if_pos k1
  .injection c with c
   subst c;exact⟨k2,f⟩
def K_retN{β:Type}{R:Int->β×da (da MT)->Prop}{r:β}{a:da (da MT)}(b:Sto A n q zs)(c:R q (r,a)):K1 (some (some (((A,(q,(zs,(a,())))),()),r))) (KN1 A n R):=zKG ⟨rfl,b,c⟩
end
end
section
open Go.Al Go.Den
section
variable(W:Sim)(κ:Int)(k m:Nat)
def zKS(p:Int)(q:Int)(r a:Nd×dc):Prop:=Tr p q r.1/\a.1=shN W.d r.1
def SpN(c a:dc->MM (Nd×dc)):Prop:=∀n p xs ys,Sta W n p xs ys->(n:Int)<=2*p+2->20*((W.A.length:Int)-p)+k<m->SpJ W κ n p xs ys (c ()) (a ()) (zKS W p)
def SpM(K:Int)(c a:dc->MM (Nd×dc)):Prop:=∀n p xs ys,Sta W n p xs ys->(n:Int)<=2*p+2->20*((W.A.length:Int)-p)+k<m->SpJ W κ n p xs ys (c ()) (a ()) λq r e=>Tr p q r.1/\e.1=shN W.d r.1/\r.1.kind=K
def SpB(c a:dc->MM (Nd×dc)):Prop:=∀n p xs ys,Sta W n p xs ys->(n:Int)<=2*p+3->20*((W.A.length:Int)-p)+k<m->SpJ W κ n p xs ys (c ()) (a ()) (zKS W p)
def SpS(c e:dc->MM (Nd×dd×dc)):Prop:=∀n p xs ys,Sta W n p xs ys->(n:Int)<=2*p+2->20*((W.A.length:Int)-p)+k<m ->
 SpJ W κ n p xs ys (c ()) (e ()) λq r a=>Tr p q r.1/\a.1=shN W.d r.1/\a.2.1=r.2.1/\(r.2.1=true->W.TD)/\r.1.kind=4
def SpP(δ:Int)(c e:dc->db Nd->MM (dc×db Nd)):Prop:=∀n p xs ys a ps,Sta W n p xs ys->(n:Int)<=2*p+2->20*((W.A.length:Int)-p)+k<m->Pt a p ps->0<=a->pk ps ->
 SpJ W κ n p xs ys (c () ps) (e () (shL W.d ps)) λq r f=>p+δ<=q/\Pt a q r.2/\f.2=shL W.d r.2/\pk r.2
def SpD(c e:dc->db Nd->MM (dc×db Nd)):Prop:=∀n p xs ys a ps,Sta W n p xs ys->(n:Int)<=2*p+2->20*((W.A.length:Int)-p)+k<m->Pt a p ps->0<=a->pk ps ->
 SpJ W κ n p xs ys (c () ps) (e () (shL W.d ps)) λq r f=>p<=q/\(isF [[40],[91]] W.A p=true->p<q)/\Pt a q r.2/\f.2=shL W.d r.2/\pk r.2
def SpU(c e:Str×dc->db Nd->MM (dc×db Nd)):Prop:=∀n p xs ys a ps s,fullW.contains s=true->Sta W n p xs ys->(n:Int)<=2*p+2->20*((W.A.length:Int)-p)+k<m->Pt a p ps->0<=a ->
 SpJ W κ n p xs ys (c (s,()) ps) (e (s,()) (shL W.d ps)) λq r f=>p<q/\Pt a q r.2/\f.2=shL W.d r.2/\pk r.2
def MO(d:dd)(c a:da (da MT)):Prop:=(c=none/\a=none/\d=false)\/(c=some none/\a=some none/\d=false)\/∃x e,c=some (some x)/\a=some (some e)/\W.MR x e
def SpC(c e:dc->MM ((Nd×Str×dd×dc)×da (da MT))):Prop:=∀n p xs ys,Sta W n p xs ys->(n:Int)<=2*p+2->20*((W.A.length:Int)-p)+k<m ->
 SpJ W κ n p xs ys (c ()) (e ()) λq r a=>Tr p q r.1.1/\a.1.1=shN W.d r.1.1/\NR W r.1.2.1 a.1.2.1/\a.1.2.2.1=r.1.2.2.1/\MO W r.1.2.2.1 r.2 a.2/\r.1.1.kind=10
def SpK(c f:dd×dc->MM (Nd×Str×dd×dc)):Prop:=∀n p xs ys e,Sta W n p xs ys->(n:Int)<=2*p+2->20*((W.A.length:Int)-p)+k<m ->
 SpJ W κ n p xs ys (c (e,())) (f (e,())) λq r a=>p<=q/\(r.2.2.1=true->Tr p q r.1)/\a.1=shN W.d r.1/\NR W r.2.1 a.2.1/\a.2.2.1=r.2.2.1/\(r.2.2.1=false->q=p)/\r.1.kind=10
def SpL(c f:dc->MM ((Nd×dc)×da MT)):Prop:=∀n p xs ys,Sta W n p xs ys->(n:Int)<=2*p+2->20*((W.A.length:Int)-p)+k<m ->
 SpJ W κ n p xs ys (c ()) (f ()) λq r a=>Tr p q r.1.1/\a.1.1=shN W.d r.1.1/\r.1.1.kind=11/\∃x e,r.2=some x/\a.2=some e/\W.MR x e
def SpI(c f:Nd×Str×dd×dc->MM (Nd×dc)):Prop:=∀n p xs ys e a s s' t,Sta W n p xs ys->(n:Int)<=2*p+2->20*((W.A.length:Int)-p)+k<m->Tr e p a->0<=e->NR W s s'->(t=true->W.TD)->a.kind=10 ->
 SpJ W κ n p xs ys (c (a,(s,(t,())))) (f (shN W.d a,(s',(t,())))) λq r g=>p<=q/\Tr e q r.1/\g.1=shN W.d r.1
def SpR(c e:(db Nd×dc)×dd×dc->MM (Nd×dc)):Prop:=∀n p xs ys a ps t,Sta W n p xs ys->(n:Int)<=2*p+2->20*((W.A.length:Int)-p)+k<m->Pt a p ps->0<=a->(t=true->W.TD) ->
 SpJ W κ n p xs ys (c ((ps,()),(t,()))) (e ((shL W.d ps,()),(t,()))) λq r f=>p<q/\Tr a q r.1/\f.1=shN W.d r.1
def SpE(c a:dd×dc->MM (Nd×dc)):Prop:=∀n p xs ys t,Sta W n p xs ys->(n:Int)<=2*p+2->20*((W.A.length:Int)-p)+k<m->SpJ W κ n p xs ys (c (t,())) (a (t,())) (zKS W p)
def SpF(c e:(db Nd×dc)×dc->MM (Nd×dc)):Prop:=∀n p xs ys a ps,Sta W n p xs ys->(n:Int)<=2*p+2->20*((W.A.length:Int)-p)+k<m->Pt a p ps->0<=a ->
 SpJ W κ n p xs ys (c ((ps,()),())) (e ((shL W.d ps,()),())) λq r f=>p<q/\Tr a q r.1/\f.1=shN W.d r.1
def SpG(c a:Int×dc->MM (Nd×dc)):Prop:=∀n p xs ys z,Sta W n p xs ys->(n:Int)<=2*p+2->20*((W.A.length:Int)-p)+k<m->SpJ W κ n p xs ys (c (z,())) (a (z,())) (zKS W p)
def SpH(c f:Nd×dc->MM (Nd×dc)):Prop:=∀n p xs ys a e,Sta W n p xs ys->(n:Int)<=2*p+2->20*((W.A.length:Int)-p)+k<m->Tr a p e->0<=a ->
 SpJ W κ n p xs ys (c (e,())) (f (shN W.d e,())) λq r g=>p<=q/\Tr a q r.1/\g.1=shN W.d r.1
end
structure RSp(W:Sim)(m:Nat)(r s:RS):Prop where
 h53:SpS W 1 3 m r.c53 s.c53
 h74:SpM W 1 1 m 5 r.c74 s.c74
 h107:SpN W 1 4 m r.c107 s.c107
 h75:SpM W 1 1 m 6 r.c75 s.c75
 h108:SpN W 1 1 m r.c108 s.c108
 h79:SpP W 1 1 m 0 r.c79 s.c79
 h82:SpD W 1 2 m r.c82 s.c82
 h56:SpC W 1 2 m r.c56 s.c56
 h130:SpK W 1 3 m r.c130 s.c130
 h81:SpL W 1 1 m r.c81 s.c81
 h110:SpN W 1 4 m r.c110 s.c110
 h151:SpN W 1 4 m r.c151 s.c151
 h83:SpN W 1 8 m r.c83 s.c83
 h57:SpI W 1 1 m r.c57 s.c57
 h55:SpR W 0 1 m r.c55 s.c55
 h37:SpE W 0 5 m r.c37 s.c37
 h60:SpB W 0 1 m r.c60 s.c60
 h86:SpN W 1 10 m r.c86 s.c86
 h116:SpF W 1 1 m r.c116 s.c116
 h115:SpP W 0 1 m 1 r.c115 s.c115
 h117:SpU W 0 9 m r.c117 s.c117
 h113:SpN W 1 8 m r.c113 s.c113
 h111:SpN W 1 7 m r.c111 s.c111
 h114:SpN W 1 6 m r.c114 s.c114
 h131:SpG W 1 5 m r.c131 s.c131
 h142:SpN W 1 4 m r.c142 s.c142
 h150:SpN W 1 3 m r.c150 s.c150
 h154:SpH W 1 1 m r.c154 s.c154
 h155:SpN W 1 2 m r.c155 s.c155
section
variable{W:Sim}{ρ:Type}{lev:ρ->Int}{b κ:Int}{Q:ρ->ρ->Prop}{n k m:Nat}{p:Int}{xs ys:db MT}
variable{F G:(Nd×dc)×PSt->da (da ρ)}
variable{FX GX:(dc×db Nd)×PSt->da (da ρ)}
def ye(k t:Int)(l:db Nd):Nd.kind (Nd.mk k t l)=k:=rfl
def xd(k t:Int)(l:db Nd):Nd.tok (Nd.mk k t l)=t:=rfl
def yg(k t:Int)(l:db Nd):Nd.kids (Nd.mk k t l)=l:=rfl
def qy(x:Nd):Nd.mk x.kind x.tok x.kids=x:=by cases x;rfl
def zNO{p q:Int}{ps:db Nd}(h:Pt p q ps)(a:pk ps):(ilt 0 (lenI ps)=true->Tr p q (Nd.mk 10 0 ps))/\(ilt 0 (lenI ps)=false->q=p):=by
 refine⟨λe=>?_,λe=>?_⟩
 .have c:(0:Int)<(ps.length:Int):=zUw e;have:=h.len;exact Tr.mk h dM dP (yW dP a)
 .have c:¬(0:Int)<(ps.length:Int):=zVj e;obtain rfl:ps=[]:=zWP.1 dM;exact h.empty
end
end
section
open Go.Al Go.Den
def Ex(A:db dw)(pz ps:db Nd):Prop:=∃qs,ps=pz++qs/\QP A qs
section
variable{A:db dw}{pz ps qs:db Nd}{x:Nd}
def Ex.nil:Ex A pz pz:=⟨[],(zUR _).symm,QP.nil⟩
def Ex.app(h:Ex A pz ps)(a:QP A qs):Ex A pz (ps++qs):=by
 obtain⟨r,rfl,b⟩:=h;exact⟨r++qs,zVB _ _ _,b.app a⟩
end
section
variable(A:db dw)(k m:Nat)
def KpNd(c:dc->MM (Nd×dc)):Prop:=∀n p xs,Sto A n p xs->(n:Int)<=2*p+2->20*((A.length:Int)-p)+k<m->SpK1 A n p xs (c ()) λq r=>Tr p q r.1/\Gd A r.1
def KpM(K:Int)(c:dc->MM (Nd×dc)):Prop:=∀n p xs,Sto A n p xs->(n:Int)<=2*p+2->20*((A.length:Int)-p)+k<m->zY A p=false->SpK1 A n p xs (c ()) λq r=>Tr p q r.1/\Gd A r.1/\r.1.kind=K
def KpBl(c:dc->MM (Nd×dc)):Prop:=∀n p xs,Sto A n p xs->(n:Int)<=2*p+3->20*((A.length:Int)-p)+k<m->SpK1 A n p xs (c ()) λq r=>Tr p q r.1/\Gd A r.1/\r.1.kind=20
def KpS(c:dc->MM (Nd×dd×dc)):Prop:=∀n p xs,Sto A n p xs->(n:Int)<=2*p+2->20*((A.length:Int)-p)+k<m->SpK1 A n p xs (c ()) λq r=>Tr p q r.1/\Gd A r.1/\r.1.kind=4
def KpP(δ:Int)(c:dc->db Nd->MM (dc×db Nd)):Prop:=∀n p xs a pz,Sto A n p xs->(n:Int)<=2*p+2->20*((A.length:Int)-p)+k<m->Pt a p pz->0<=a->pk pz ->
 SpK1 A n p xs (c () pz) λq r=>p+δ<=q/\Pt a q r.2/\pk r.2/\Ex A pz r.2
def KpD(c:dc->db Nd->MM (dc×db Nd)):Prop:=∀n p xs a pz,Sto A n p xs->(n:Int)<=2*p+2->20*((A.length:Int)-p)+k<m->Pt a p pz->0<=a->pk pz ->
 SpK1 A n p xs (c () pz) λq r=>p<=q/\(isF [[40],[91]] A p=true->p<q)/\Pt a q r.2/\pk r.2/\Ex A pz r.2
def KpU(c:Str×dc->db Nd->MM (dc×db Nd)):Prop:=∀n p xs a pz s,fullW.contains s=true->Sto A n p xs->(n:Int)<=2*p+2->20*((A.length:Int)-p)+k<m->Pt a p pz->0<=a ->
 SpK1 A n p xs (c (s,()) pz) λq r=>p<q/\Pt a q r.2/\pk r.2/\Ex A pz r.2
def MO1(b:dd)(a:da (da MT)):Prop:=(a=none/\b=false)\/(a=some none/\b=false)\/∃x,a=some (some x)
def KpC(c:dc->MM ((Nd×Str×dd×dc)×da (da MT))):Prop:=∀n p xs,Sto A n p xs->(n:Int)<=2*p+2->20*((A.length:Int)-p)+k<m ->
 SpK1 A n p xs (c ()) λq r=>Tr p q r.1.1/\MO1 r.1.2.2.1 r.2/\Dc A r.1.1/\Nm A r.1.1/\(r.1.2.2.1=true->FnD A r.1.1)
def KpK(c:dd×dc->MM (Nd×Str×dd×dc)):Prop:=∀n p xs a,Sto A n p xs->(n:Int)<=2*p+2->20*((A.length:Int)-p)+k<m ->
 SpK1 A n p xs (c (a,())) λq r=>p<=q/\(r.2.2.1=true->Tr p q r.1)/\(r.2.2.1=false->q=p)/\Dc A r.1
def KpL(c:dc->MM ((Nd×dc)×da MT)):Prop:=∀n p xs,Sto A n p xs->(n:Int)<=2*p+2->20*((A.length:Int)-p)+k<m ->
 SpK1 A n p xs (c ()) λq r=>Tr p q r.1.1/\Gd A r.1.1/\r.1.1.kind=11/\∃x,r.2=some x
def KpI(c:Nd×Str×dd×dc->MM (Nd×dc)):Prop:=∀n p xs b a s t,Sto A n p xs->(n:Int)<=2*p+2->20*((A.length:Int)-p)+k<m->Tr b p a->0<=b->a.kind=10->Dc A a ->
 SpK1 A n p xs (c (a,(s,(t,())))) λq r=>p<=q/\Tr b q r.1/\Gd A r.1
def KpR(c:(db Nd×dc)×dd×dc->MM (Nd×dc)):Prop:=∀n p xs a ps t,Sto A n p xs->(n:Int)<=2*p+2->20*((A.length:Int)-p)+k<m->Pt a p ps->0<=a->QP A ps ->
 SpK1 A n p xs (c ((ps,()),(t,()))) λq r=>p<q/\Tr a q r.1/\Gd A r.1
def KpE(c:dd×dc->MM (Nd×dc)):Prop:=∀n p xs t,Sto A n p xs->(n:Int)<=2*p+2->20*((A.length:Int)-p)+k<m->SpK1 A n p xs (c (t,())) λq r=>Tr p q r.1/\Tp A t r.1
def KpF(c:(db Nd×dc)×dc->MM (Nd×dc)):Prop:=∀n p xs a ps,Sto A n p xs->(n:Int)<=2*p+2->20*((A.length:Int)-p)+k<m->Pt a p ps->0<=a->QP A ps ->
 SpK1 A n p xs (c ((ps,()),())) λq r=>p<q/\Tr a q r.1/\Gd A r.1
def KpG(c:Int×dc->MM (Nd×dc)):Prop:=∀n p xs z,Sto A n p xs->(n:Int)<=2*p+2->20*((A.length:Int)-p)+k<m->SpK1 A n p xs (c (z,())) λq r=>Tr p q r.1/\Gd A r.1
def KpH(c:Nd×dc->MM (Nd×dc)):Prop:=∀n p xs a b,Sto A n p xs->(n:Int)<=2*p+2->20*((A.length:Int)-p)+k<m->Tr a p b->0<=a->Gd A b ->
 SpK1 A n p xs (c (b,())) λq r=>p<=q/\Tr a q r.1/\Gd A r.1
end
structure KSp(A:List TokT)(m:Nat)(r:RS):Prop where
 h53:KpS A 3 m r.c53
 h74:KpM A 1 m 5 r.c74
 h107:KpNd A 4 m r.c107
 h75:KpM A 1 m 6 r.c75
 h108:KpNd A 1 m r.c108
 h79:KpP A 1 m 0 r.c79
 h82:KpD A 2 m r.c82
 h56:KpC A 2 m r.c56
 h130:KpK A 3 m r.c130
 h81:KpL A 1 m r.c81
 h110:KpNd A 4 m r.c110
 h151:KpNd A 4 m r.c151
 h83:KpNd A 8 m r.c83
 h57:KpI A 1 m r.c57
 h55:KpR A 1 m r.c55
 h37:KpE A 5 m r.c37
 h60:KpBl A 1 m r.c60
 h86:KpNd A 10 m r.c86
 h116:KpF A 1 m r.c116
 h115:KpP A 1 m 1 r.c115
 h117:KpU A 9 m r.c117
 h113:KpNd A 8 m r.c113
 h111:KpNd A 7 m r.c111
 h114:KpNd A 6 m r.c114
 h131:KpG A 5 m r.c131
 h142:KpNd A 4 m r.c142
 h150:KpNd A 3 m r.c150
 h154:KpH A 1 m r.c154
 h155:KpNd A 2 m r.c155
section
variable{A:db dw}{ρ:Type}{Q:ρ->Prop}{n k m:Nat}{p:Int}{xs:db MT}
variable{F:(Nd×dc)×PSt->da (da ρ)}
def K_N{c:dc->MM (Nd×dc)}(e:KpNd A k m c)(f:Sto A n p xs)(g:(n:Int)<=2*p+2)(i:20*((A.length:Int)-p)+k<m)
 (h:∀q a b,Sto A n q a->q<=(A.length:Int)->p<q->Tr p q b->Gd A b->K1 (F ((b,()),(q,a))) Q):K1 (Option.bind (c () A (p,xs)) λj=>zX j (some none) F) Q:=
 jg (e n p xs f g i) λq a r l o d=>h q a r.1 l o d.1.lt d.1 d.2
def K_M{K:Int}{c:dc->MM (Nd×dc)}(e:KpM A k m K c)(f:Sto A n p xs)(g:(n:Int)<=2*p+2)(i:20*((A.length:Int)-p)+k<m)(j:zY A p=false)
 (h:∀q a b,Sto A n q a->q<=(A.length:Int)->p<q->Tr p q b->Gd A b->b.kind=K->K1 (F ((b,()),(q,a))) Q):K1 (Option.bind (c () A (p,xs)) λl=>zX l (some none) F) Q:=
 jg (e n p xs f g i j) λq a r o s d=>h q a r.1 o s d.1.lt d.1 d.2.1 d.2.2
def K_B{c:dc->MM (Nd×dc)}(e:KpBl A k m c)(f:Sto A n p xs)(g:(n:Int)<=2*p+3)(i:20*((A.length:Int)-p)+k<m)
 (h:∀q a b,Sto A n q a->q<=(A.length:Int)->p<q->Tr p q b->Gd A b->b.kind=20->K1 (F ((b,()),(q,a))) Q):K1 (Option.bind (c () A (p,xs)) λj=>zX j (some none) F) Q:=
 jg (e n p xs f g i) λq a r l o d=>h q a r.1 l o d.1.lt d.1 d.2.1 d.2.2
def K_S{c:dc->MM (Nd×dd×dc)}{F:(Nd×dd×dc)×PSt->da (da ρ)}(e:KpS A k m c)(f:Sto A n p xs)(g:(n:Int)<=2*p+2)(i:20*((A.length:Int)-p)+k<m)
 (h:∀q a b t,Sto A n q a->q<=(A.length:Int)->p<q->Tr p q b->Gd A b->b.kind=4->K1 (F ((b,(t,())),(q,a))) Q):K1 (Option.bind (c () A (p,xs)) λj=>zX j (some none) F) Q:=
 jg (e n p xs f g i) λq a r l o d=>h q a r.1 r.2.1 l o d.1.lt d.1 d.2.1 d.2.2
variable{FX:(dc×db Nd)×PSt->da (da ρ)}
def K_P{δ:Int}{c:dc->db Nd->MM (dc×db Nd)}{a:Int}{pz:db Nd}(e:KpP A k m δ c)(f:Sto A n p xs)(g:(n:Int)<=2*p+2)(i:20*((A.length:Int)-p)+k<m)(j:Pt a p pz)(l:0<=a)(o:pk pz)
 (h:∀q b qs,Sto A n q b->q<=(A.length:Int)->p+δ<=q->Pt a q (pz++qs)->((pz++qs).length:Int)<=q-a->pk (pz++qs)->QP A qs->K1 (FX (((),pz++qs),(q,b))) Q):K1 (Option.bind (c () pz A (p,xs)) λr=>zX r (some none) FX) Q:=by
 refine jg (e n p xs a pz f g i j l o) ?_;rintro q b ⟨_,ps⟩ s t ⟨u,d,v,qs,w,y⟩;obtain rfl:ps=pz++qs:=w;exact h q b qs s t u d d.len v y
def K_D{c:dc->db Nd->MM (dc×db Nd)}{a:Int}{pz:db Nd}(e:KpD A k m c)(f:Sto A n p xs)(g:(n:Int)<=2*p+2)(i:20*((A.length:Int)-p)+k<m)(j:Pt a p pz)(l:0<=a)(o:pk pz)
 (h:∀q b qs,Sto A n q b->q<=(A.length:Int)->p<=q->(isF [[40],[91]] A p=true->p<q)->Pt a q (pz++qs)->((pz++qs).length:Int)<=q-a->pk (pz++qs)->QP A qs->K1 (FX (((),pz++qs),(q,b))) Q):K1 (Option.bind (c () pz A (p,xs)) λr=>zX r (some none) FX) Q:=by
 refine jg (e n p xs a pz f g i j l o) ?_;rintro q b ⟨_,ps⟩ s t ⟨u,v,d,w,qs,y,z⟩;obtain rfl:ps=pz++qs:=y;exact h q b qs s t u v d d.len w z
def K_D1{c:dc->db Nd->MM (dc×db Nd)}{a:Int}{pz:db Nd}(e:KpD A k m c)(f:Sto A n p xs)(g:(n:Int)<=2*p+2)(i:20*((A.length:Int)-p)+k<m)(j:Pt a p pz)(l:0<=a)(o:pk pz)(d:isF [[40]] A p=true)
 (h:∀q b qs,Sto A n q b->q<=(A.length:Int)->p<q->Pt a q (pz++qs)->((pz++qs).length:Int)<=q-a->pk (pz++qs)->QP A qs->K1 (FX (((),pz++qs),(q,b))) Q):K1 (Option.bind (c () pz A (p,xs)) λr=>zX r (some none) FX) Q:=by
 refine K_D e f g i j l o λq b qs s t B u v w y z=>h q b qs s t (u ?_) v w y z;rw[zSV dP]at d ⊢;have:=zUw d;simp only[zUJ]at this;rw[this];decide
def K_U{c:Str×dc->db Nd->MM (dc×db Nd)}{a:Int}{pz:db Nd}{s:Str}(e:fullW.contains s=true)(f:KpU A k m c)(g:Sto A n p xs)(i:(n:Int)<=2*p+2)(j:20*((A.length:Int)-p)+k<m)(l:Pt a p pz)(o:0<=a)
 (h:∀q b qs,Sto A n q b->q<=(A.length:Int)->p<q->Pt a q (pz++qs)->((pz++qs).length:Int)<=q-a->pk (pz++qs)->QP A qs->K1 (FX (((),pz++qs),(q,b))) Q):K1 (Option.bind (c (s,()) pz A (p,xs)) λr=>zX r (some none) FX) Q:=by
 refine jg (f n p xs a pz s e g i j l o) ?_;rintro q b ⟨_,ps⟩ t u ⟨v,d,w,qs,y,z⟩;obtain rfl:ps=pz++qs:=y;exact h q b qs t u v d d.len w z
def K_C{c:dc->MM ((Nd×Str×dd×dc)×da (da MT))}{F:((Nd×Str×dd×dc)×da (da MT))×PSt->da (da ρ)}(g:KpC A k m c)(i:Sto A n p xs)(j:(n:Int)<=2*p+2)(l:20*((A.length:Int)-p)+k<m)
 (h:∀q d b s e f,Sto A n q d->q<=(A.length:Int)->p<q->Tr p q b->MO1 e f->b.kind=10->Dc A b->Nm A b->(e=true->FnD A b)->K1 (F (((b,(s,(e,()))),f),(q,d))) Q):K1 (Option.bind (c () A (p,xs)) λo=>zX o (some none) F) Q:=
 jg (g n p xs i j l) λq d r t u a=>h q d r.1.1 r.1.2.1 r.1.2.2.1 r.2 t u a.1.lt a.1 a.2.1 a.2.2.1.1 a.2.2.1 a.2.2.2.1 a.2.2.2.2
def K_K{c:dd×dc->MM (Nd×Str×dd×dc)}{d:dd}{F:(Nd×Str×dd×dc)×PSt->da (da ρ)}(g:KpK A k m c)(h:Sto A n p xs)(i:(n:Int)<=2*p+2)(j:20*((A.length:Int)-p)+k<m)
 (l:∀q b a s,Sto A n q b->q<=(A.length:Int)->p<q->Tr p q a->a.kind=10->Dc A a->K1 (F ((a,(s,(true,()))),(q,b))) Q) (o:∀b a s,Sto A n p b->K1 (F ((a,(s,(false,()))),(p,b))) Q) :
 K1 (Option.bind (c (d,()) A (p,xs)) λr=>zX r (some none) F) Q:=by
 refine jg (g n p xs d h i j) ?_;rintro q b ⟨a,s,t,_⟩ k1 k2 ⟨v,e,u,f⟩;cases t with
 |true=>exact l q b a s k1 k2 (e rfl).lt (e rfl) f.1 f
 |false=>
  obtain rfl:q=p:=u rfl;exact o b a s k1
def K_L{c:dc->MM ((Nd×dc)×da MT)}{F:((Nd×dc)×da MT)×PSt->da (da ρ)}(e:KpL A k m c)(f:Sto A n p xs)(g:(n:Int)<=2*p+2)(i:20*((A.length:Int)-p)+k<m)
 (h:∀q b a x,Sto A n q b->q<=(A.length:Int)->p<q->Tr p q a->Gd A a->a.kind=11->K1 (F (((a,()),some x),(q,b))) Q):K1 (Option.bind (c () A (p,xs)) λj=>zX j (some none) F) Q:=by
 refine jg (e n p xs f g i) ?_;rintro q b ⟨⟨a,_⟩,l⟩ o r ⟨d,s,t,x,u⟩;obtain rfl:l=some x:=u;exact h q b a x o r d.lt d s t
def K_I{c:Nd×Str×dd×dc->MM (Nd×dc)}{b:Int}{a:Nd}{s:Str}{t:dd}(g:KpI A k m c)(i:Sto A n p xs)(j:(n:Int)<=2*p+2)(l:20*((A.length:Int)-p)+k<m)(o:Tr b p a)(u:0<=b)(e:a.kind=10)(v:Dc A a)
 (h:∀q d a,Sto A n q d->q<=(A.length:Int)->p<=q->Tr b q a->Gd A a->K1 (F ((a,()),(q,d))) Q):K1 (Option.bind (c (a,(s,(t,()))) A (p,xs)) λw=>zX w (some none) F) Q:=
 jg (g n p xs b a s t i j l o u e v) λq d r y z f=>h q d r.1 y z f.1 f.2.1 f.2.2
def K_R{c:(db Nd×dc)×dd×dc->MM (Nd×dc)}{a:Int}{ps:db Nd}{t:dd}(f:KpR A k m c)(g:Sto A n p xs)(i:(n:Int)<=2*p+2)(j:20*((A.length:Int)-p)+k<m)(l:Pt a p ps)(o:0<=a)(s:QP A ps)
 (h:∀q b d,Sto A n q b->q<=(A.length:Int)->p<q->Tr a q d->Gd A d->K1 (F ((d,()),(q,b))) Q):K1 (Option.bind (c ((ps,()),(t,())) A (p,xs)) λu=>zX u (some none) F) Q:=
 jg (f n p xs a ps t g i j l o s) λq b r v w e=>h q b r.1 v w e.1 e.2.1 e.2.2
def K_E{c:dd×dc->MM (Nd×dc)}{t:dd}(e:KpE A k m c)(f:Sto A n p xs)(g:(n:Int)<=2*p+2)(i:20*((A.length:Int)-p)+k<m)
 (h:∀q a b,Sto A n q a->q<=(A.length:Int)->p<q->Tr p q b->Tp A t b->K1 (F ((b,()),(q,a))) Q):K1 (Option.bind (c (t,()) A (p,xs)) λj=>zX j (some none) F) Q:=
 jg (e n p xs t f g i) λq a r l o d=>h q a r.1 l o d.1.lt d.1 d.2
def K_E0{c:dd×dc->MM (Nd×dc)}(d:KpE A k m c)(e:Sto A n p xs)(f:(n:Int)<=2*p+2)(g:20*((A.length:Int)-p)+k<m)
 (h:∀q b a,Sto A n q b->q<=(A.length:Int)->p<q->Tr p q a->Gd A a->K1 (F ((a,()),(q,b))) Q):K1 (Option.bind (c (false,()) A (p,xs)) λi=>zX i (some none) F) Q:=
 K_E d e f g λq b a j l o r s=>h q b a j l o r (s.resolve_right λh=>by cases h.1)
def K_F{c:(db Nd×dc)×dc->MM (Nd×dc)}{a:Int}{ps:db Nd}(f:KpF A k m c)(g:Sto A n p xs)(i:(n:Int)<=2*p+2)(j:20*((A.length:Int)-p)+k<m)(l:Pt a p ps)(o:0<=a)(s:QP A ps)
 (h:∀q b d,Sto A n q b->q<=(A.length:Int)->p<q->Tr a q d->Gd A d->K1 (F ((d,()),(q,b))) Q):K1 (Option.bind (c ((ps,()),()) A (p,xs)) λt=>zX t (some none) F) Q:=
 jg (f n p xs a ps g i j l o s) λq b r u v e=>h q b r.1 u v e.1 e.2.1 e.2.2
def K_G{c:Int×dc->MM (Nd×dc)}{z:Int}(e:KpG A k m c)(f:Sto A n p xs)(g:(n:Int)<=2*p+2)(i:20*((A.length:Int)-p)+k<m)
 (h:∀q a b,Sto A n q a->q<=(A.length:Int)->p<q->Tr p q b->Gd A b->K1 (F ((b,()),(q,a))) Q):K1 (Option.bind (c (z,()) A (p,xs)) λj=>zX j (some none) F) Q:=
 jg (e n p xs z f g i) λq a r l o d=>h q a r.1 l o d.1.lt d.1 d.2
def K_H{c:Nd×dc->MM (Nd×dc)}{b:Int}{a:Nd}(f:KpH A k m c)(g:Sto A n p xs)(i:(n:Int)<=2*p+2)(j:20*((A.length:Int)-p)+k<m)(l:Tr b p a)(o:0<=b)(s:Gd A a)
 (h:∀q d a,Sto A n q d->q<=(A.length:Int)->p<=q->Tr b q a->Gd A a->K1 (F ((a,()),(q,d))) Q):K1 (Option.bind (c (a,()) A (p,xs)) λt=>zX t (some none) F) Q:=
 jg (f n p xs b a g i j l o s) λq d r u v e=>h q d r.1 u v e.1 e.2.1 e.2.2
end
end
section
open Go.Al Go.Den
variable{A:db dw}{m fu:Nat}{r:RS}{P:Pr}
attribute [local irreducible] zY isF kH zt Gd QP Q5 Q7 QS Ex Dc Nm FnD Tr Pt pk Tp
def _root_.co:=c9 @ye (c9 @xd @yg)
def _root_.cK:=c9 @z8 @co
def kp113(a:dJ A)(c:P.Ok)(d:5000<fu)(h:KSp A m r):KpNd A 8 (m+1) (mM (aa:=([]:LK)) (rs:=([.st TI.node]:LK)) (sh113 fu P.c54 P.c73 r.c111 r.c113)):=by
 have f:=a.len;intro n p xs b g i;have j:=b.p0;have k:=b.p1;have l:=b.n1;refine qQ ?_;simp only[sh113,cK]
 try dsimp only[zg]
 repeat' ((first|exact ya|refine yw dT ?_|refine K_is c a dL dP dP ?_ ?_|refine yq c a dL ?_|refine K_N h.h111 dL dM dM ?_|refine K_N h.h113 dL dM dM ?_|refine xq dL ⟨fG,fQ⟩)<;>intros<;>(try dsimp only[cond_true,cond_false,Bool.not_true,Bool.not_false,zo,zn,zg]))
def kp111(a:dJ A)(c:P.Ok)(d:5000<fu)(h:KSp A m r):KpNd A 7 (m+1) (mM (aa:=([]:LK)) (rs:=([.st TI.node]:LK)) (sh111 fu P.c54 P.c73 r.c111 r.c114)):=by
 have f:=a.len;intro n p xs b g i;have j:=b.p0;have k:=b.p1;have l:=b.n1;refine qQ ?_;simp only[sh111,cK]
 try dsimp only[zg]
 repeat' ((first|exact ya|refine yw dT ?_|refine K_is c a dL dP dP ?_ ?_|refine yq c a dL ?_|refine K_N h.h111 dL dM dM ?_|refine K_N h.h114 dL dM dM ?_|refine xq dL ⟨fG,fQ⟩)<;>intros<;>(try dsimp only[cond_true,cond_false,Bool.not_true,Bool.not_false,zo,zn,zg]))
def kp114(a:dJ A)(b:P.Ok)(d:5000<fu)(h:KSp A m r):KpNd A 6 (m+1) (mM (aa:=([]:LK)) (rs:=([.st TI.node]:LK)) (sh114 fu P.c54 P.c73 P.c78 r.c113 r.c114 r.c131)):=by
 have f:=a.len;intro n p xs c g i;have j:=c.p0;have k:=c.p1;have l:=c.n1;refine qQ ?_;simp only[sh114,cK]
 try dsimp only[zg]
 repeat' ((first|exact ya|refine yw dT ?_|refine K_is b a dL dP dP ?_ ?_|refine yq b a dL ?_|refine qC b a dL dP ?_|refine K_N h.h113 dL dM dM ?_|refine K_N h.h114 dL dM dM ?_|refine K_G h.h131 dL dM dM ?_|refine xq dL ⟨fG,fQ⟩)<;>intros<;>(try dsimp only[cond_true,cond_false,Bool.not_true,Bool.not_false,zo,zn,zg]))
def kp142(a:dJ A)(b:P.Ok)(d:5000<fu)(h:KSp A m r):KpNd A 4 (m+1) (mM (aa:=([]:LK)) (rs:=([.st TI.node]:LK)) (sh142 fu P.c54 P.c73 P.c78 P.c84 r.c142 r.c150 r.c151)):=by
 have f:=a.len;intro n p xs c g i;have j:=c.p0;have k:=c.p1;have l:=c.n1;refine qQ ?_;simp only[sh142,cK]
 try dsimp only[zg]
 repeat' ((first|exact ya|refine yw dT ?_|refine K_is b a dL dP dP ?_ ?_|refine yq b a dL ?_|refine qC b a dL dP ?_|refine zEq b a dL dM dM dM ?_ ?_|refine K_N h.h142 dL dM dM ?_|refine K_N h.h150 dL dM dM ?_|refine K_N h.h151 dL dM dM ?_|refine xq dL ⟨fG,fQ⟩)<;>intros<;>(try dsimp only[cond_true,cond_false,Bool.not_true,Bool.not_false,zo,zn,zg]))
def kp150(a:dJ A)(b:P.Ok)(d:5000<fu)(h:KSp A m r):KpNd A 3 (m+1) (mM (aa:=([]:LK)) (rs:=([.st TI.node]:LK)) (sh150 fu P.c54 P.c73 P.c78 P.c84 r.c142 r.c150 r.c151 r.c154 r.c155)):=by
 have f:=a.len;intro n p xs c g i;have j:=c.p0;have k:=c.p1;have l:=c.n1;refine qQ ?_;simp only[sh150,cK]
 try dsimp only[zg]
 repeat' ((first|exact ya|refine yw dT ?_|refine K_is b a dL dP dP ?_ ?_|refine yq b a dL ?_|refine qC b a dL dP ?_|refine zEq b a dL dM dM dM ?_ ?_|refine K_N h.h142 dL dM dM ?_|refine K_N h.h150 dL dM dM ?_|refine K_N h.h151 dL dM dM ?_|refine K_H h.h154 dL dM dM fG dM fQ ?_|refine K_N h.h155 dL dM dM ?_|refine xq dL ⟨fG,fQ⟩)<;>intros<;>(try dsimp only[cond_true,cond_false,Bool.not_true,Bool.not_false,zo,zn,zg]))
def kp151(b:dJ A)(f:P.Ok)(c:5000<fu)(h:KSp A m r):KpNd A 4 (m+1) (mM (aa:=([]:LK)) (rs:=([.st TI.node]:LK)) (sh151 fu r.c53 r.c130)):=by
 have d:=b.len;intro n p xs a g i;have j:=a.p0;have k:=a.p1;have l:=a.n1;refine qQ ?_;simp only[sh151,cK]
 try dsimp only[zg]
 repeat' ((first|exact ya|refine yw dT ?_|refine K_S h.h53 dL dM dM ?_|refine K_K h.h130 dL dM dM ?_ ?_|refine xq dL ⟨fG,fC⟩)<;>intros<;>(try dsimp only[cond_true,cond_false,Bool.not_true,Bool.not_false,zo,zn,zg]))
def kp110(b:dJ A)(f:P.Ok)(c:5000<fu)(h:KSp A m r):KpNd A 4 (m+1) (mM (aa:=([]:LK)) (rs:=([.st TI.node]:LK)) (sh110 fu r.c53 c58 r.c130)):=by
 have d:=b.len;intro n p xs a g i;have j:=a.p0;have k:=a.p1;have l:=a.n1;refine qQ ?_;simp only[sh110,cK]
 try dsimp only[zg]
 repeat' ((first|exact ya|refine yw dT ?_|refine zKH b dL dM ?_|refine K_S h.h53 dL dM dM ?_|refine K_K h.h130 dL dM dM ?_ ?_|refine xq dL ⟨fG,fC⟩)<;>intros<;>(try dsimp only[cond_true,cond_false,Bool.not_true,Bool.not_false,zo,zn,zg]))
def kp108(a:dJ A)(b:P.Ok)(d:5000<fu)(h:KSp A m r):KpNd A 1 (m+1) (mM (aa:=([]:LK)) (rs:=([.st TI.node]:LK)) (sh108 fu P.c54 c58 P.c72 P.c73 P.c80 r.c114)):=by
 have f:=a.len;intro n p xs c g i;have j:=c.p0;have k:=c.p1;have l:=c.n1;refine qQ ?_;simp only[sh108,cK]
 try dsimp only[zg]
 repeat' ((first|exact ya|refine yw dT ?_|refine zKH a dL dM ?_|refine K_is b a dL dP dP ?_ ?_|refine zBc b a dL ?_|refine zBW b a dL ?_|refine yq b a dL ?_|refine zBe b a dL ?_|refine K_N h.h114 dL dM dM ?_|refine xq dL ⟨fG,(by first|(simp only[List.append_assoc,List.cons_append,List.nil_append];exact Gd.etor dL fF)|exact Gd.etor dL fF)⟩)<;>intros<;>(try dsimp only[cond_true,cond_false,Bool.not_true,Bool.not_false,zo,zn,zg]))
def kp57(a:dJ A)(c:P.Ok)(d:5000<fu)(h:KSp A m r):KpI A 1 (m+1) (mM (aa:=([.st TI.node,.str,.bool]:LK)) (rs:=([.st TI.node]:LK)) (sh57 fu P.c54 c58 P.c73 r.c83)):=by
 have f:=a.len;intro n p xs k l s t b o q g u i v;have w:=b.p0;have y:=b.p1;have z:=b.n1;refine qQ ?_;simp only[sh57,cK];have j:=g.lt
 try dsimp only[zg]
 repeat' ((first|exact ya|refine yw dT ?_|refine zKH a dL dM ?_|refine xq dL ⟨dM,fG,(by first|(simp only[zVB,zUO,zUQ];exact Gd.init dL fF)|exact Gd.init dL fF)⟩|refine K_is c a dL dP dP ?_ ?_|refine yq c a dL ?_|refine K_N h.h83 dL dM dM ?_)<;>intros<;>(try dsimp only[cond_true,cond_false,Bool.not_true,Bool.not_false,zo,zn,zg]))
def kp115(b:dJ A)(c:P.Ok)(d:5000<fu)(h:KSp A m r):KpP A 1 (m+1) 1 (mX (aa:=([]:LK)) (rs:=([]:LK)) (sh115 fu P.c78 r.c113)):=by
 have e:=b.len;intro n p xs i j a k l f o g;have q:=a.p0;have s:=a.p1;have t:=a.n1;refine zIS ?_;simp only[sh115,cK];have u:=f.len
 try dsimp only[zg]
 repeat' ((first|exact ya|refine yw dT ?_|refine zIY dL ⟨dM,dN,fy,fO⟩|refine qC c b dL dP ?_|refine K_N h.h113 dL dM dM ?_)<;>intros<;>(try dsimp only[cond_true,cond_false,Bool.not_true,Bool.not_false,zo,zn,zg]))
end
section
open Go.Al Go.Den
variable{A:db dw}{m fu:Nat}{r:RS}{P:Pr}
attribute [local irreducible] zY isF kH zt Gd QP Q5 Q7 QS Ex Dc Nm FnD Tr Pt pk Tp
def kp74(a:dJ A)(b:P.Ok)(i:5000<fu)(h:KSp A m r):KpM A 1 (m+1) 5 (mM (aa:=([]:LK)) (rs:=([.st TI.node]:LK)) (sh74 fu P.c54 P.c73 P.c85 r.c107)):=by
 have k:=a.len;intro n p xs d v w y;have z:=d.p0;have B:=d.p1;have C:=d.n1;refine qQ ?_;simp only[sh74,cK]
 try dsimp only[zg]
 repeat' ((first|exact ya|refine yw dT ?_|(exfalso;exact Bool.false_ne_true ((‹isF [[123]] A _=false›).symm.trans ‹isF [[123]] A _=true›))|exact absurd ((show zY A (p+1)=true by assumption).symm.trans (show zY A (p+1)=false by assumption)) dP|refine xq dL ⟨fG,fT,rfl⟩|refine K_is b a dL dP dP ?_ ?_|refine yq b a dL ?_|refine zAU b a dL ?_ ?_|refine zAN b a dL ?_ ?_|refine K_N h.h107 dL dM dM ?_)<;>intros<;>(try dsimp only[cond_true,cond_false,Bool.not_true,Bool.not_false,zo,zn,zg]))
 all_goals
  refine jx (I:=λs=>∃(q:Int)(f:db MT)(ps:db Nd)(j:Int×(Int×NdsT)),s=((),((A,(q,(f,((),())))),(j,((ps,()),()))))/\Sto A n q f/\q<=(A.length:Int)/\p<q/\Pt p q ps/\(ps.length:Int)<=q-p/\Q5 A ps) (μ:=λs=>((A.length:Int)-s.2.1.2.1).toNat) ?_ fu _ ⟨_,_,_,_,rfl,dL,dM,dM,dN,dS,fP⟩ dV;rintro rec s ⟨q,f,ps,j,rfl,l,o,D,t,u,g⟩ c;dsimp only
  repeat' ((first|exact ya|refine yw dT ?_|refine c _ ⟨_,_,_,_,rfl,dL,dM,dM,dN,dS,fP⟩ dV|refine K_is b a dL dP dP ?_ ?_|refine yq b a dL ?_|refine zAU b a dL ?_ ?_|refine zAN b a dL ?_ ?_|refine K_N h.h107 dL dM dM ?_|refine xq dL ⟨fG,fT,rfl⟩)<;>intros<;>(try dsimp only[cond_true,cond_false,Bool.not_true,Bool.not_false,zo,zn,zg]))
def kp60(a:dJ A)(b:P.Ok)(i:5000<fu)(h:KSp A m r):KpBl A 1 (m+1) (mM (aa:=([]:LK)) (rs:=([.st TI.node]:LK)) (sh60 fu r.c37 P.c54 P.c72 P.c73 P.c78 P.c84 P.c85 r.c86)):=by
 have k:=a.len;intro n p xs d v w;have y:=d.p0;have z:=d.p1;have B:=d.n1;refine qQ ?_;simp only[sh60,cK]
 try dsimp only[zg]
 repeat' ((first|exact ya|refine yw dT ?_|refine K_is b a dL dP dP ?_ ?_|refine zBc b a dL ?_|refine zBW b a dL ?_|refine yq b a dL ?_|refine qC b a dL dP ?_|refine zEq b a dL dM dM dM ?_ ?_|refine zAU b a dL ?_ ?_|refine zAN b a dL ?_ ?_|refine K_E0 h.h37 dL dM dM ?_|refine K_N h.h86 dL dM dM ?_)<;>intros<;>(try dsimp only[cond_true,cond_false,Bool.not_true,Bool.not_false,zo,zn,zg]))
 all_goals
  refine jx (I:=λs=>∃(q:Int)(f:db MT)(ps:db Nd)(j:Int×(Int×NdsT)),s=((),((A,(q,(f,((),())))),(j,((ps,()),()))))/\Sto A n q f/\q<=(A.length:Int)/\p<q/\Pt p q ps/\(ps.length:Int)<=q-p/\QP A ps) (μ:=λs=>((A.length:Int)-s.2.1.2.1).toNat) ?_ fu _ ⟨_,_,_,_,rfl,dL,dM,dM,dN,dS,fF⟩ dV;rintro rec s ⟨q,f,ps,j,rfl,l,o,C,t,u,g⟩ c;dsimp only
  repeat' ((first|exact ya|refine yw dT ?_|refine c _ ⟨_,_,_,_,rfl,dL,dM,dM,dN,dS,fF⟩ dV|refine zHl ?_|refine zKF a _ dP ?_ ?_|refine K_is b a dL dP dP ?_ ?_|refine zBc b a dL ?_|refine zBW b a dL ?_|refine yq b a dL ?_|refine qC b a dL dP ?_|refine zEq b a dL dM dM dM ?_ ?_|refine zAU b a dL ?_ ?_|refine zAN b a dL ?_ ?_|refine K_E0 h.h37 dL dM dM ?_|refine K_N h.h86 dL dM dM ?_|refine xq dL ⟨fG,fQ,rfl⟩)<;>intros<;>(try dsimp only[cond_true,cond_false,Bool.not_true,Bool.not_false,zo,zn,zg]))
def kp83(a:dJ A)(b:P.Ok)(i:5000<fu)(h:KSp A m r):KpNd A 8 (m+1) (mM (aa:=([]:LK)) (rs:=([.st TI.node]:LK)) (sh83 fu P.c54 P.c73 P.c78 r.c83 r.c111)):=by
 have k:=a.len;intro n p xs d v w;have y:=d.p0;have z:=d.p1;have B:=d.n1;refine qQ ?_;simp only[sh83,cK]
 try dsimp only[zg]
 repeat' ((first|exact ya|refine yw dT ?_|refine xq dL ⟨fG,fQ⟩|refine K_is b a dL dP dP ?_ ?_|refine yq b a dL ?_|refine qC b a dL dP ?_|refine K_N h.h83 dL dM dM ?_|refine K_N h.h111 dL dM dM ?_)<;>intros<;>(try dsimp only[cond_true,cond_false,Bool.not_true,Bool.not_false,zo,zn,zg]))
 all_goals
  refine jx (I:=λs=>∃(q:Int)(f:db MT)(ps:db Nd)(j:Int×(Int×NdsT)),s=((),((A,(q,(f,((),())))),(j,((ps,()),()))))/\Sto A n q f/\q<=(A.length:Int)/\p<q/\Pt p q ps/\(ps.length:Int)<=q-p/\QP A ps) (μ:=λs=>((A.length:Int)-s.2.1.2.1).toNat) ?_ fu _ ⟨_,_,_,_,rfl,dL,dM,dM,dN,dS,fF⟩ dV;rintro rec s ⟨q,f,ps,j,rfl,l,o,C,t,u,g⟩ c;dsimp only
  repeat' ((first|exact ya|refine yw dT ?_|refine c _ ⟨_,_,_,_,rfl,dL,dM,dM,dN,dS,fF⟩ dV|refine K_is b a dL dP dP ?_ ?_|refine yq b a dL ?_|refine qC b a dL dP ?_|refine K_N h.h83 dL dM dM ?_|refine K_N h.h111 dL dM dM ?_|refine xq dL ⟨fG,fQ⟩)<;>intros<;>(try dsimp only[cond_true,cond_false,Bool.not_true,Bool.not_false,zo,zn,zg]))
def kp75(a:dJ A)(b:P.Ok)(i:5000<fu)(h:KSp A m r):KpM A 1 (m+1) 6 (mM (aa:=([]:LK)) (rs:=([.st TI.node]:LK)) (sh75 fu P.c54 P.c73 P.c78 P.c85 r.c108)):=by
 have k:=a.len;intro n p xs d v w y;have z:=d.p0;have B:=d.p1;have C:=d.n1;refine qQ ?_;simp only[sh75,cK]
 try dsimp only[zg]
 repeat' ((first|exact ya|refine yw dT ?_|(exfalso;exact Bool.false_ne_true ((‹isF [[123]] A _=false›).symm.trans ‹isF [[123]] A _=true›))|exact absurd ((show zY A (p+1)=true by assumption).symm.trans (show zY A (p+1)=false by assumption)) dP|refine xq dL ⟨fG,fT,rfl⟩|refine K_is b a dL dP dP ?_ ?_|refine yq b a dL ?_|refine qC b a dL dP ?_|refine zAU b a dL ?_ ?_|refine zAN b a dL ?_ ?_|refine K_N h.h108 dL dM dM ?_)<;>intros<;>(try dsimp only[cond_true,cond_false,Bool.not_true,Bool.not_false,zo,zn,zg]))
 all_goals
  refine jx (I:=λs=>∃(q:Int)(f:db MT)(ps:db Nd)(j:Int×(Int×NdsT)),s=((),((A,(q,(f,((),())))),(j,((ps,()),()))))/\Sto A n q f/\q<=(A.length:Int)/\p<q/\Pt p q ps/\(ps.length:Int)<=q-p/\Q5 A ps) (μ:=λs=>((A.length:Int)-s.2.1.2.1).toNat) ?_ fu _ ⟨_,_,_,_,rfl,dL,dM,dM,dN,dS,fP⟩ dV;rintro rec s ⟨q,f,ps,j,rfl,l,o,D,t,u,g⟩ c;dsimp only
  repeat' ((first|exact ya|refine yw dT ?_|refine c _ ⟨_,_,_,_,rfl,dL,dM,dM,dN,dS,fP⟩ dV|refine K_is b a dL dP dP ?_ ?_|refine yq b a dL ?_|refine qC b a dL dP ?_|refine zAU b a dL ?_ ?_|refine zAN b a dL ?_ ?_|refine K_N h.h108 dL dM dM ?_|refine xq dL ⟨fG,fT,rfl⟩)<;>intros<;>(try dsimp only[cond_true,cond_false,Bool.not_true,Bool.not_false,zo,zn,zg]))
def kp107(a:dJ A)(d:P.Ok)(t:5000<fu)(h:KSp A m r):KpNd A 4 (m+1) (mM (aa:=([]:LK)) (rs:=([.st TI.node]:LK)) (sh107 fu r.c53 P.c54 r.c56 P.c73 P.c78)):=by
 have u:=a.len;intro n p xs g B C;have D:=g.p0;have E:=g.p1;have F:=g.n1;refine qQ ?_;simp only[sh107,cK]
 try dsimp only[zg]
 repeat' ((first|exact ya|refine yw dT ?_|refine K_is d a dL dP dP ?_ ?_|refine yq d a dL ?_|refine qC d a dL dP ?_|refine K_S h.h53 dL dM dM ?_|refine K_C h.h56 dL dM dM ?_)<;>intros<;>(try dsimp only[cond_true,cond_false,Bool.not_true,Bool.not_false,zo,zn,zg]))
 all_goals
  refine jx (I:=λs=>∃(q:Int)(i:db MT)(ps:db Nd)(j:Int×(Int×NdsT))(k:dd),s=((k,()),((A,(q,(i,((),())))),(j,((ps,()),()))))/\Sto A n q i/\q<=(A.length:Int)/\p<q/\Pt p q ps/\(ps.length:Int)<=q-p/\Q7 A ps/\(1<ps.length->k=true->zY A q=false)) (μ:=λs=>((A.length:Int)-s.2.1.2.1).toNat) ?_ fu _ ⟨_,_,_,_,_,rfl,dL,dM,dM,dN,dS,fI,dX⟩ dV;rintro rec s ⟨q,i,ps,j,k,rfl,v,w,G,y,z,o,b⟩ f;dsimp only
  repeat' ((first|exact ya|refine yw dT ?_|refine f _ ⟨_,_,_,_,_,rfl,dL,dM,dM,dN,dS,fI,dX⟩ dV|refine zKT ?_ ?_|refine zCb ?_ ?_|refine K_is d a dL dP dP ?_ ?_|refine yq d a dL ?_|refine qC d a dL dP ?_|refine K_S h.h53 dL dM dM ?_|refine K_C h.h56 dL dM dM ?_|refine xq dL ⟨fG,(by exact Gd.member fI)⟩)<;>intros<;>(try dsimp only[cond_true,cond_false,Bool.not_true,Bool.not_false,zo,zn,zg]))
def kp81(a:dJ A)(d:P.Ok)(t:5000<fu)(h:KSp A m r):KpL A 1 (m+1) (mL (aa:=([]:LK)) (rs:=([.st TI.node]:LK)) (sh81 fu P.c54 c59 c61 P.c73 P.c78 r.c110)):=by
 have u:=a.len;intro n p xs g B C;have D:=g.p0;have E:=g.p1;have F:=g.n1;refine SpK1_L ?_;simp only[sh81,cK]
 try dsimp only[zg]
 repeat' ((first|exact ya|refine yw dT ?_|refine K_is d a dL dP dP ?_ ?_|refine zFm a dL dM ?_|refine zHm a dL dM dM ?_|refine yq d a dL ?_|refine qC d a dL dP ?_|refine K_N h.h110 dL dM dM ?_)<;>intros<;>(try dsimp only[cond_true,cond_false,Bool.not_true,Bool.not_false,zo,zn,zg]))
 all_goals
  refine jx (I:=λs=>∃(q:Int)(i:db MT)(ps:db Nd)(j:Int×(Int×NdsT))(k:dd),s=((k,()),((A,(q,(i,((),())))),(j,((ps,()),()))))/\Sto A (n+1) q i/\q<=(A.length:Int)/\p<q/\Pt p q ps/\(ps.length:Int)<=q-p/\QP A ps/\(1<ps.length->k=true->zY A q=false)) (μ:=λs=>((A.length:Int)-s.2.1.2.1).toNat) ?_ fu _ ⟨_,_,_,_,_,rfl,dL,dM,dM,dN,dS,fK,dX⟩ dV;rintro rec s ⟨q,i,ps,j,k,rfl,v,w,G,y,z,o,b⟩ f;dsimp only
  repeat' ((first|exact ya|refine yw dT ?_|refine f _ ⟨_,_,_,_,_,rfl,dL,dM,dM,dN,dS,fK,dX⟩ dV|refine zKT ?_ ?_|refine zCb ?_ ?_|refine K_is d a dL dP dP ?_ ?_|refine zFm a dL dM ?_|refine zHm a dL dM dM ?_|refine yq d a dL ?_|refine qC d a dL dP ?_|refine K_N h.h110 dL dM dM ?_|refine K_retL dL ⟨fG,(by first|assumption|exact Gd.mk dP fK),rfl,_,rfl⟩)<;>intros<;>(try dsimp only[cond_true,cond_false,Bool.not_true,Bool.not_false,zo,zn,zg]))
def kp55(a:dJ A)(b:P.Ok)(l:5000<fu)(h:KSp A m r):KpR A 1 (m+1) (mM (aa:=([.ag [.ow true TI.node],.bool]:LK)) (rs:=([.st TI.node]:LK)) (sh55 fu P.c54 r.c56 r.c57 P.c73 P.c78)):=by
 have o:=a.len;intro n p xs g ps t d C D i E u;have F:=d.p0;have G:=d.p1;have H:=d.n1;refine qQ ?_;simp only[sh55,cK];have J:=i.len;have v:=i.le
 try dsimp only[zg]
 repeat' ((first|exact ya|refine yw dT ?_|refine K_is b a dL dP dP ?_ ?_|refine yq b a dL ?_|refine qC b a dL dP ?_|refine K_C h.h56 dL dM dM ?_|refine K_I h.h57 dL dM dM fG dM dL dL ?_)<;>intros<;>(try dsimp only[cond_true,cond_false,Bool.not_true,Bool.not_false,zo,zn,zg]))
 all_goals
  refine jx (I:=λs=>∃(q:Int)(f:db MT)(ps:db Nd)(j:Int×(Int×NdsT)),s=((),((A,(q,(f,((),())))),((ps,()),(j,()))))/\Sto A n q f/\q<=(A.length:Int)/\p<=q/\Pt g q ps/\(ps.length:Int)<=q-g/\QP A ps) (μ:=λs=>((A.length:Int)-s.2.1.2.1).toNat) ?_ fu _ ⟨_,_,_,_,rfl,dL,dM,dM,dN,dS,fF⟩ dV;rintro rec s ⟨q,f,ps,j,rfl,w,y,u,z,B,k⟩ c;dsimp only
  repeat' ((first|exact ya|refine yw dT ?_|refine c _ ⟨_,_,_,_,rfl,dL,dM,dM,dN,dS,fF⟩ dV|refine K_is b a dL dP dP ?_ ?_|refine yq b a dL ?_|refine qC b a dL dP ?_|refine K_C h.h56 dL dM dM ?_|refine K_I h.h57 dL dM dM fG dM dL dL ?_|refine xq dL ⟨dM,fG,fQ⟩)<;>intros<;>(try dsimp only[cond_true,cond_false,Bool.not_true,Bool.not_false,zo,zn,zg]))
end
end Go.Proofs.YtnamdpbcpnnhaaaGreatDoor
