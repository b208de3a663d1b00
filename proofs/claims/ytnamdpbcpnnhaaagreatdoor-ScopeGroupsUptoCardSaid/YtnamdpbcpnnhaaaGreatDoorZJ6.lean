/- Part 6 of what the last text needs. No condition. -/
import Derived.Test.YtnamdpbcpnnhaaaGreatDoorZJ5
import Derived.WalkKit
import Derived.Defers
import Derived.Recover
import Derived.TacticsInMore
import Derived.RecoverIn
import Derived.LoopNIn
import Derived.Laws.OwnMore
import Derived.Laws.BytesArg
import Derived.Shelf.Bits.Mul64
import Derived.Laws.CopyOwn
import Derived.Laws.MakeOwn
import Derived.OwnWalk
set_option linter.unusedVariables false
set_option linter.unusedSimpArgs false
set_option linter.unusedSectionVars false
set_option linter.defProp false
set_option maxHeartbeats 4000000
theorem fR{P:Prop}(h:P:=by simp only[zVB,zUO,zUQ];first|exact Dc.name fF dL fF|(rw[show∀(a b:Nd)(l r:db Nd),l++(a::b::r)=(l++[a])++b::r from λa b l r=>by simp];exact Dc.within fF dL fF)|exact Dc.none fF):P:=h
theorem fA{P:Prop}(h:P:=by first|assumption|exact(‹lvlF _≠0->_›) (ze dL)|exact(‹_≠(1:Int)->_›) dP|exact a dM dL):P:=h
theorem fH{P:Prop}(h:P:=by (repeat' (first|assumption|exact QP.nil|with_reducible apply QP.cons|with_reducible apply QP.app|exact Elt.leaf fA|exact Gd.el dL));done):P:=h
theorem fS{P:Prop}(h:P:=by first|assumption|exact Gd.dot dL fA dL|exact Gd.mk dP fH):P:=h
theorem d9{P:Prop}(h:P:=by first|(intro _ _;assumption)|(intro z g;first|(cases g;done)|(simp only[List.length_cons,List.length_nil,List.length_append]at z;omega))|(intro _ g;cases g)):P:=h
theorem eR{P:Prop}(h:P:=by show w.heap.size<w.heap.size+2;omega):P:=h
theorem eM{P:Prop}(h:P:=by show w.heap.size+1<w.heap.size+2;omega):P:=h
theorem eo{P:Prop}(h:P:=by rw[e];rfl):P:=h
theorem eD{P:Prop}(h:P:=by simp only[List.length_cons,List.length_nil,maxLen];omega):P:=h
theorem eH{P:Prop}(h:P:=by simp only[List.length_cons,List.length_nil];omega):P:=h
theorem eu{P:Prop}(h:P:=by show ¬(l.length:Int)<(l.length:Int);omega):P:=h
theorem ej{P:Prop}(h:P:=by show(k:Int)<(x.kids.length:Int);omega):P:=h
theorem ey{P:Prop}(h:P:=by show x.kids.length-0<fu;omega):P:=h
theorem eI{P:Prop}(h:P:=by show x.kids.length-(k+1)<x.kids.length-k;omega):P:=h
theorem er{P:Prop}(h:P:=by rw[e];simp):P:=h
theorem eQ{P:Prop}(h:P:=by rw[<-yr];exact S):P:=h
theorem eS{P:Prop}(h:P:=by show l.length-(k+1)<l.length-k;omega):P:=h
theorem et{P:Prop}(h:P:=by show(k:Int)<(l.length:Int);omega):P:=h
namespace Go.Proofs.YtnamdpbcpnnhaaaGreatDoor
section
open Go.Al Go.Den
variable{A:db dw}{m fu:Nat}{r:RS}{P:Pr}
attribute [local irreducible] zY isF kH zt Gd QP Q5 Q7 QS Ex Dc Nm FnD Tr Pt pk Tp
def kp56(c:dJ A)(d:P.Ok)(g:5000<fu)(h:KSp A m r):KpC A 2 (m+1) (mN (aa:=([]:LK)) (rs:=([.st TI.node,.str,.bool]:LK)) (sh56 fu P.c54 r.c56 P.c72 P.c73 P.c78 r.c79 P.c80 r.c81 r.c82)):=by
 have i:=c.len;intro n p xs f j k;have o:=f.p0;have q:=f.p1;have s:=f.n1;refine SpK1_N ?_;simp only[sh56,cK]
 try dsimp only[zg]
 repeat' ((first|exact ya|refine yw dT ?_|refine K_retN dL ⟨fG,(by first|exact .inl ⟨rfl,rfl⟩|exact .inr (.inl ⟨rfl,rfl⟩)|exact .inr (.inr ⟨_,rfl⟩)),fR,(by simp only[zVB,zUO,zUQ];first|exact Nm.name (QP.nls fF) dL dM (QP.nls fF)|(rw[show∀(a b:Nd)(l r:db Nd),l++(a::b::r)=(l++[a])++b::r from λa b l r=>dQ];exact Nm.within (QP.nls fF) dL (QP.nls fF))),(by first|(intro e;cases e;done)|(intro _;simp only[zVB,zUO,zUQ];exact FnD.mk (QP.nls fF) (QP.nls fF) dL dL))⟩|refine K_is d c dL dP dP ?_ ?_|refine zBc d c dL ?_|refine zBW d c dL ?_|refine yq d c dL ?_|refine qC d c dL dP ?_|refine zBe d c dL ?_|refine K_C h.h56 dL dM dM ?_|refine K_P h.h79 dL dM dM dN dM fy ?_|refine K_L h.h81 dL dM dM ?_|refine K_D1 h.h82 dL dM dM dN dM fy dL ?_|refine K_D h.h82 dL dM dM dN dM fy ?_)<;>intros<;>(try dsimp only[cond_true,cond_false,Bool.not_true,Bool.not_false,zo,zn,zg]))
def kp37(a:dJ A)(c:P.Ok)(d:5000<fu)(h:KSp A m r):KpE A 5 (m+1) (mM (aa:=([.bool]:LK)) (rs:=([.st TI.node]:LK)) (sh37 fu r.c53 P.c54 r.c55 r.c56 r.c57 c58 c59 r.c60 c61)):=by
 have f:=a.len;intro n p xs t b g i;have j:=b.p0;have k:=b.p1;have l:=b.n1;refine qQ ?_;simp only[sh37,cK]
 try dsimp only[zg]
 repeat' ((first
  |exact ya
  |refine yw dT ?_
  |exact absurd (by assumption:false=true) Bool.false_ne_true
  |(rcases(‹MO1 _ _›)with⟨rfl,rfl⟩|⟨rfl,rfl⟩|⟨x,rfl⟩)
  |refine zHl ?_
  |refine zCb ?_ ?_
  |refine zKH a dL dM ?_
  |refine K_is c a dL dP dP ?_ ?_
  |refine zFm a dL dM ?_
  |refine zHm a dL dM dM ?_
  |refine K_S h.h53 dL dM dM ?_
  |refine K_R h.h55 dL dM dM dN dM fF ?_
  |refine K_C h.h56 dL dM dM ?_
  |refine K_I h.h57 dL dM dM fG dM dL dL ?_
  |refine K_B h.h60 dL dM dM ?_
  |refine xq dL ⟨fG,(by first|exact Tp.gd dL|exact Tp.fn dL rfl (Fn.mk dL dL dL ((by assumption:_=true->FnD A _) dL) dL dL))⟩)<;>intros<;>(try dsimp only[cond_true,cond_false,Bool.not_true,Bool.not_false,zo,zn,zg]))
def kp116(a:dJ A)(c:P.Ok)(f:5000<fu)(h:KSp A m r):KpF A 1 (m+1) (mM (aa:=([.ag [.ow true TI.node]]:LK)) (rs:=([.st TI.node]:LK)) (sh116 fu r.c37 c59 c61 P.c78 P.c84 r.c86 r.c117)):=by
 have g:=a.len;intro n p xs j ps b k l d o q;have s:=b.p0;have t:=b.p1;have u:=b.n1;refine qQ ?_;simp only[sh116,cK];have v:=d.len;have i:=d.le
 try dsimp only[zg]
 repeat' ((first|exact ya|refine yw dT ?_|refine xq dL ⟨dM,fG,fQ⟩|refine zFm a dL dM ?_|refine zHm a dL dM dM ?_|refine qC c a dL dP ?_|refine zEq c a dL dM dM dM ?_ ?_|refine K_E0 h.h37 dL dM dM ?_|refine K_N h.h86 dL dM dM ?_|refine K_U dP h.h117 dL dM dM dN dM ?_)<;>intros<;>(try dsimp only[cond_true,cond_false,Bool.not_true,Bool.not_false,zo,zn,zg]))
def kp117(a:dJ A)(c:P.Ok)(f:5000<fu)(h:KSp A m r):KpU A 9 (m+1) (mX (aa:=([.str]:LK)) (rs:=([]:LK)) (sh117 fu P.c54 P.c78 r.c113)):=by
 have g:=a.len;intro n p xs k l s i d o q e t;have u:=d.p0;have v:=d.p1;have w:=d.n1;refine zIS ?_;simp only[sh117,cK];have x:=e.len;have j:=e.le;have b:(weakW.contains s||fullW.contains s)=true:=by rw[i,Bool.or_true]
 try dsimp only[zg]
 repeat' ((first|exact ya|refine yw dT ?_|refine K_is c a dL (by rw[zUd,b];rfl) dQ ?_ ?_|refine qC c a dL b ?_|refine zIY dL ⟨dM,dN,fy,fO⟩|refine K_is c a dL dP dP ?_ ?_|refine qC c a dL dP ?_|refine K_N h.h113 dL dM dM ?_)<;>intros<;>(try dsimp only[cond_true,cond_false,Bool.not_true,Bool.not_false,zo,zn,zg]))
def kp86(a:dJ A)(b:P.Ok)(d:5000<fu)(h:KSp A m r):KpNd A 10 (m+1) (mM (aa:=([]:LK)) (rs:=([.st TI.node]:LK)) (sh86 fu P.c54 c59 r.c60 c61 P.c72 P.c73 P.c78 P.c80 P.c85 r.c86 P.c112 r.c113 r.c114 r.c115 r.c116 r.c117)):=by
 have f:=a.len;intro n p xs c g i;have j:=c.p0;have k:=c.p1;have l:=c.n1;refine qQ ?_;simp only[sh86,cK]
 try dsimp only[zg]
 repeat' ((first|exact ya|refine yw dT ?_|refine zHl ?_|refine zKF a _ dP ?_ ?_|refine K_is b a dL dP dP ?_ ?_|refine zFm a dL dM ?_|refine zHm a dL dM dM ?_|refine zBc b a dL ?_|refine zBW b a dL ?_|refine yq b a dL ?_|refine qC b a dL dP ?_|refine zBe b a dL ?_|refine zAU b a dL ?_ ?_|refine zAN b a dL ?_ ?_|refine zIA b a dL ?_ ?_|refine K_B h.h60 dL dM dM ?_|refine K_N h.h86 dL dM dM ?_|refine K_N h.h113 dL dM dM ?_|refine K_N h.h114 dL dM dM ?_|refine K_P h.h115 dL dM dM dN dM fy ?_|refine K_F h.h116 dL dM dM dN dM fF ?_|refine K_U dP h.h117 dL dM dM dN dM ?_|refine xq dL ⟨fG,(by first|assumption|exact Gd.goto_ fv dL fv|exact Gd.label dL fv dL|exact Gd.mk dP fF)⟩)<;>intros<;>(try dsimp only[cond_true,cond_false,Bool.not_true,Bool.not_false,zo,zn,zg]))
end
section
open Go.Al Go.Den
variable{A:db dw}{m fu:Nat}{r:RS}{P:Pr}
attribute [local irreducible] zY isF kH zt Gd QP Q5 Q7 QS Ex Dc Nm FnD Tr Pt pk Tp
def kp130(c:dJ A)(d:P.Ok)(f:5000<fu)(h:KSp A m r):KpK A 3 (m+1) (mM (aa:=([.bool]:LK)) (rs:=([.st TI.node,.str,.bool]:LK)) (sh130 fu P.c54 P.c72 P.c73 P.c76 P.c78 r.c79 r.c82 P.c85 r.c130)):=by
 have g:=c.len;intro n p xs i e j k;have o:=e.p0;have q:=e.p1;have s:=e.n1;refine qQ ?_;simp only[sh130,cK]
 try dsimp only[zg]
 repeat' ((first|exact ya|refine yw dT ?_|refine zHl ?_|refine zKF c _ dP ?_ ?_|refine zCb ?_ ?_|refine xq dL ⟨dM,(zNO dL dL).1,(zNO dL dL).2,fR⟩|refine K_is d c dL dP dP ?_ ?_|refine zBc d c dL ?_|refine zBW d c dL ?_|refine yq d c dL ?_|refine zNN d c dL dM ?_ ?_|refine zM3 d c dL dM ?_ ?_|refine qC d c dL dP ?_|refine zAU d c dL ?_ ?_|refine zAN d c dL ?_ ?_|refine K_P h.h79 dL dM dM dN dM fy ?_|refine K_D1 h.h82 dL dM dM dN dM fy dL ?_|refine K_D h.h82 dL dM dM dN dM fy ?_|refine K_K h.h130 dL dM dM ?_ ?_)<;>intros<;>(try dsimp only[cond_true,cond_false,Bool.not_true,Bool.not_false,zo,zn,zg]))
def kp131(a:dJ A)(f:P.Ok)(y:5000<fu)(h:KSp A m r):KpG A 5 (m+1) (mM (aa:=([.int .i64]:LK)) (rs:=([.st TI.node]:LK)) (sh131 fu c143 P.c72 P.c73 r.c131 r.c142)):=by
 have B:=a.len;intro n p xs z c C G;have H:=c.p0;have J:=c.p1;have K:=c.n1;refine qQ ?_;simp only[sh131,cK];refine K_N h.h142 c C dM ?_;intro q d L g i l o u;dsimp only;refine jx (I:=λs=>∃(q:Int)(d:db MT)(j:Int×(Int×NdsT))(k t:Int)(ks:db Nd),s=((),((A,(q,(d,((),())))),(j,((k,(t,(ks,()))),()))))/\Sto A n q d/\q<=(A.length:Int)/\p<q/\Tr p q (Nd.mk k t ks)/\Gd A (Nd.mk k t ks)) (μ:=λs=>((A.length:Int)-s.2.1.2.1).toNat) ?_ fu _ ⟨_,_,_,_,_,_,rfl,g,i,l,(by rw[qy];exact o),(by rw[qy];exact u)⟩ dV;rintro rec s ⟨q,d,j,k,t,ks,rfl,D,E,F,v,w⟩ b;dsimp only;generalize Nd.mk k t ks=nd1 at v w ⊢
 repeat' ((first|exact ya|refine yw dT ?_|refine b _ ⟨_,_,_,_,_,_,rfl,dL,dM,dM,fG,fQ⟩ dV|refine K_c143 a _ ?_|refine zCb ?_ ?_|refine zBc f a dL ?_|refine zBW f a dL ?_|refine yq f a dL ?_|refine K_G h.h131 dL dM dM ?_|refine xq dL ⟨fG,fQ⟩)<;>intros<;>(try dsimp only[cond_true,cond_false,Bool.not_true,Bool.not_false,zo,zn,zg]))
def kp154(b:dJ A)(c:P.Ok)(H:5000<fu)(h:KSp A m r):KpH A 1 (m+1) (mM (aa:=([.st TI.node]:LK)) (rs:=([.st TI.node]:LK)) (sh154 fu P.c54 P.c73 P.c78 P.c80 r.c111 r.c113)):=by
 have J:=b.len;intro n p xs v X u Y Z B ha K;have p0:=u.p0;have L:=u.p1;have n1:=u.n1;refine qQ ?_;simp only[sh154,cK];have M:=B.lt;refine jx (I:=λs=>∃(q:Int)(l:db MT)(j:Int×(Int×NdsT))(k t:Int)(ks:db Nd),s=((),((A,(q,(l,((),())))),((k,(t,(ks,()))),(j,()))))/\Sto A n q l/\q<=(A.length:Int)/\p<=q/\Tr v q (Nd.mk k t ks)/\Gd A (Nd.mk k t ks)) (μ:=λs=>((A.length:Int)-s.2.1.2.1).toNat) ?_ fu _ ⟨_,_,_,_,_,_,rfl,u,L,(Int.le_refl _),(by rw[qy];exact B),(by rw[qy];exact K)⟩ dV;rintro rec s ⟨q,l,j,k,t,ks,rfl,N,O,Q,o,w⟩ d;dsimp only;generalize Nd.mk k t ks=nd1 at o w ⊢;have C:=o.lt
 repeat' ((first|exact ya|refine yw dT ?_|refine d _ ⟨_,_,_,_,_,_,rfl,dL,dM,dM,fG,fS⟩ dV|refine K_is c b dL dP dP ?_ ?_|refine yq c b dL ?_|refine qC c b dL dP ?_|refine zBe c b dL ?_|refine K_N h.h111 dL dM dM ?_|refine K_N h.h113 dL dM dM ?_|refine xq dL ⟨dM,fG,(by first|assumption|exact Gd.mk dP fH)⟩)<;>intros<;>(try dsimp only[cond_true,cond_false,Bool.not_true,Bool.not_false,zo,zn,zg]))
 all_goals
  refine jx (I:=λs=>∃(f:Int)(l:db MT)(ps:db Nd)(D E:Int×(Int×NdsT))(y:dd),s=((y,()),((A,(f,(l,((),())))),(D,(E,((ps,()),())))))/\Sto A n f l/\f<=(A.length:Int)/\q<f/\Pt v f ps/\(ps.length:Int)<=f-v/\QP A ps/\(2<ps.length->y=true->zY A f=false)) (μ:=λs=>((A.length:Int)-s.2.1.2.1).toNat) ?_ fu _ ⟨_,_,_,_,_,_,rfl,dL,dM,dM,dN,dS,fH,d9⟩ dV;rintro F s2 ⟨f,R,ps,D,E,y,rfl,S,T,U,V,W,G,a⟩ i;dsimp only
  repeat' ((first|exact ya|refine yw dT ?_|refine i _ ⟨_,_,_,_,_,_,rfl,dL,dM,dM,dN,dS,fH,d9⟩ dV|refine d _ ⟨_,_,_,_,_,_,rfl,dL,dM,dM,fG,fS⟩ dV|refine zKT ?_ ?_|refine zCb ?_ ?_|refine K_is c b dL dP dP ?_ ?_|refine yq c b dL ?_|refine qC c b dL dP ?_|refine zBe c b dL ?_|refine K_N h.h111 dL dM dM ?_)<;>intros<;>(try dsimp only[cond_true,cond_false,Bool.not_true,Bool.not_false,zo,zn,zg]))
def kp155(a:dJ A)(b:P.Ok)(v:5000<fu)(h:KSp A m r):KpNd A 2 (m+1) (mM (aa:=([]:LK)) (rs:=([.st TI.node]:LK)) (sh155 fu P.c73 P.c85 P.c112 r.c115)):=by
 have w:=a.len;intro n p xs f D E;have F:=f.p0;have G:=f.p1;have H:=f.n1;refine qQ ?_;simp only[sh155,cK]
 try dsimp only[zg]
 repeat' ((first|exact ya|refine yw dT ?_|refine yq b a dL ?_|refine zAU b a dL ?_ ?_|refine zAN b a dL ?_ ?_|refine zIA b a dL ?_ ?_|refine K_P h.h115 dL dM dM dN dM fy ?_|refine xq dL ⟨fG,(by first|assumption|exact Gd.name dL|exact Gd.mk dP fF)⟩)<;>intros<;>(try dsimp only[cond_true,cond_false,Bool.not_true,Bool.not_false,zo,zn,zg]))
 all_goals
  refine jx (I:=λs=>∃(q:Int)(g:db MT)(ps:db Nd)(j:Int×(Int×NdsT)),s=((),((A,(q,(g,((),())))),(j,((ps,()),()))))/\Sto A n q g/\q<=(A.length:Int)/\p<=q/\(q=p->kH 4 A p=true)/\Pt p q ps/\(ps.length:Int)<=q-p/\QP A ps/\pk ps) (μ:=λs=>((A.length:Int)-s.2.1.2.1).toNat) ?_ fu _ ⟨_,_,_,_,rfl,dL,dM,dM,(λ_=>dL),dN,dS,fF,qm⟩ dV;rintro rec s ⟨q,g,ps,j,rfl,c,y,i,k,z,B,o,t⟩ d;dsimp only;refine zIA b a c ?_ ?_<;>intros<;>(try dsimp only[cond_true,cond_false])
  .repeat' ((first|exact ya|refine yw dT ?_|refine d _ ⟨_,_,_,_,rfl,dL,dM,dM,(λe=>absurd e dM),dN,dS,fF,fy⟩ dV|refine yq b a dL ?_|refine zAU b a dL ?_ ?_|refine zAN b a dL ?_ ?_|refine zIA b a dL ?_ ?_)<;>intros<;>(try dsimp only[cond_true,cond_false,Bool.not_true,Bool.not_false,zo,zn,zg]))
  .have C:p<q:=by
    rcases Int.lt_or_eq_of_le i with l|l
    .exact l
    .subst l;rename_i u;rw[k rfl]at u;cases u
   exact xq c ⟨fG,fQ⟩
def kp79(d:dJ A)(f:P.Ok)(w:5000<fu)(h:KSp A m r):KpP A 1 (m+1) 0 (mX (aa:=([]:LK)) (rs:=([]:LK)) (sh79 fu P.c54 P.c73)):=by
 have x:=d.len;intro n p xs g j i N O k Q y;have R:=i.p0;have S:=i.p1;have T:=i.n1;refine zIS ?_;simp only[sh79,cK];have U:=k.len;have z:=k.le;refine jx (I:=λs=>∃(q:Int)(c:db MT)(ps:db Nd),s=((),((A,(q,(c,((),())))),((ps,()),())))/\Sto A n q c/\q<=(A.length:Int)/\p<=q/\Pt g q ps/\(ps.length:Int)<=q-g/\Ex A j ps/\pk ps) (μ:=λs=>((A.length:Int)-s.2.1.2.1).toNat) ?_ fu _ ⟨_,_,_,rfl,dL,dM,dM,dN,dS,fO,fy⟩ dV;rintro rec s ⟨q,c,ps,rfl,B,C,V,D,E,l,o⟩ e;dsimp only
 repeat' ((first|exact ya|refine yw dT ?_|refine zIY dL ⟨dM,dN,fy,fO⟩|refine K_is f d dL dP dP ?_ ?_|refine yq f d dL ?_)<;>intros<;>(try dsimp only[cond_true,cond_false,Bool.not_true,Bool.not_false,zo,zn,zg]))
 all_goals
  refine jx (I:=λs=>∃(a:Int)(c:db MT)(ps:db Nd),s=((),((A,(a,(c,((),())))),((ps,()),())))/\Sto A n a c/\a<=(A.length:Int)/\q<a/\Pt g a ps/\(ps.length:Int)<=a-g/\Ex A j ps/\pk ps) (μ:=λs=>((A.length:Int)-s.2.1.2.1).toNat) ?_ fu _ ⟨_,_,_,rfl,dL,dM,dM,dN,dS,fO,fy⟩ dV;rintro t W ⟨a,F,G,rfl,H,J,K,L,M,u,v⟩ b;dsimp only
  repeat' ((first|exact ya|refine yw dT ?_|refine b _ ⟨_,_,_,rfl,dL,dM,dM,dN,dS,fO,fy⟩ dV|refine e _ ⟨_,_,_,rfl,dL,dM,dM,dN,dS,fO,fy⟩ dV|refine K_is f d dL dP dP ?_ ?_|refine yq f d dL ?_)<;>intros<;>(try dsimp only[cond_true,cond_false,Bool.not_true,Bool.not_false,zo,zn,zg]))
def kp82(b:dJ A)(c:P.Ok)(o:5000<fu)(h:KSp A m r):KpD A 2 (m+1) (mX (aa:=([]:LK)) (rs:=([]:LK)) (sh82 fu P.c54 P.c73 P.c78 r.c81 r.c111)):=by
 have t:=b.len;intro n p xs i u d D E j F v;have G:=d.p0;have H:=d.p1;have J:=d.n1;refine zIS ?_;simp only[sh82,cK];have K:=j.len;have w:=j.le;refine jx (I:=λs=>∃(q:Int)(f:db MT)(ps:db Nd),s=((),((A,(q,(f,((),())))),((ps,()),())))/\Sto A n q f/\q<=(A.length:Int)/\p<=q/\Pt i q ps/\(ps.length:Int)<=q-i/\Ex A u ps/\pk ps) (μ:=λs=>((A.length:Int)-s.2.1.2.1).toNat) ?_ fu _ ⟨_,_,_,rfl,dL,dM,dM,dN,dS,fO,fy⟩ dV;rintro rec s ⟨q,f,ps,rfl,x,y,z,B,C,k,l⟩ a;dsimp only
 repeat' ((first|exact ya|refine yw dT ?_|refine a _ ⟨_,_,_,rfl,dL,dM,dM,dN,dS,fO,fy⟩ dV|refine zIY dL ⟨dM,(by intro e;rcases Int.lt_or_eq_of_le z with g|g;exact g;subst g;exact absurd e (by rw[(by assumption:isF [[40],[91]] A _=false)];decide)),dN,fy,fO⟩|refine K_is c b dL dP dP ?_ ?_|refine yq c b dL ?_|refine qC c b dL dP ?_|refine K_L h.h81 dL dM dM ?_|refine K_N h.h111 dL dM dM ?_)<;>intros<;>(try dsimp only[cond_true,cond_false,Bool.not_true,Bool.not_false,zo,zn,zg]))
def kp53(a:dJ A)(b:P.Ok)(o:5000<fu)(h:KSp A m r):KpS A 3 (m+1) (mM (aa:=([]:LK)) (rs:=([.st TI.node,.bool]:LK)) (sh53 fu c33 P.c72 P.c73 r.c74 r.c75 P.c76)):=by
 have t:=a.len;intro n p xs d B C;have D:=d.p0;have E:=d.p1;have F:=d.n1;refine qQ ?_;simp only[sh53,cK];refine jx (I:=λs=>∃(q:Int)(f:db MT)(ps:db Nd)(j:Int×(Int×NdsT))(g sm i:dd),s=((g,(sm,(i,()))),((A,(q,(f,((),())))),(j,((ps,()),()))))/\Sto A n q f/\q<=(A.length:Int)/\p<=q/\Pt p q ps/\(ps.length:Int)<=q-p/\QS A ps/\(∀x,ps=[x]->prK 4 x.kind=true)) (μ:=λs=>((A.length:Int)-s.2.1.2.1).toNat) ?_ fu _ ⟨_,_,_,_,_,_,_,rfl,dL,dM,dM,dN,dQ,QS.nil,(by intro x e;cases e)⟩ dV;rintro rec s ⟨q,f,ps,j,g,sm,i,rfl,u,v,w,y,z,k,l⟩ c;dsimp only
 repeat' ((first|exact ya|refine yw dT ?_|refine c _ ⟨_,_,_,_,_,_,_,rfl,dL,dM,dM,dN,dS,(by first|assumption|exact QS.nil|exact QS.leaf dL|exact QS.snoc dL dL),fw⟩ dV|refine K_c33 _ dP ?_ ?_|refine zKT ?_ ?_|refine zHl ?_|refine zKF a _ dP ?_ ?_|refine zCb ?_ ?_|refine zBc b a dL ?_|refine zBW b a dL ?_|refine yq b a dL ?_|refine zNN b a dL dM ?_ ?_|refine zM3 b a dL dM ?_ ?_|refine K_M h.h74 dL dM dM fv ?_|refine K_M h.h75 dL dM dM fv ?_|refine xq dL ⟨fG,(Gd.specs dL),rfl⟩)<;>intros<;>(try dsimp only[cond_true,cond_false,Bool.not_true,Bool.not_false,zo,zn,zg]))
end
end Go.Proofs.YtnamdpbcpnnhaaaGreatDoor
namespace Go.Den
section
open Go.Al
def zipE:db Nat->db V->Env
 |k::ks,v::vs=>(k,v)::zipE ks vs
 |_,_=>[]
def zipT{U:TyU}:db Nat->db (T U)->En U
 |k::ks,v::vs=>(k,v)::zipT ks vs
 |_,_=>[]
def conE:db (Nat×dh)->Env->Env
 |[],e=>e
 |p::r,e=>(p.1,.at p.2)::conE r e
def conT{U:TyU}:db (Nat×dh)->En U->En U
 |[],e=>e
 |p::r,e=>(p.1,.con p.2)::conT r e
def chkC{U:TyU}{R:Type}:db (Nat×dh)->En U->da R->da R
 |[],_,K=>K
 |p::r,e,K=>match eget e p.1 with
  |.con _=>chkC r e K
  |_=>none
section
variable{U:TyU}(C:Cod U)(Tb:dg->TD U)
def runQ(fu d:Nat)(inl:Nat->da (FD U))(orc:Nat->da (Con U))(orr:Nat->da (CR U))(orp:Nat->da (CP U))(fi:FI U)(c:dE)(cs:db (Nat×dh))(e:dd)(slots oslots:db Nat)(ks b:db (SK U))(x:zA ks):da (da (zA b)):=
 zAw C ks x ⟨[],[],0,0,[]⟩ λvs st=>feS st λst=>feA vs λf=>
 drun C Tb fu (zDx C Tb fu inl orc orr orp (some none) d) fi c (conT cs (zipT slots f)) st λg e' a=>match g with
  |.normal=>chkC cs e' (qx C b (oslots.map λk=>eget e' k) a λy _=>some (some y))
  |.ret=>bif e then chkC cs e' (qx C b (oslots.map λk=>eget e' k) a λy _=>some (some y))else none
  |.exit id=>bif Nat.beq id 0&&!e then chkC cs e' (qx C b (oslots.map λk=>eget e' k) a λy _=>some (some y))else none
  |_=>none
variable{C Tb}{P:di}
def zNk{st:St U}{N:NM}:∀(slots:db Nat)(args:db (T U)),bdds st.nl st.nx args=true->dG C N st (zipT slots args) (zipE slots (args.map (trT C N)))
 |[],_,_,k=>⟨.inl rfl,rfl⟩
 |_::_,[],_,k=>⟨.inl rfl,rfl⟩
 |n::slots,x::xs,h,k=>by
  simp only[bdds,zUE]at h;simp only[zipT,eget,zUC,zipE,Env.get];by_cases e:n=k
  .subst e;have:Nat.beq n n=true:=dQ
   simp only[this,zUi,zUM];exact⟨.inr rfl,h.1⟩
  .simp only[qN e,zUk,if_neg e];exact zNk slots xs h.2 k
def zNK{st:St U}{N:NM}{e:En U}{E:Env}(h:dG C N st e E):∀cs:db (Nat×dh),dG C N st (conT cs e) (conE cs E)
 |[],k=>h k
 |p::r,k=>by
  simp only[conT,eget,conE,Env.get];by_cases a:p.1=k
  .have:Nat.beq p.1 k=true:=by simpa using a
   simp only[this,zUi,if_pos a];exact⟨.inr rfl,rfl⟩
  .simp only[qN a,zUk,if_neg a];exact zNK h r k
def zNB{R:Type}{e:En U}{K:da R}{r:R}:∀{cs:db (Nat×dh)},chkC cs e K=some r->K=some r/\∀p∈cs,∃v,eget e p.1=.con v
 |[],h=>⟨h,λp b=>(by cases b)⟩
 |p::cs,h=>by
  simp only[chkC]at h;split at h
  .rename_i v c;obtain⟨d,f⟩:=zNB h;refine⟨d,λq a=>?_⟩;rcases zUG.1 a with rfl|a
   .exact⟨v,c⟩
   .exact f q a
  .cases h
def QEnd(C:Cod U)(a:db (SK U))(cs:db (Nat×dh))(oslots:db Nat)(oc:da (zA a))(e':Env)(s':S):Prop:=(∀p∈cs,e'.get p.1=(conE cs []).get p.1)/\∃y,oc=some y/\∃q,VKs C s' a y (oslots.map e'.get) q/\q.Nodup
def zOE(C:Cod U)(syn:db dj)(a:db (SK U))(b:dd)(cs:db (Nat×dh))(oslots:db Nat)(oc:da (zA a)):dA->Env->S->Prop
 |.normal,e',s'=>QEnd C a cs oslots oc e' s'
 |.ret,e',s'=>b=true/\QEnd C a cs oslots oc e' s'
 |.exit id,e',s'=>(id=0/\b=false)/\QEnd C a cs oslots oc e' s'
 |.panic e,_,_=>e=syn/\oc=none
 |_,_,_=>False
def zNY(hT:TbOk C P Tb)(z:CodOk C)(hm:P.follows .mixedOrders=true){syn:db dj}{pf rf:dt->dd}{fu d:Nat}{inl:Nat->da (FD U)}{orc:Nat->da (Con U)}{orr:Nat->da (CR U)}{orp:Nat->da (CP U)}
 (F:∀f,pf f=(orc f).isSome) (G:∀f,rf f=(orr f).isSome) (H:∀f fd,inl f=some fd->FDOk P pf rf f fd) (I:∀f c,orc f=some c->OrcOk C P f c)
 (J:∀f c,orr f=some c->xY P f=true/\CROk C P f c) (K:∀f c,orp f=some c->xY P f=true/\dI C P syn f c) {fi:FI U} {c:dE} {cs:db (Nat×dh)} {rt:dd} {slots oslots:db Nat} {ks i:db (SK U)} {X:Cx} (L:jY pf rf fi X.N c=true) (M:je fi c=true)
 {x:zA ks} {oc:da (zA i)} (h:runQ C Tb fu d inl orc orr orp fi c cs rt slots oslots ks i x=some oc) (O:∀p∈cs,p.1∉dsts fi c) {Q:S} {vx:db V} {rs:db Res} (A:VKs C Q ks x vx rs) (hn:rs.Nodup):awp P X c (zOE C syn i rt cs oslots oc) (conE cs (zipE slots vx)) Q:=by
 unfold runQ at h;have R:∀y,¬Has ⟨id,id,id,id⟩ (⟨[],[],0,0,[]⟩:St U) y:=λy B=>by
  cases y with
  |inl n=>obtain⟨t,ht,_⟩:=B;cases ht
  |inr b=>obtain⟨l,b,T,_⟩:=B;simp[lk]at T
  |ob b=>obtain⟨l,b,T,_⟩:=B;simp[lko]at T
 obtain⟨N1,o,ac,k1,k2,k3,k4,k5,k6⟩:=zAF z ks x (SSim.empty ⟨id,id,id,id⟩ 0 0 Q) A hn (λy B W=>R y W) h;rw[jF,zDM]at k1;subst k4;refine kF (PP:=λe=>e=syn/\(some none:da (da (zA i)))=some oc) hT z hm (zDS hT z hm F G H I J K d fi.wr fi.own) c k3 (zNK (zNk slots o k5) cs) k1 L M (λe s' hq=>?_) ?_
 .obtain⟨Y,g⟩:=hq;injection g with g
  exact⟨Y,g.symm⟩
 .intro ex N' e' u Z s' m u2 u3 u4 u5;have aa:(qx C i (oslots.map λk=>eget e' k) u λy _=>some (some y))=some oc->∃y,oc=some y/\∃q,VKs C s' i y (oslots.map Z.get) q/\q.Nodup:=λW=>by
   obtain⟨y,ad,q,h3,_,_,_,h4,h5,_,_⟩:=kV z i (vs:=oslots.map λk=>eget e' k) (vs':=oslots.map Z.get) u3 dQ (λj x v a b=>by
    rw[zUy]at a b;cases hk:oslots[j]? with
    |none=>rw[hk]at a;cases a
    |some k=>
     rw[hk]at a b;injection a with a
     injection b with b
     subst a;subst b;exact(u4 k).1) W
   injection h3 with h3
   exact⟨y,h3.symm,q,h4,h5⟩
  have r:chkC cs e' (qx C i (oslots.map λk=>eget e' k) u λy _=>some (some y))=some oc->QEnd C i cs oslots oc Z s':=λm=>by
   obtain⟨v1,v2⟩:=zNB m;refine⟨λp D=>?_,aa v1⟩;obtain⟨v,A⟩:=v2 p D;have Y:eget e' p.1=eget (conT cs (zipT slots o)) p.1:=by
    rcases u5 p.1 (O p D)with q|q
    .exact q
    .rw[A]at q;cases q
   have g:=(u4 p.1).1;have w:∀(cs:db (Nat×dh))(e:En U)(E:Env),p∈cs->eget (conT cs e) p.1=.con ((cs.find? λq=>Nat.beq q.1 p.1).getD p).2/\(conE cs E).get p.1=.at ((cs.find? λq=>Nat.beq q.1 p.1).getD p).2:=by
    intro cs
    induction cs with
    |nil=>intro _ _ h;cases h
    |cons a cs ih=>
     intro e E h;by_cases s:a.1=p.1
     .have e2:Nat.beq a.1 p.1=true:=by simpa using s
      simp only[conT,eget,conE,Env.get,e2,zUi,if_pos s,List.find?_cons_of_pos,zVl];exact⟨trivial,trivial⟩
     .have e2:¬(Nat.beq a.1 p.1=true):=by simpa using s
      have ab:p∈cs:=by
       rcases zUG.1 h with rfl|h
       .exact absurd rfl s
       .exact h
      simp only[conT,eget,conE,Env.get,qN s,zUk,if_neg s];have:=ih e E ab;rw[List.find?_cons_of_neg (by simpa using e2)];exact this
   rcases g with g|g
   .rw[A]at g;cases g
   .rw[g,Y,(w cs _ [] D).1,(w cs (zipT slots o) [] D).2];rfl
  cases ex with
  |normal=>exact r m
  |ret=>
   obtain⟨w1,w2⟩:=zP m;exact⟨w1,r w2⟩
  |exit id=>
   obtain⟨w1,w2⟩:=zP m;exact⟨by simpa using w1,r w2⟩
  |goto l=>cases m
  |panic c=>cases m
  |outgrown=>cases m
end
end
end Go.Den
namespace Go.Proofs.YtnamdpbcpnnhaaaGreatDoor
section
open Go.Al Go.Den
def kf17:Nat->db Nat
 |0=>[0,2,3,4]
 |1=>[0,2,3,4,8]
 |2=>[0,2,3,4]
 |3=>[0,2,3]
 |4=>[0,2,3,4]
 |5=>[0,2,3,4,5]
 |6=>[0,2,3,4,5,22]
 |7=>[0,2,3,4,5]
 |8=>[0,2,3,4]
 |_=>[]
def hd17:db (Nat×Head UU):=[(6,⟨[0,2,3,4,5],[],[(4,parK),(5,ptsK)]⟩)]
noncomputable def fd17:FD UU:=mkfd kf17 hd17 [] [] Tryz.f17 28 [.cell 2 29,.cell 3 30]
noncomputable def zLO:dE:=match jV Tryz.f17 with
 |.seq _ (.seq _ (.seq _ (.seq _ (.seq _ (.seq (.block _ c) _)))))=>c
 |_=>.skip
abbrev k17:LK:=[.dl TI.tok,parK,ptsK]
noncomputable def run17(fu:Nat)(b c:dh)(a:zA kB->MM (zA kN))(x:zA k17):da (da (zA ([parK,ptsK]:LK))):=
 runQ CC Tb fu 3 (zG [(36,fd36)]) (zG []) (zG [(38,zA8)]) (zG [(37,cM kB kN a)]) fd17.fi zLO [(2,b),(3,c)] false [0,4,5] [4,5] k17 ([parK,ptsK]:LK) x
noncomputable def rest17b:dE:=match jV Tryz.f17 with
 |.seq _ (.seq _ (.seq _ (.seq _ (.seq _ (.seq _ c)))))=>c
 |_=>.skip
abbrev k17b:LK:=[.box [.int .i64,.int .i64,.dl TI.node],.box [.int .i64],ptsK]
abbrev k17c:LK:=[.box [.int .i64,.int .i64,.dl TI.node],.box [.int .i64]]
noncomputable def zPB(x:zA k17b):da (da (zA k17c)):=
 runQ CC Tb 0 2 (zG []) (zG []) (zG [(38,zA8)]) (zG []) fd17.fi rest17b [] true [2,3,5] [2,3] k17b k17c x
def zPn:FdX (hasN []) (hasN [38]) 36 fd36:=fdk Tryz.func36 Tryz.ntmps36 Tryz.results36
def sh17(fu:Nat)(e:Go.Value)(f:Go.Value)(d:(dd×dc)->MM (Nd×dc))(x:(LT×(dx×(NdsT×dc)))):(da (da (dx×(NdsT×dc)))):=iter fu (λ(b:(dc×(dx×(NdsT×dc)))->da (da (dx×(NdsT×dc))))(a:(dc×(dx×(NdsT×dc))))=>cond (ilt a.2.1.2.1 (lenI x.1)) (bo (d (true,()) a.2.1.1 (a.2.1.2.1,a.2.1.2.2.1)) λc=>cond (okN 40 (a.2.2.1.1.length+(List.length [(ndE c.1.1)]))) (b ((),((a.2.1.1,(c.2.1,(c.2.2,((),())))),(((a.2.2.1.1++[(ndE c.1.1)]),()),())))) (none)) (some (some ((a.2.1.1,(a.2.1.2.1,(a.2.1.2.2.1,((),())))),((a.2.2.1.1,()),()))))) ((),((x.2.1.1,(x.2.1.2.1,(x.2.1.2.2.1,((),())))),((x.2.2.1.1,()),())))
def eq17:@run17=@sh17:=dO
def sh17r(x:(JT×((Int×dc)×(NdsT×dc)))):(da (da (JT×((Int×dc)×dc)))) :=  let a:=Nd.mk 1 0 x.2.2.1.1;some (some (((Nd.kind a),((Nd.tok a),((Nd.kids a),()))),((0,()),())))
def eq17r:@zPB=@sh17r:=dO
end
section
open Go.RowKit Go.Al
def idle35(p q:Addr)(w:de) :
 CallsD Tryz.prog 35 #[.pointer (some p),.pointer (some q)] .returning w λe b w'=>e=.returned (.tuple #[])/\b=.returning/\w'=w:=by
 refine callsD_of_wpS Tryz.func35 rfl λc₀ cs c=>?_;apply wpS_seq;apply wpS_region;simp[wpOpsS,go_sem,recoverD,c,Tryz.ntmps35,Exit.thenS];refine wpS_of_wp ?_;have a:∀w:de,(binOp BinOp.eql 20 .nilIface .nilIface).run Tryz.prog w=.ok (.bool true) w:=λ_=>dO
 go_wp2;cases c₀
 simp_all [bodyPostS,results,Tryz.results35]
set_option maxRecDepth 100000 in
def syn35(p q:Nat)(z u n x:dh)(r A:dg)(b:db dj)(w:de)(s:w.heap[p]?=some (.cells #[z,u,n] r (0,0)))(B:w.heap[q]?=some (.cells #[x] A (0,0)))(d:p≠q) :
 CallsD Tryz.prog 35 #[.pointer (some ⟨p,0,none⟩),.pointer (some ⟨q,0,none⟩)] (.panicking ({ v:=.iface 61 (.agg #[]),recovered:=false }::b)) w λe Q w'=>e=.returned (.tuple #[])/\Q=.panicking ({ v:=.iface 61 (.agg #[]),recovered:=true }::b) /\
  w.heap.size<=w'.heap.size/\w'.heap[p]?=some (.cells #[.int .i64 0,.int .i64 0,.slice none 0 0] r (0,0))/\w'.heap[q]?=some (.cells #[.int .i64 160] A (0,0))/\(∀j,j<w.heap.size->j≠p->j≠q->w'.heap[j]?=w.heap[j]?)/\w'.os=w.os/\w'.tape=w.tape/\w'.output=w.output:=by
 refine callsD_of_wpS Tryz.func35 rfl λc₀ cs M=>?_;apply wpS_seq;apply wpS_region;simp[wpOpsS,go_sem,recoverD,M,Tryz.ntmps35,Exit.thenS];refine wpS_of_wp ?_;have N:w.cell? ⟨p,0,none⟩=some z:=by simp[World.cell?,s]
 have O:w.cell? ⟨p,1,none⟩=some u:=by simp[World.cell?,s]
 have P:w.cell? ⟨p,2,none⟩=some n:=by simp[World.cell?,s]
 have R:w.cell? ⟨q,0,none⟩=some x:=by simp[World.cell?,B]
 have S:∀o,w.frozen? ⟨p,o,none⟩=false:=λo=>by simp[World.frozen?,s]
 have T:w.frozen? ⟨q,0,none⟩=false:=by simp[World.frozen?,B]
 have U:∀w:de,(Instr.typeAssert (.iface 61 (.agg #[])) 20 61 true).run Tryz.prog w=.ok (.tuple #[.agg #[],.bool true]) w:=λ_=>dO
 have V:=(zUH.1 s).1;have X:=(zUH.1 B).1;have f:(w.alloc (.cells #[] 61)).heap[p]?=some (.cells #[z,u,n] r (0,0)):=(Below.heap_alloc _ _ _ V).trans s;have y:(w.alloc (.cells #[] 61)).heap[q]?=some (.cells #[x] A (0,0)):=(Below.heap_alloc _ _ _ X).trans B;obtain⟨a,g⟩:∃a,w.alloc (.cells #[] 61)=a:=⟨_,rfl⟩;rw[g]at f y;have C:∀(W:de)(k i:Nat)(v:dh)(c:dv dh)(t:dg)(m:Nat×Nat),W.heap[k]?=some (.cells c t m)->(W.setCell ⟨k,i,none⟩ v).heap[k]?=some (.cells (c.setIfInBounds i v) t m):=by
  intro W k i v c t m h;show(W.heap.modify k _)[k]?=_;obtain⟨D,Y⟩:=zUH.1 h;rw[zV4 (by rw[zWQ];exact D),zV5,Y];rfl
 have l:∀(W:de)(k i:Nat)(v:dh)(j:Nat),j≠k->(W.setCell ⟨k,i,none⟩ v).heap[j]?=W.heap[j]?:=λW k i v j E=>Below.heap_setCell _ _ _ j E;have sz:∀(W:de)(k i:Nat)(v:dh),(W.setCell ⟨k,i,none⟩ v).heap.size=W.heap.size:=λW k i v=>by show(W.heap.modify k _).size=_;simp
 have F:(a.setCell ⟨p,0,none⟩ (.int .i64 0)).heap[p]?=some (.cells #[.int .i64 0,u,n] r (0,0)):=C a p 0 _ _ _ _ f;have G:((a.setCell ⟨p,0,none⟩ (.int .i64 0)).setCell ⟨p,1,none⟩ (.int .i64 0)).heap[p]?=some (.cells #[.int .i64 0,.int .i64 0,n] r (0,0)):=C _ p 1 _ _ _ _ F;have Z:(((a.setCell ⟨p,0,none⟩ (.int .i64 0)).setCell ⟨p,1,none⟩ (.int .i64 0)).setCell ⟨p,2,none⟩ (.slice none 0 0)).heap[p]?=some (.cells #[.int .i64 0,.int .i64 0,.slice none 0 0] r (0,0)):=C _ p 2 _ _ _ _ G;have H:(((a.setCell ⟨p,0,none⟩ (.int .i64 0)).setCell ⟨p,1,none⟩ (.int .i64 0)).setCell ⟨p,2,none⟩ (.slice none 0 0)).heap[q]?=some (.cells #[x] A (0,0)):=by
  rw[l _ _ _ _ _ (zU9 d),l _ _ _ _ _ (zU9 d),l _ _ _ _ _ (zU9 d)];exact y
 have b0:a.cell? ⟨p,0,none⟩=some z:=by simp[World.cell?,f]
 have f0:a.frozen? ⟨p,0,none⟩=false:=by simp[World.frozen?,f]
 have b1:(a.setCell ⟨p,0,none⟩ (.int .i64 0)).cell? ⟨p,1,none⟩=some u:=by simp[World.cell?,F]
 have f1:(a.setCell ⟨p,0,none⟩ (.int .i64 0)).frozen? ⟨p,1,none⟩=false:=by simp[World.frozen?,F]
 have b2:((a.setCell ⟨p,0,none⟩ (.int .i64 0)).setCell ⟨p,1,none⟩ (.int .i64 0)).cell? ⟨p,2,none⟩=some n:=by simp[World.cell?,G]
 have f2:((a.setCell ⟨p,0,none⟩ (.int .i64 0)).setCell ⟨p,1,none⟩ (.int .i64 0)).frozen? ⟨p,2,none⟩=false:=by simp[World.frozen?,G]
 have b3:(((a.setCell ⟨p,0,none⟩ (.int .i64 0)).setCell ⟨p,1,none⟩ (.int .i64 0)).setCell ⟨p,2,none⟩ (.slice none 0 0)).cell? ⟨q,0,none⟩=some x:=by simp[World.cell?,H]
 have f3:(((a.setCell ⟨p,0,none⟩ (.int .i64 0)).setCell ⟨p,1,none⟩ (.int .i64 0)).setCell ⟨p,2,none⟩ (.slice none 0 0)).frozen? ⟨q,0,none⟩=false:=by simp[World.frozen?,H]
 have I:∀j,j<w.heap.size->a.heap[j]?=w.heap[j]?:=λj E=>by rw[<-g];exact Below.heap_alloc _ _ _ E
 have J:a.heap.size=w.heap.size+1:=by rw[<-g];simp
 have K:a.os=w.os/\a.tape=w.tape/\a.output=w.output:=by rw[<-g];exact⟨rfl,rfl,rfl⟩
 go_wp2;refine⟨rfl,.panicking ({ v:=.iface 61 (.agg #[]),recovered:=true }::b),by simp[M],_,results_none rfl _ _ _,rfl,rfl,?_⟩;refine⟨by rw[sz,sz,sz,sz,J];omega,?_,C _ q 0 _ _ _ _ H,λj h1 L h3=>?_,K⟩
 .rw[l _ _ _ _ _ d];exact Z
 .rw[l _ _ _ _ _ h3,l _ _ _ _ _ L,l _ _ _ _ _ L,l _ _ _ _ _ L];exact I j h1
end
section
open Go.Al Go.Den Go.RowKit
attribute [local congr] xP xi x7 qP yX xL yN yO xQ xn xE xx xN xG yI yT xD x9 xy yh xj xO yi yo xH xF yn xI xM yl qR qB qA xh xg xm xK ym yk
def zQJ(fu:Nat)(b c:dh)(a:dd×dc->MM (Nd×dc))(f:CQ 37 (cM ([.bool]:LK) ([.st TI.node]:LK) a)){X:Cx}(m:X.N=⟨28,[(2,b),(3,c)]⟩){x:zA k17}{oc:da (zA ([parK,ptsK]:LK))}(h:sh17 fu b c a x=some oc)
 {i:S} {j:db V} {rs:db Res} (n:VKs CC i k17 x j rs) (o:rs.Nodup):awp Tryz.prog X zLO (zOE CC syn ([parK,ptsK]:LK) false [(2,b),(3,c)] [4,5] oc) (conE [(2,b),(3,c)] (zipE [0,4,5] j)) i:=by
 have e:run17 fu b c a x=some oc:=by rw[eq17];exact h
 exact zNY (fu:=fu) (d:=3) (inl:=zG [(36,fd36)]) (orc:=zG []) (orr:=zG [(38,zA8)]) (orp:=zG [(37,cM ([.bool]:LK) ([.st TI.node]:LK) a)]) (pf:=hasN []) (rf:=hasN [38]) zHo CCok mixed (λg=>(qw (α:=Con UU) (l:=[]) g).symm) (λg=>(qw (α:=CR UU) (l:=[(38,zA8)]) g).symm)
  (zD zPn zC) zC (zD ⟨dO,ok38⟩ zC) (zD ⟨dO,f⟩ zC) (fi:=fd17.fi) (cs:=[(2,b),(3,c)]) (slots:=[0,4,5]) (oslots:=[4,5]) (by rw[m];kernel_rfl) dO e (by
   intro p k;have q:dsts fd17.fi zLO=[16,17,18,19,20,21,22,23,24,25,26]:=dO
   rw[q];simp only[zUG,zU4,zVL]at k;rcases k with rfl|rfl
   .show(2:Nat)∉_;decide
   .show(3:Nat)∉_;decide) n o
set_option maxRecDepth 100000 in
def long17(a:da Addr)(n cap:Nat)(h:4000<n)(w:de) :
 Calls Tryz.prog 17 #[.slice a n cap] w λe w'=>e=.returned (.tuple #[.agg #[.int .i64 0,.int .i64 0,.slice none 0 0],.int .i64 2])/\dC w.heap.size w w':=by
 have b:(4000:Int)<(n:Int):=dM
 go_enter_defers Tryz.func17,Tryz.ntmps17
 go_wp2;simp[bodyPostD,Leaves,results,Tryz.results17,go_sem];exact((Below.refl _ w).alloc (zUB _) _).alloc dQ _
def z18(l:db Nd):zA k17c:=(show(Int×Int×db Nd×dc)×(Int×dc)×dc from((1,0,l,()),(0,()),()))
def zOx{X:Cx}(c:X.N=⟨28,[]⟩){x:zA k17b}{a:S}{b:db V}{rs:db Res}(f:VKs CC a k17b x b rs)(h:rs.Nodup):awp Tryz.prog X rest17b (zOE CC syn k17c true [] [2,3] (some (z18 x.2.2.1.1))) (conE [] (zipE [2,3,5] b)) a:=by
 have e:zPB x=some (some (z18 x.2.2.1.1)):=by rw[eq17r];rfl
 exact zNY (fu:=0) (d:=2) (inl:=zG []) (orc:=zG []) (orr:=zG [(38,zA8)]) (orp:=zG []) (pf:=hasN []) (rf:=hasN [38]) zHo CCok mixed (λg=>(qw (α:=Con UU) (l:=[]) g).symm) (λg=>(qw (α:=CR UU) (l:=[(38,zA8)]) g).symm)
  zC zC (zD ⟨dO,ok38⟩ zC) zC (fi:=fd17.fi) (cs:=[]) (slots:=[2,3,5]) (oslots:=[2,3]) (by rw[c];kernel_rfl) dO e dQ f h
def inv17{q:Nat->Nat}{w g:de}{toks:V}{r:dh}{B C D:dg}(a:∀b,w.heap.size<=b->q b=0)(E:g.heap.size=w.heap.size+6)
 (s:g.heap[w.heap.size+2]?=some (.map #[] 0)) (F:g.heap[w.heap.size+3]?=some (.cells #[.map (some (w.heap.size+2))] B (0,0)))
 (G:g.heap[w.heap.size+4]?=some (.cells #[r,.int .i64 0,.slice (some ⟨w.heap.size+3,0,none⟩) 1 1,.map none] C (0,0))) (H:g.heap[w.heap.size+5]?=some (.cells #[.slice none 0 0] D (0,0)))
 (u:toks.isOne=true) (I:RC ⟨q,λt=>if t=0 then some none else none,Fr.no⟩ g toks [r]) :
 Al.Inv (w.heap.size+2) ⟨q,λt=>if t=0 then some none else none,Fr.no⟩ ⟨[(w.heap.size+4,[toks,.at (.int .i64 0),.at (.slice (some ⟨w.heap.size+3,0,none⟩) 1 1),.at (.map none)],4),(w.heap.size+5,[.lst (.own 0 true 3) []],1)],[0],1,[(w.heap.size+3,.sc [[]] 1,[w.heap.size+3,w.heap.size+2])]⟩ g:=by
 have i:∀(t:Nat)(d:Nat×Nat×Nat×Nat),(if t=0 then some (none:da (Nat×Nat×Nat×Nat))else none)=some (some d)->False:=λt d h=>by
  by_cases e:t=0<;>simp[e]at h
 have m:∀b c,Al.look [(w.heap.size+4,[toks,.at (.int .i64 0),.at (.slice (some ⟨w.heap.size+3,0,none⟩) 1 1),.at (.map none)],4),(w.heap.size+5,[.lst (.own 0 true 3) []],1)] b=some c->(b=w.heap.size+4/\c=([toks,.at (.int .i64 0),.at (.slice (some ⟨w.heap.size+3,0,none⟩) 1 1),.at (.map none)],4))\/(b=w.heap.size+5/\c=([.lst (.own 0 true 3) []],1)):=λb c h=>by
  by_cases e:w.heap.size+4=b
  .subst e;simp[Al.look]at h;exact .inl ⟨rfl,h.symm⟩
  .by_cases v:w.heap.size+5=b
   .subst v;simp[Al.look]at h;exact .inr ⟨rfl,h.symm⟩
   .simp[Al.look,e,v]at h
 have l:∀b o fp,zE [(w.heap.size+3,OV.sc [[]] 1,[w.heap.size+3,w.heap.size+2])] b=some (o,fp)->b=w.heap.size+3/\o=.sc [[]] 1/\fp=[w.heap.size+3,w.heap.size+2]:=λb o fp h=>by
  rw[zK]at h;by_cases e:w.heap.size+3=b
  .rw[if_pos e]at h;injection h with h;obtain⟨u,s⟩:=zVf h;exact⟨e.symm,u.symm,s.symm⟩
  .rw[if_neg e]at h;cases h
 refine⟨dM,λb cs k h=>?_,λt f=>?_,λt f b cap n sz h=>(i t _ h).elim,λt f P J b x y h=>(i t _ h).elim,dQ,λb z=>a b dM,λt f=>?_,λb z=>(by cases z),λb o fp h=>?_,λb o fp K o' L j h M _ _=>(l b _ _ h).1.trans (l K _ _ M).1.symm,λt f=>(by cases f)⟩
 .rcases m b _ h with⟨rfl,e⟩|⟨rfl,e⟩
  .obtain⟨rfl,rfl⟩:=zVf e;refine⟨dM,a _ dM,zUB _,λc A=>(by simp at A;rcases A with rfl|rfl|rfl|rfl<;>first|exact u|rfl),_,_,_,G,rfl,?_,rfl⟩;simp only[RCs];exact⟨[r],_,rfl,I,[_],_,rfl,by simp[RC,one],[_],_,rfl,by simp[RC,one],[_],_,rfl,by simp[RC,one],rfl⟩
  .obtain⟨rfl,rfl⟩:=zVf e;refine⟨dM,a _ dM,zUB _,by simp[V.isOne],_,_,[.slice none 0 0],H,rfl,?_,rfl⟩;simp only[RCs,RC];exact⟨_,[],rfl,.inl ⟨trivial,rfl,rfl,rfl⟩,rfl⟩
 .simp only[zUJ]at f;subst f;exact⟨none,rfl⟩
 .show(if t=0 then _ else _)=_;rw[if_neg (by show t≠0;have:1<=t:=f;omega)]
 .obtain⟨rfl,rfl,rfl⟩:=l b o fp h;refine⟨⟨[w.heap.size+2],_,_,rfl,dQ,F,rfl,zUB _,rfl,⟨[],[],rfl,⟨_,_,s,rfl⟩,rfl⟩⟩,dQ,λj p=>?_⟩;simp only[zUG,zU4,zVL]at p;refine⟨by rcases p with rfl|rfl<;>omega,by rcases p with rfl|rfl<;>omega,a j (by rcases p with rfl|rfl<;>omega),?_,λt f d N=>i t _ N,rfl⟩;cases e:Al.look [(w.heap.size+4,[toks,.at (.int .i64 0),.at (.slice (some ⟨w.heap.size+3,0,none⟩) 1 1),.at (.map none)],4),(w.heap.size+5,[.lst (.own 0 true 3) []],1)] j with
  |none=>rfl
  |some c=>rcases m j c e with⟨O,_⟩|⟨O,_⟩<;>rcases p with rfl|rfl<;>omega
def Inv.lower{B d:Nat}{g:Gh}{st:S}{w:de}(h:Al.Inv B g st w)(a:d<=B):Al.Inv d g st w:=
 ⟨zU0 a h.base,λb cs k c=>let⟨q1,q⟩:=h.box b cs k c;⟨zU0 a q1,q⟩,h.tag,λt e b cap n sz c=>let⟨q1,q⟩:=h.own t e b cap n sz c;⟨zU0 a q1,q⟩,h.dist,h.nodup,h.fresh,h.names,
  h.ex.frz,λb o fp f=>let⟨q1,q2,q3⟩:=h.ex.ob b o fp f;⟨q1,q2,λj i=>let⟨r1,r⟩:=q3 j i;⟨zU0 a r1,r⟩⟩,h.ex.obd,h.ex.ft⟩
abbrev pv(n:Nat):dh:=.pointer (some ⟨n,0,none⟩)
abbrev zHt(n:Nat):db Deferred:=[{ target:=.fn (.func 35) #[pv n,pv (n+1)],args:=#[] }]
def inv35(n:Nat)(W:de):(invoke (.fn (.func 35) #[pv n,pv (n+1)]) #[]).run Tryz.prog W=.ok (.enter 35 #[pv n,pv (n+1)]) W:=dO
def fin17g{k0:SK UU}{n:Nat}{g:Gh}{a:Act}{W:de}{e:Env}{s:S}(r:Rel ⟨n+2,⟨28,[(2,pv n),(3,pv (n+1))]⟩,none,zHt n⟩ g e s a W){y:zA ([k0,ptsK]:LK)}
 (hq:QEnd CC ([k0,ptsK]:LK) [(2,pv n),(3,pv (n+1))] [4,5] (some y) e s) (hn:W.heap[n]?=some (.cells #[.int .i64 0,.int .i64 0,.slice none 0 0] 29 (0,0))) (I:W.heap[n+1]?=some (.cells #[.int .i64 0] 30 (0,0)))
 (J:g.wm n=0) (K:g.wm (n+1)=0) (L:GlobOk n g.wm W) (A:g.fr=Fr.no) {R:Ending->de->Prop}
 (hR:∀g' G v,dB n g W g' G->(∀b,G.heap.size<=b->g'.wm b=0)->RV g'.bare G (.tup [za (Nd.mk 1 0 y.2.1.1),.at (.int .i64 0)]) v->R (.returned v) G) :
 rest17b.wp Tryz.prog (bodyPostD Tryz.prog Tryz.f17 R) a W:=by
 obtain⟨hc,y',u,q,i,M⟩:=hq;injection u with u
 subst u;simp only[zUC,zUL]at i;obtain⟨v4,ag,r4,ah,e4,rfl,k4,i⟩:=i;obtain⟨v5,ai,r5,aj,N,rfl,k5,i⟩:=i;obtain⟨rfl,rfl⟩:=i;subst N;injection e4 with e4 O
 injection O with N _
 obtain⟨b,vs,ak,rfl,B,P,rfl⟩:=k5;obtain⟨vo,_,_,_,rfl,rfl,⟨m,rfl,Q,T,rfl⟩,rfl,rfl⟩:=P;have i0:=Inv.lower r.inv (Nat.le_add_right n 2);have U:∀b c,Al.look s.box b=some c->n+2<=b:=λb c h=>(r.inv.box b c.1 c.2 h).1;have C:∀j,j<n+2->∀t∈s.tg,∀d,g.tb t=some (some (j,d))->False:=λj hj t ht d hd=>by
  obtain⟨cap,n',sz⟩:=d;have:=(r.inv.own t ht j cap n' sz hd).1;simp only at this;omega
 have D:∀j,j<n+2->∀Y o fp,zE s.ob Y=some (o,fp)->j∉fp:=λj hj Y o fp h hm=>by
  have:=((r.inv.ex.ob Y o fp h).2.2 j hm).1;simp only at this;omega
 have i1:=i0.addBox (b:=n) (cs:=[.at (.int .i64 0),.at (.int .i64 0),.lst .nil []]) (us:=[.int .i64 0,.int .i64 0,.slice none 0 0]) (zUB _) J hn dQ (by simp[V.isOne])
  (by simp only[RCs,RC];exact⟨[_],_,rfl,⟨rfl,rfl⟩,[_],_,rfl,⟨rfl,rfl⟩,[_],[],rfl,.inl ⟨trivial,rfl,trivial⟩,rfl⟩) rfl (C n dM) (by rw[A];rfl) (D n dM)
 have i2:=i1.addBox (b:=n+1) (cs:=[.at (.int .i64 0)]) (us:=[.int .i64 0]) (zUn _) K I dQ (by simp[V.isOne])
  (by simp only[RCs,RC];exact⟨[_],[],rfl,⟨rfl,rfl⟩,rfl⟩) rfl (C (n+1) dM) (by rw[A];rfl) (D (n+1) dM)
 have r2:Rel ⟨n,⟨28,[]⟩,none,zHt n⟩ g (conE [] (zipE [2,3,5] [.at (pv n),.at (pv (n+1)),.at (pv b)])) _ a W:=⟨i2,λk=>by
  rcases(Env.sub_of e [(2,.at (pv n)),(3,.at (pv (n+1))),(5,.at (pv b))] (λp hp=>by
   simp only[zUG,zU4,zVL]at hp;rcases hp with rfl|rfl|rfl
   .exact hc (2,pv n) dQ
   .exact hc (3,pv (n+1)) dQ
   .exact N)) k with Z|Z
  .show RV g W (Env.get [(2,.at (pv n)),(3,.at (pv (n+1))),(5,.at (pv b))] k) _;rw[Z];exact r.env k
  .show RV g W (Env.get [(2,.at (pv n)),(3,.at (pv (n+1))),(5,.at (pv b))] k) _;rw[Z];trivial,⟨r.size.1,dQ⟩,r.df,L⟩
 have al:=U _ _ B;have hV:VKs CC ⟨lay (lay s.box n ([.at (.int .i64 0),.at (.int .i64 0),.lst .nil []],3)) (n+1) ([.at (.int .i64 0)],1),s.tg,s.nx,s.ob⟩ k17b (show(Int×Int×db Nd×dc)×(Int×dc)×(db Nd×dc)×dc from((0,0,[],()),(0,()),(y.2.1.1,()),())) [.at (pv n),.at (pv (n+1)),.at (pv b)] [.inr n,.inr (n+1),.inr b,.inl m]:=
  ⟨_,_,[.inr n],[.inr (n+1),.inr b,.inl m],rfl,rfl,⟨n,_,[],rfl,by simp only[zO,if_neg (show ¬n+1=n by omega),zUM];rfl,⟨_,_,[],[],rfl,rfl,⟨rfl,rfl⟩,_,_,[],[],rfl,rfl,⟨rfl,rfl⟩,_,_,[],[],rfl,rfl,⟨rfl,rfl⟩,rfl,rfl⟩,rfl⟩,
   _,_,[.inr (n+1)],[.inr b,.inl m],rfl,rfl,⟨n+1,_,[],rfl,by simp only[zO,zUM];rfl,⟨_,_,[],[],rfl,rfl,⟨rfl,rfl⟩,rfl,rfl⟩,rfl⟩,
   _,_,[.inr b,.inl m],[],rfl,rfl,⟨b,_,[.inl m],rfl,by simp only[zO,if_neg (show ¬n+1=b by omega),if_neg (show ¬n=b by omega)];exact B,⟨_,_,[.inl m],[],rfl,rfl,⟨m,rfl,Q,T,rfl⟩,rfl,rfl⟩,rfl⟩,rfl,rfl⟩
 have H:=zOx (X:=⟨n,⟨28,[]⟩,none,zHt n⟩) rfl hV d4 g a W r2;refine wpIn_wide.1 (wpIn_mono H ?_);rintro ex a3 W3 ⟨g3,e3,s3,k1,k2,x⟩;have E:QEnd CC k17c [] [2,3] (some (z18 y.2.1.1)) e3 s3->Leaves Tryz.prog Tryz.f17 a3.tmps R a3.defers .returning W3:=by
  rintro⟨_,y',u,q,i,M⟩;injection u with u
  subst u;obtain⟨v2,am,_,_,z,rfl,⟨b2,an,_,rfl,aa,ab,rfl⟩,i⟩:=i;obtain⟨v3,ao,_,_,w,rfl,⟨b3,ap,_,rfl,ac,ad,rfl⟩,rfl,rfl⟩:=i;subst w;obtain⟨_,_,_,_,rfl,rfl,⟨rfl,rfl⟩,_,_,_,_,rfl,rfl,⟨rfl,rfl⟩,_,_,_,_,rfl,rfl,⟨rfl,rfl⟩,rfl,rfl⟩:=ab;obtain⟨_,_,_,_,rfl,rfl,⟨rfl,rfl⟩,rfl,rfl⟩:=ad;injection z with z ae
  injection ae with w _
  rw[k2.df];refine leaves_cons (f:=35) (args:=#[pv n,pv (n+1)]) dQ (inv35 n W3) (CallsD.mono (idle35 ⟨n,0,none⟩ ⟨n+1,0,none⟩ W3) ?_);rintro en u' w' ⟨rfl,rfl,rfl⟩;have F:yx Tryz.prog [.cell 2 29,.cell 3 30] e3 s3 λxs=>xs=[za (Nd.mk 1 0 y.2.1.1),.at (.int .i64 0)]:=by
   simp only[yx,qW,z,w,aa,ac,z7,yA,ku,hasT30,jr,zTu,zBk,aggT30];refine⟨⟨trivial,dQ,dQ⟩,by simp[V.flat,zp,zM,V.isOne],⟨trivial,dQ,dQ⟩,by simp[V.flat,zM,V.isOne],?_⟩;have e1:za (Nd.mk 1 0 y.2.1.1)=.agg [.at (.int .i64 1),.at (.int .i64 0),.lst (zx (y.2.1.1.map (CC.encV TI.node))) (y.2.1.1.map (CC.encV TI.node))]:=qv 1 0 (show db Nd from y.2.1.1);have z:=CCok.untag TI.node (Nd.mk 1 0 y.2.1.1);change (za (Nd.mk 1 0 y.2.1.1)).untag=za (Nd.mk 1 0 y.2.1.1)at z;simp only[zUM,zUN,zUK];show[Al.V.untag (.agg [.at (.int .i64 1),.at (.int .i64 0),.lst (zx (y.2.1.1.map (CC.encV TI.node))) (y.2.1.1.map (CC.encV TI.node))]),Al.V.untag (.at (.int .i64 0))]=_;rw[<-e1,z];rfl
  obtain⟨xs,us,rfl,j2,j3⟩:=zAG F k2;have af:Tryz.f17.results.toList=[.cell 2 29,.cell 3 30]:=by rw[Tryz.results17]
  refine⟨_,zAQ (by rw[af];exact j3),hR g3 _ _ k1 k2.inv.fresh (zEN j2)⟩
 cases ex with
 |normal=>exact E x
 |ret=>exact E x.2
 |exit id=>cases x.1.2
 |panic c=>cases x.2
 |goto l=>exact x.elim
 |outgrown=>exact x.elim
def bad17{n:Nat}{a:Act}{W:de}(c:a.tmps.getD 2 undef=pv n)(d:a.tmps.getD 3 undef=pv (n+1))(e:a.defers=zHt n)
 (k:W.heap[n]?=some (.cells #[.int .i64 0,.int .i64 0,.slice none 0 0] 29 (0,0))) (g:W.heap[n+1]?=some (.cells #[.int .i64 0] 30 (0,0))) {R:Ending->de->Prop}
 (l:∀b,W.heap.size<=b.heap.size->(∀j,j<W.heap.size->j≠n->j≠n+1->b.heap[j]?=W.heap[j]?)->b.os=W.os->b.tape=W.tape->b.output=W.output->R (.returned (.tuple #[.agg #[.int .i64 0,.int .i64 0,.slice none 0 0],.int .i64 160])) b) :
 Leaves Tryz.prog Tryz.f17 a.tmps R a.defers (.panicking syn) W:=by
 rw[e];refine leaves_cons (f:=35) (args:=#[pv n,pv (n+1)]) dQ (inv35 n W) (CallsD.mono (syn35 n (n+1) _ _ _ _ _ _ [] W k g dM) ?_);rintro x y w' ⟨rfl,rfl,m,h,o,p,q,r,s⟩;have i:Tryz.f17.results.toList=[.cell 2 29,.cell 3 30]:=by rw[Tryz.results17]
 refine⟨_,zAQ (us:=[.agg #[.int .i64 0,.int .i64 0,.slice none 0 0],.int .i64 160]) ?_,l w' m p q r s⟩;rw[i];have t:w'.cell? ⟨n,0,none⟩=some (.int .i64 0):=by simp[World.cell?,h]
 have u:w'.cell? ⟨n,1,none⟩=some (.int .i64 0):=by simp[World.cell?,h]
 have v:w'.cell? ⟨n,2,none⟩=some (.slice none 0 0):=by simp[World.cell?,h]
 have w:w'.cell? ⟨n+1,0,none⟩=some (.int .i64 160):=by simp[World.cell?,o]
 simp[zBI,c,d,go_sem,t,u,v,w]
def six(w:de)(b c d f g j:Obj){a:de}(h:((((((w.alloc b).alloc c).alloc d).alloc f).alloc g).alloc j)=a) :
 a.heap.size=w.heap.size+6/\a.heap[w.heap.size]?=some b/\a.heap[w.heap.size+1]?=some c/\a.heap[w.heap.size+2]?=some d/\a.heap[w.heap.size+3]?=some f/\a.heap[w.heap.size+4]?=some g/\a.heap[w.heap.size+5]?=some j:=by
 have e:a.heap=(((((w.heap.push b).push c).push d).push f).push g).push j:=by rw[<-h];rfl
 rw[e];generalize w.heap=H;have L:∀(A:dv Obj)(x:Obj)(i:Nat),i<A.size->(A.push x)[i]?=A[i]?:=λA x i h=>by simp[Array.getElem?_push,zWB h]
 have N:∀(A:dv Obj)(x:Obj)(i:Nat),i=A.size->(A.push x)[i]?=some x:=λA x i h=>by subst h;simp
 refine⟨dQ,?_,?_,?_,?_,?_,?_⟩<;>(repeat rw[L _ _ _ (by simp only[Array.size_push];omega)])<;>exact N _ _ _ (by simp[Array.size_push])
abbrev x17(l:db dw):zA k17:=(show db dw×dx×NdsT×dc from(l,(l,0,[[]],(),()),([],()),()))
def ans17:da (dx×NdsT×dc)->V
 |none=>.tup [za (Nd.mk 0 0 []),.at (.int .i64 160)]
 |some y=>.tup [za (Nd.mk 1 0 y.2.1.1),.at (.int .i64 0)]
set_option maxRecDepth 100000 in
def zT8(fu:Nat)(q:dd×dc->MM (Nd×dc))(M:CQ 37 (cM ([.bool]:LK) ([.st TI.node]:LK) q)){l:db dw}{oc:da (dx×NdsT×dc)}(S:l.length<=4000)
 (N:sh17 fu (.int .i64 0) (.int .i64 0) q (x17 l)=some oc) (a:da Addr) (cap:Nat) (d:Nat->Nat) (w:de) (h:∀b,w.heap.size<=b->d b=0) (B:GlobOk w.heap.size d w)
 (hu:RC ⟨d,λ_=>none,Fr.no⟩ w (.lst (zx (l.map (CC.encV TI.tok))) (l.map (CC.encV TI.tok))) [.slice a l.length cap]) :
 Calls Tryz.prog 17 #[.slice a l.length cap] w λe w'=>∃v r,e=.returned v/\(∀b,w'.heap.size<=b->r b=0)/\dB w.heap.size ⟨d,λ_=>none,Fr.no⟩ w ⟨r,λ_=>none,Fr.no⟩ w'/\RV ⟨r,λ_=>none,Fr.no⟩ w' (ans17 oc) v:=by
 have h4:¬((4000:Int)<(l.length:Int)):=dM
 have aa:∀T first cap w,(Instr.makeFunc T first cap).run Tryz.prog w=.ok (.func T first cap) w:=λ_ _ _ _=>rfl;have ab:∀w,(Instr.makeMap 63 none).run Tryz.prog w=.ok (.map (some w.heap.size)) (w.alloc (.map #[] 0)):=λ_=>dO
 go_enter_defers Tryz.func17,Tryz.ntmps17
 go_wp2;rename_i ac K hK;have z:dC w.heap.size w ((((((w.alloc (.cells #[.int .i64 0,.int .i64 0,.slice none 0 0] 29)).alloc (.cells #[.int .i64 0] 30)).alloc (.map #[] 0)).alloc (.cells #[.map (some (w.heap.size+1+1))] 63)).alloc
  (.cells #[.slice a l.length cap,.int .i64 0,.slice (some ⟨w.heap.size+1+1+1,0,none⟩) 1 1,.map none] 66)).alloc (.cells #[.slice none 0 0] 68)):=
  ((((((Below.refl _ w).alloc (zUB _) _).alloc dQ _).alloc d4 _).alloc d4 _).alloc d4 _).alloc d4 _
 obtain⟨s,C⟩:∃s,((((((w.alloc (.cells #[.int .i64 0,.int .i64 0,.slice none 0 0] 29)).alloc (.cells #[.int .i64 0] 30)).alloc (.map #[] 0)).alloc (.cells #[.map (some (w.heap.size+1+1))] 63)).alloc
  (.cells #[.slice a l.length cap,.int .i64 0,.slice (some ⟨w.heap.size+1+1+1,0,none⟩) 1 1,.map none] 66)).alloc (.cells #[.slice none 0 0] 68))=s:=⟨_,rfl⟩
 obtain⟨O,q0,q1,q2,q3,q4,q5⟩:=six w _ _ _ _ _ _ C;rw[C]at z ⊢;have U:dD ⟨d,λ_=>none,Fr.no⟩ w ⟨d,λt=>if t=0 then some none else none,Fr.no⟩ s:=⟨λ_=>zUB _,(λ_ _ e=>fb),λb o f=>World.cell?_of_block (z.block b (by
  rcases zUx b w.heap.size with u|u
  .exact u
  .replace f:o<d b:=f;rw[h b u]at f;omega))⟩
 have D:=zCC U _ _ hu;have i0:=inv17 (toks:=.lst (zx (l.map (CC.encV TI.tok))) (l.map (CC.encV TI.tok))) h O q2 q3 q4 q5 rfl D;have hV:VKs CC ⟨[(w.heap.size+4,[.lst (zx (l.map (CC.encV TI.tok))) (l.map (CC.encV TI.tok)),.at (.int .i64 0),.at (.slice (some ⟨w.heap.size+3,0,none⟩) 1 1),.at (.map none)],4),(w.heap.size+5,[.lst (.own 0 true 3) []],1)],[0],1,[(w.heap.size+3,.sc [[]] 1,[w.heap.size+3,w.heap.size+2])]⟩
  k17 (x17 l) [.lst (zx (l.map (CC.encV TI.tok))) (l.map (CC.encV TI.tok)),.at (pv (w.heap.size+4)),.at (pv (w.heap.size+5))] [.inr (w.heap.size+4),.ob (w.heap.size+3),.inr (w.heap.size+5),.inl 0]:=
  ⟨_,_,[],_,rfl,rfl,⟨rfl,rfl⟩,_,_,[.inr (w.heap.size+4),.ob (w.heap.size+3)],[.inr (w.heap.size+5),.inl 0],rfl,rfl,⟨_,_,[.ob (w.heap.size+3)],rfl,by simp[Al.look],
   ⟨_,_,[],[.ob (w.heap.size+3)],rfl,rfl,⟨rfl,rfl⟩,_,_,[],[.ob (w.heap.size+3)],rfl,rfl,⟨rfl,rfl⟩,_,_,[.ob (w.heap.size+3)],[],rfl,rfl,⟨w.heap.size+3,1,_,rfl,by rw[zK,if_pos rfl];rfl,rfl⟩,_,_,[],[],rfl,rfl,⟨⟨none,rfl⟩,rfl⟩,rfl,rfl⟩,rfl⟩,
   _,_,[.inr (w.heap.size+5),.inl 0],[],rfl,rfl,⟨_,[.lst (.own 0 true 3) []],[.inl 0],rfl,by simp[Al.look],⟨_,_,[.inl 0],[],rfl,rfl,⟨0,rfl,dQ,dQ,rfl⟩,rfl,rfl⟩,rfl⟩,rfl,rfl⟩
 have H:=zQJ fu (pv w.heap.size) (pv (w.heap.size+1)) q M (X:=⟨w.heap.size+2,⟨28,[(2,pv w.heap.size),(3,pv (w.heap.size+1))]⟩,none,zHt w.heap.size⟩) rfl (x:=x17 l) (oc:=oc) N hV dQ;refine wpIn_wide.1 (wpIn_mono (H ⟨d,λt=>if t=0 then some none else none,Fr.no⟩ _ s ⟨i0,λk=>?_,⟨rfl,λp V=>?_⟩,rfl,(B.below z λ_=>zUB _).mono (Nat.le_add_right _ 2)⟩) ?_)
 .have i:∀v:dh,one v=true->RV ⟨d,λt=>if t=0 then some none else none,Fr.no⟩ s (.at v) v:=λv hv=>RV.of_RV1 ⟨[v],by simp[RC,hv],rfl⟩;show RV _ _ (Env.get [(2,.at (pv w.heap.size)),(3,.at (pv (w.heap.size+1))),(0,.lst (zx (l.map (CC.encV TI.tok))) (l.map (CC.encV TI.tok))),(4,.at (pv (w.heap.size+4))),(5,.at (pv (w.heap.size+5)))] k) _;simp only[Env.get];split
  .rename_i e;subst e;exact i _ rfl
  split
  .rename_i e;subst e;exact i _ rfl
  split
  .rename_i e;subst e;exact RV.of_RV1 ⟨_,D,rfl⟩
  split
  .rename_i e;subst e;exact i _ rfl
  split
  .rename_i e;subst e;exact i _ rfl
  trivial
 .simp only[zUG,zU4,zVL]at V;rcases V with rfl|rfl<;>rfl
 .rintro ex W w' ⟨g',e',s',k1,k2,m⟩;have I:dB w.heap.size ⟨d,λt=>if t=0 then some none else none,Fr.no⟩ s g' w':=⟨k1.later,k1.below.mono (Nat.le_add_right _ 2),k1.fz,λb g=>k1.wmB b (zUo g (Nat.le_add_right _ 2)),k1.fr⟩;have Y:w'.heap[w.heap.size]?=_:=(k1.below.block _ eR).trans q0;have Z:w'.heap[w.heap.size+1]?=_:=(k1.below.block _ eM).trans q1;have E:g'.wm w.heap.size=0:=(k1.wmB _ eR).trans (h _ (zUB _));have F:g'.wm (w.heap.size+1)=0:=(k1.wmB _ eM).trans (h _ (zUn _));have P:GlobOk w.heap.size g'.wm w':=B.below (z.trans I.below) λb=>k1.later.wm b;have G:∀A j,dB w.heap.size ⟨d,λt=>if t=0 then some none else none,Fr.no⟩ s A j->dB w.heap.size ⟨d,λ_=>none,Fr.no⟩ w ⟨A.wm,λ_=>none,Fr.no⟩ j:=λA j S2=>
   ⟨⟨S2.later.wm,(λ_ _ e=>fb),λb o f=>(S2.later.cell b o f).trans (U.cell b o f)⟩,z.trans S2.below,(λb g=>by cases g),S2.wmB,rfl⟩
  have n:QEnd CC ([parK,ptsK]:LK) [(2,pv w.heap.size),(3,pv (w.heap.size+1))] [4,5] oc e' s'->K W w':=by
   rintro⟨m1,y,rfl,m2⟩;refine hK W w' (fin17g k2 ⟨m1,y,rfl,m2⟩ Y Z E F P k1.fr λA j v J L Q=>?_);exact⟨v,A.wm,rfl,L,G A j (I.trans J),RV.fr _ _ Q⟩
  cases ex with
  |normal=>exact n m
  |ret=>cases m.1
  |exit id=>
   obtain⟨⟨rfl,_⟩,m⟩:=m;exact n m
  |panic c=>
   obtain⟨rfl,rfl⟩:=m;refine bad17 (k2.size.2 (2,pv w.heap.size) dQ) (k2.size.2 (3,pv (w.heap.size+1)) dQ) k2.df Y Z λj J L Q r4 r5=>?_;have R:dD g' w' g' j:=⟨λ_=>zUB _,λ_ _ e=>e,λb o f=>World.cell?_of_block (L b (by
    rcases zUx b w'.heap.size with u|u
    .exact u
    .rw[k2.inv.fresh b u]at f;omega) (λe=>by subst e;rw[E]at f;omega) (λe=>by subst e;rw[F]at f;omega))⟩
   have g:dC w.heap.size w' j:=⟨Q,r4,r5,J,λk hk=>L k (by have:=(z.trans I.below).size;omega) dM dM⟩;refine⟨_,g'.wm,rfl,λb g=>k2.inv.fresh b (zU0 J g),G g' j (I.trans ⟨R,g,λb g=>(by rw[k1.fr]at g;cases g),λ_ _=>rfl,rfl⟩),?_⟩;refine zEN (xs:=[za (Nd.mk 0 0 []),.at (.int .i64 160)]) (us:=[.agg #[.int .i64 0,.int .i64 0,.slice none 0 0],.int .i64 160]) (.cons ⟨[.int .i64 0,.int .i64 0,.slice none 0 0],?_,rfl⟩ (.cons ⟨[.int .i64 160],?_,rfl⟩ .nil))
   .rw[qv];simp only[RC,RCs,vi,sl];exact⟨[_],_,rfl,⟨rfl,rfl⟩,[_],_,rfl,⟨rfl,rfl⟩,[_],[],rfl,.inl ⟨rfl,rfl,trivial⟩,rfl⟩
   .simp only[RC];exact⟨trivial,rfl⟩
  |goto l=>exact m.elim
  |outgrown=>exact m.elim
def zMZ{l:db dw}(m:4000<l.length):jS Tryz.prog 17 [.lst (zx (l.map (CC.encV TI.tok))) (l.map (CC.encV TI.tok))] (.tup [za (Nd.mk 0 0 []),.at (.int .i64 2)]):=by
 intro g w vs c q i;obtain⟨v,rfl⟩:∃v,vs=[v]:=by cases i with|cons _ i=>cases i;exact⟨_,rfl⟩
 cases i with
 |cons h _=>
  obtain⟨us,p,r⟩:=h;have j:(l.map (CC.encV TI.tok)).length=l.length:=zUZ _;obtain⟨a,cap,rfl⟩:∃a cap,v=.slice a l.length cap:=by
   simp only[RC]at p;rcases p with⟨e,rfl,_⟩|⟨b,o,cap,ds,rfl,_⟩
   .have:l=[]:=List.map_eq_nil_iff.1 e;subst this;simp at m
   .exact⟨some ⟨b,o,none⟩,cap,r.trans (zU1 (λn=>Value.slice (some ⟨b,o,none⟩) n cap) j)⟩
  refine Calls.mono (long17 a l.length cap m w) ?_;rintro e w' ⟨rfl,d⟩;have s:dD ⟨g,λ_=>none,Fr.no⟩ w ⟨g,λ_=>none,Fr.no⟩ w':=⟨λ_=>zUB _,λ_ _ e=>e,λb o k=>World.cell?_of_block (d.block b (by
   rcases zUx b w.heap.size with f|f
   .exact f
   .replace k:o<g b:=k;rw[c b f]at k;omega))⟩
  refine⟨_,g,rfl,λb f=>c b (zU0 d.size f),⟨s,d,(λb d=>by cases d),λ_ _=>rfl,rfl⟩,?_⟩;refine zEN (xs:=[za (Nd.mk 0 0 []),.at (.int .i64 2)]) (us:=[.agg #[.int .i64 0,.int .i64 0,.slice none 0 0],.int .i64 2]) (.cons ⟨[.int .i64 0,.int .i64 0,.slice none 0 0],?_,rfl⟩ (.cons ⟨[.int .i64 2],?_,rfl⟩ .nil))
  .rw[qv];simp only[RC,RCs,vi,sl];exact⟨[_],_,rfl,⟨rfl,rfl⟩,[_],_,rfl,⟨rfl,rfl⟩,[_],[],rfl,.inl ⟨rfl,rfl,trivial⟩,rfl⟩
  .simp only[RC];exact⟨trivial,rfl⟩
def pure17(fu:Nat)(c:dd×dc->MM (Nd×dc))(j:CQ 37 (cM ([.bool]:LK) ([.st TI.node]:LK) c)){l:db dw}{oc:da (dx×NdsT×dc)}(d:l.length<=4000)
 (k:sh17 fu (.int .i64 0) (.int .i64 0) c (x17 l)=some oc):jS Tryz.prog 17 [.lst (zx (l.map (CC.encV TI.tok))) (l.map (CC.encV TI.tok))] (ans17 oc):=by
 intro r w vs m p g;obtain⟨v,rfl⟩:∃v,vs=[v]:=by cases g with|cons _ g=>cases g;exact⟨_,rfl⟩
 cases g with
 |cons h _=>
  obtain⟨us,i,q⟩:=h;have f:(l.map (CC.encV TI.tok)).length=l.length:=zUZ _;obtain⟨a,cap,rfl,rfl⟩:∃a cap,v=.slice a l.length cap/\us=[.slice a l.length cap]:=by
   have s:=i;simp only[RC]at i;rcases i with⟨e,rfl,_⟩|⟨b,o,cap,ds,rfl,_⟩
   .have:l=[]:=List.map_eq_nil_iff.1 e;subst this;exact⟨none,0,by rw[q];simp[pack],rfl⟩
   .exact⟨some ⟨b,o,none⟩,cap,q.trans (zU1 (λn=>Value.slice (some ⟨b,o,none⟩) n cap) f),zU1 (λn=>[Value.slice (some ⟨b,o,none⟩) n cap]) f⟩
  exact zT8 fu c j d k a cap r w m p i
end
section
open Go.Al Go.Den
def cv17:da (dx×NdsT×dc)->Nd×Int×dc
 |none=>(Nd.mk 0 0 [],160,())
 |some y=>(Nd.mk 1 0 y.2.1.1,0,())
noncomputable def c17(fu n:Nat)(x:db dw×dc):da (Nd×Int×dc):=
 if x.1.length<=4000 then(sh17 fu (.int .i64 0) (.int .i64 0) (rs fu n).c37 (x17 x.1)).map cv17 else some (Nd.mk 0 0 [],2,())
def fin17r(a:Nd)(e:Int):finV ((qV CC rs17 (λ_=>false) 0 (a,e,())).map (trT CC ⟨id,id,id,id⟩))=.tup [za a,.at (.int .i64 e)]:=by
 have h:=CCok.enc ⟨id,id,id,id⟩ TI.node a;show V.tup [trT CC ⟨id,id,id,id⟩ (CC.enc TI.node a),.at (.int .i64 e)]=_;rw[h];rfl
def ok17'(fu n:Nat)(l:db dw)(u:dc)(y:Nd×Int×dc)(a:c17 fu n (l,u)=some y)(vs:db V)(b:zCX CC as17 ((l,u):zj as17) vs):jS Tryz.prog 17 vs (.tup [za y.1,.at (.int .i64 y.2.1)]):=by
 obtain⟨v,vs',rfl,d,b⟩:=b;replace b:vs'=[]:=b;subst b;replace d:v=.lst (zx (l.map (CC.encV TI.tok))) (l.map (CC.encV TI.tok)):=d;subst d;by_cases h:l.length<=4000
 .have e:c17 fu n (l,u)=(sh17 fu (.int .i64 0) (.int .i64 0) (rs fu n).c37 (x17 l)).map cv17:=if_pos h;rw[e]at a;cases c:sh17 fu (.int .i64 0) (.int .i64 0) (rs fu n).c37 (x17 l)with
  |none=>rw[c]at a;cases a
  |some oc=>
   rw[c]at a;injection a with a
   subst a;have f:=pure17 fu (rs fu n).c37 (rok fu n).h37 h c;cases oc with
   |none=>exact f
   |some z=>exact f
 .have e:c17 fu n (l,u)=some (Nd.mk 0 0 [],2,()):=if_neg h;rw[e]at a;injection a with a
  subst a;exact zMZ (Nat.lt_of_not_le h)
def ok17(fu n:Nat):CoX 17 ⟨as17,rs17,c17 fu n⟩:=λx y b vs a=>by
 have h:=ok17' fu n x.1 x.2 y b vs a;have e:finV ((qV CC rs17 (λ_=>false) 0 y).map (trT CC ⟨id,id,id,id⟩))=_:=fin17r y.1 y.2.1;show jS Tryz.prog 17 vs (finV ((qV CC rs17 (λ_=>false) 0 y).map (trT CC ⟨id,id,id,id⟩)));rw[e];exact h
def sh89(fu:Nat)(x:((Str×(Int×dc))×dc))(a:(Str×dc)):(da (da (((Str×(Int×dc))×dc)×(dd×dc)))):=cond (inS x.1.2.1 (lenI x.1.1) x.1.1.length) (cond (ile (lenI a.1) (lenI (cutL x.1.1 x.1.2.1 (lenI x.1.1)))) (cond (inS 0 (lenI a.1) (List.length (cutL x.1.1 x.1.2.1 (lenI x.1.1)))) (some (some (((x.1.1,(x.1.2.1,())),()),((seq (cutL (cutL x.1.1 x.1.2.1 (lenI x.1.1)) 0 (lenI a.1)) a.1),())))) (none)) (some (some (((x.1.1,(x.1.2.1,())),()),(false,()))))) (none)
def eq89:@run89=@sh89:=dO
def sh92(fu:Nat)(c88:(Int×dc)->Str->Int->(da (Int×dc)))(x:((Str×(Int×dc))×dc))(a:dc):(da (da (((Str×(Int×dc))×dc)×(Int×dc)))):=iter fu (λ(c:((Int×dc)×((Str×(Int×dc))×dc))->da (da (((Str×(Int×dc))×dc)×(Int×dc))))(b:((Int×dc)×((Str×(Int×dc))×dc)))=>let e:=(b.2.1.1,(b.2.1.2.1,()));let f:=c (((iadd .i64 b.1.1 1),()),(e,()));let g:=cond (ilt 0 b.1.1) (Option.bind (c88 (b.1.1,()) b.2.1.1 b.2.1.2.1) λh=>cond (ile 48 h.1) (cond (ile h.1 57) f (some (some ((e,()),(b.1.1,()))))) (some (some ((e,()),(b.1.1,()))))) (some (some ((e,()),(b.1.1,()))));Option.bind (c88 (b.1.1,()) b.2.1.1 b.2.1.2.1) λd=>let i:=cond (ile 65 d.1) (cond (ile d.1 90) f g) g;cond (ieq d.1 95) f (cond (ile 97 d.1) (cond (ile d.1 122) f i) i)) ((0,()),((x.1.1,(x.1.2.1,())),()))
def eq92:@run92=@sh92:=dO
def sh93(fu:Nat)(c90:(Str×(Int×dc))->(da (Int×dc)))(c88:(Int×dc)->Str->Int->(da (Int×dc)))(x:((Str×(Int×dc))×dc))(a:dc):(da (da (((Str×(Int×dc))×dc)×(Int×dc)))) :=  let u9:=(x.1.1,(x.1.2.1,()));Option.bind (c88 (0,()) x.1.1 x.1.2.1) λw=>cond (ile 48 w.1) (cond (!(ile w.1 57)) (Option.bind (c88 (0,()) x.1.1 x.1.2.1) λe=>cond (ine e.1 46) (some (some ((u9,()),(0,())))) (Option.bind (c88 (1,()) x.1.1 x.1.2.1) λf=>cond (ile 48 f.1) (cond (!(ile f.1 57)) (some (some ((u9,()),(0,())))) (iter fu (λ(c:((Int×dc)×((Str×(Int×dc))×dc))->da (da (((Str×(Int×dc))×dc)×(Int×dc))))(b:((Int×dc)×((Str×(Int×dc))×dc)))=>let g:=(b.2.1.1,(b.2.1.2.1,()));let i:=c (((iadd .i64 b.1.1 2),()),(g,()));let j:=c (((iadd .i64 b.1.1 1),()),(g,()));Option.bind (c88 (b.1.1,()) b.2.1.1 b.2.1.2.1) λd=>let k:=cond (ieq d.1 46) j (some (some ((g,()),(b.1.1,()))));let y:=cond (ile 48 d.1) (cond (ile d.1 57) j k) k;let l:=cond (ile 65 d.1) (cond (ile d.1 90) j y) y;let z:=cond (ieq d.1 95) j (cond (ile 97 d.1) (cond (ile d.1 122) j l) l);Option.bind (c88 ((iadd .i64 b.1.1 1),()) b.2.1.1 b.2.1.2.1) λm=>Option.bind (c90 ([101,69,112,80],(d.1,()))) λv=>cond (ile 0 v.1) (cond (ieq m.1 43) i (cond (ieq m.1 45) i z)) z) ((1,()),(u9,())))) (some (some ((u9,()),(0,())))))) (iter fu (λ(c:((Int×dc)×((Str×(Int×dc))×dc))->da (da (((Str×(Int×dc))×dc)×(Int×dc))))(b:((Int×dc)×((Str×(Int×dc))×dc)))=>let u11:=(b.2.1.1,(b.2.1.2.1,()));let n:=c (((iadd .i64 b.1.1 2),()),(u11,()));let o:=c (((iadd .i64 b.1.1 1),()),(u11,()));Option.bind (c88 (b.1.1,()) b.2.1.1 b.2.1.2.1) λe=>let p:=cond (ieq e.1 46) o (some (some ((u11,()),(b.1.1,()))));let A:=cond (ile 48 e.1) (cond (ile e.1 57) o p) p;let q:=cond (ile 65 e.1) (cond (ile e.1 90) o A) A;let B:=cond (ieq e.1 95) o (cond (ile 97 e.1) (cond (ile e.1 122) o q) q);Option.bind (c88 ((iadd .i64 b.1.1 1),()) b.2.1.1 b.2.1.2.1) λf=>Option.bind (c90 ([101,69,112,80],(e.1,()))) λd=>cond (ile 0 d.1) (cond (ieq f.1 43) n (cond (ieq f.1 45) n B)) B) ((1,()),(u9,())))) (Option.bind (c88 (0,()) x.1.1 x.1.2.1) λe=>cond (ine e.1 46) (some (some ((u9,()),(0,())))) (Option.bind (c88 (1,()) x.1.1 x.1.2.1) λf=>cond (ile 48 f.1) (cond (!(ile f.1 57)) (some (some ((u9,()),(0,())))) (iter fu (λ(c:((Int×dc)×((Str×(Int×dc))×dc))->da (da (((Str×(Int×dc))×dc)×(Int×dc))))(b:((Int×dc)×((Str×(Int×dc))×dc)))=>let h:=(b.2.1.1,(b.2.1.2.1,()));let r:=c (((iadd .i64 b.1.1 2),()),(h,()));let s:=c (((iadd .i64 b.1.1 1),()),(h,()));Option.bind (c88 (b.1.1,()) b.2.1.1 b.2.1.2.1) λd=>let t:=cond (ieq d.1 46) s (some (some ((h,()),(b.1.1,()))));let C:=cond (ile 48 d.1) (cond (ile d.1 57) s t) t;let u:=cond (ile 65 d.1) (cond (ile d.1 90) s C) C;let D:=cond (ieq d.1 95) s (cond (ile 97 d.1) (cond (ile d.1 122) s u) u);Option.bind (c88 ((iadd .i64 b.1.1 1),()) b.2.1.1 b.2.1.2.1) λm=>Option.bind (c90 ([101,69,112,80],(d.1,()))) λv=>cond (ile 0 v.1) (cond (ieq m.1 43) r (cond (ieq m.1 45) r D)) D) ((1,()),(u9,())))) (some (some ((u9,()),(0,()))))))
def eq93:@run93=@sh93:=dO
def sh94(fu:Nat)(c88:(Int×dc)->Str->Int->(da (Int×dc)))(x:((Str×(Int×dc))×dc))(a:(Int×dc)):(da (da (((Str×(Int×dc))×dc)×(Int×dc)))) :=  let f:=(x.1.1,(x.1.2.1,()));cond (ieq x.1.2.1 (lenI x.1.1)) (some (some ((f,()),(0,())))) (Option.bind (c88 (0,()) x.1.1 x.1.2.1) λi=>cond (ine i.1 a.1) (some (some ((f,()),(0,())))) (iter fu (λ(c:((Int×dc)×((Str×(Int×dc))×dc))->da (da (((Str×(Int×dc))×dc)×(Int×dc))))(b:((Int×dc)×((Str×(Int×dc))×dc)))=>let e:=iadd .i64 b.1.1 1;let d:=(b.2.1.1,(b.2.1.2.1,()));let h:=c (((iadd .i64 e 1),()),(d,()));cond (ilt (iadd .i64 b.2.1.2.1 b.1.1) (lenI b.2.1.1)) (Option.bind (c88 (b.1.1,()) b.2.1.1 b.2.1.2.1) λg=>cond (ieq g.1 a.1) (cond (ieq a.1 39) (cond (ieq b.1.1 1) (some (some ((d,()),(0,())))) (some (some ((d,()),(e,()))))) (some (some ((d,()),(e,()))))) (cond (ieq g.1 10) (some (some ((d,()),(0,())))) (cond (ieq g.1 92) (Option.bind (c88 (e,()) b.2.1.1 b.2.1.2.1) λj=>cond (ieq j.1 10) (cond (ilt (iadd .i64 b.2.1.2.1 e) (lenI b.2.1.1)) (some (some ((d,()),(0,())))) h) h) (c ((e,()),(d,())))))) (some (some ((d,()),(0,()))))) ((1,()),(f,()))))
def eq94:@run94=@sh94:=dO
def sh95(fu:Nat)(c89:(Str×dc)->Str->Int->(da ((dd×dc)×Int)))(x:((Str×(Int×dc))×dc))(a:dc):(da (da (((Str×(Int×dc))×dc)×(Int×dc)))):=iter fu (λ(c:((Int×(Int×dc))×((Str×(Int×dc))×dc))->da (da (((Str×(Int×dc))×dc)×(Int×dc))))(b:((Int×(Int×dc))×((Str×(Int×dc))×dc)))=>let g:=(b.2.1.1,(b.2.1.2.1,()));let d:=iadd .i64 b.1.2.1 1;let e:=List.getD [[46,46,46],[60,60,61],[62,62,61],[45,62],[43,43],[45,45],[60,60],[62,62],[60,61],[62,61],[61,61],[33,61],[38,38],[124,124],[42,61],[47,61],[37,61],[43,61],[45,61],[38,61],[94,61],[124,61],[35,35],[91],[93],[40],[41],[123],[125],[46],[38],[42],[43],[45],[126],[33],[47],[37],[60],[62],[94],[124],[63],[58],[59],[61],[44],[35]] b.1.2.1.toNat [];cond (ilt b.1.2.1 48) (cond (inB b.1.2.1 48) (cond (ile (lenI (α:=UInt8) e) b.1.1) (c ((b.1.1,(d,())),(g,()))) (Option.bind (c89 (e,()) b.2.1.1 b.2.1.2.1) λf=>cond (!f.1.1) (c ((b.1.1,(d,())),((b.2.1.1,(f.2,())),()))) (c (((lenI (α:=UInt8) e),(d,())),((b.2.1.1,(f.2,())),()))))) (none)) (some (some ((g,()),(b.1.1,()))))) ((0,(0,())),((x.1.1,(x.1.2.1,())),()))
def eq95:@run95=@sh95:=dO
def sh65(fu:Nat)(c89:(Str×dc)->Str->Int->(da ((dd×dc)×Int)))(c92:dc->Str->Int->(da ((Int×dc)×Int)))(c93:dc->Str->Int->(da ((Int×dc)×Int)))(c94:(Int×dc)->Str->Int->(da ((Int×dc)×Int)))(c95:dc->Str->Int->(da ((Int×dc)×Int)))(x:((Str×(Int×dc))×dc))(a:dc):(da (da (((Str×(Int×dc))×dc)×(Int×(Int×dc))))):=Option.bind (c89 ([10],()) x.1.1 x.1.2.1) λg=>cond g.1.1 (some (some (((x.1.1,(g.2,())),()),(7,(1,()))))) (Option.bind (c92 () x.1.1 g.2) λb=>cond (ilt 0 b.1.1) (some (some (((x.1.1,(b.2,())),()),(1,(b.1.1,()))))) (Option.bind (c93 () x.1.1 b.2) λc=>cond (ilt 0 c.1.1) (some (some (((x.1.1,(c.2,())),()),(2,(c.1.1,()))))) (Option.bind (c94 (34,()) x.1.1 c.2) λd=>cond (ilt 0 d.1.1) (some (some (((x.1.1,(d.2,())),()),(4,(d.1.1,()))))) (Option.bind (c94 (39,()) x.1.1 d.2) λe=>cond (ilt 0 e.1.1) (some (some (((x.1.1,(e.2,())),()),(3,(e.1.1,()))))) (Option.bind (c95 () x.1.1 e.2) λf=>cond (ilt 0 f.1.1) (some (some (((x.1.1,(f.2,())),()),(5,(f.1.1,()))))) (some (some (((x.1.1,(f.2,())),()),(6,(1,()))))))))))
def eq65:@run65=@sh65:=dO
def sh64(fu:Nat)(c90:(Str×(Int×dc))->(da (Int×dc)))(c91:(Str×(Str×dc))->(da (Int×dc)))(c88:(Int×dc)->Str->Int->(da (Int×dc)))(c89:(Str×dc)->Str->Int->(da ((dd×dc)×Int)))(x:((Str×(Int×dc))×dc))(a:dc):(da (da (((Str×(Int×dc))×dc)×(dd×dc)))) :=  let g:=(x.1.1,(x.1.2.1,()));zg (λ(c:(dc×((Str×(Int×dc))×dc))->da (da (((Str×(Int×dc))×dc)×(dd×dc))))=>Option.bind (c88 (0,()) x.1.1 x.1.2.1) λe=>zg (λ(b:((dd×dc)×((Str×(Int×dc))×dc))->da (da (((Str×(Int×dc))×dc)×(dd×dc))))=>cond (ieq e.1 32) (b ((true,()),(g,()))) (cond (ieq e.1 9) (b ((true,()),(g,()))) (cond (ieq e.1 11) (b ((true,()),(g,()))) (cond (ieq e.1 12) (b ((true,()),(g,()))) (b (((ieq e.1 13),()),(g,()))))))) (λ(d:((dd×dc)×((Str×(Int×dc))×dc)))=>cond d.1.1 (some (some (((d.2.1.1,((iadd .i64 d.2.1.2.1 1),())),()),(true,())))) (c ((),((d.2.1.1,(d.2.1.2.1,())),()))))) (λ(d:(dc×((Str×(Int×dc))×dc)))=>let h:=lenI d.2.1.1;Option.bind (c89 ([47,47],()) d.2.1.1 d.2.1.2.1) λe=>cond e.1.1 (cond (inS e.2 h d.2.1.1.length) (Option.bind (c90 ((cutL d.2.1.1 e.2 h),(10,()))) λf=>zg (λ(c:((Int×dc)×((Str×(Int×dc))×dc))->da (da (((Str×(Int×dc))×dc)×(dd×dc))))=>cond (ilt f.1 0) (c (((isub .i64 h e.2),()),((d.2.1.1,(e.2,())),()))) (c ((f.1,()),((d.2.1.1,(e.2,())),())))) (λ(i:((Int×dc)×((Str×(Int×dc))×dc)))=>some (some (((i.2.1.1,((iadd .i64 i.2.1.2.1 i.1.1),())),()),(true,()))))) (none)) (Option.bind (c89 ([47,42],()) d.2.1.1 e.2) λf=>cond (!f.1.1) (some (some (((d.2.1.1,(f.2,())),()),(false,())))) (cond (inS (iadd .i64 f.2 2) h d.2.1.1.length) (Option.bind (c91 ((cutL d.2.1.1 (iadd .i64 f.2 2) h),([42,47],()))) λj=>cond (ilt j.1 0) (some (some (((d.2.1.1,(f.2,())),()),(false,())))) (some (some (((d.2.1.1,((iadd .i64 f.2 (iadd .i64 j.1 4)),())),()),(true,()))))) (none))))
def eq64:@run64=@sh64:=dO
def con89(fu:Nat) :CQ 89 (cD kS kB (mD (sh89 fu))):=
 zFU (rpk (lo:=[]) (lr:=[]) (zD zNr (zD zOK zC)) zC zC zC fdok89 rfl (λx a=>by rw[<-eq89];rfl))
def con92(fu:Nat)(c88:zA kI->Str->Int->da (zA ([.int .u8]:LK)))(b:CrX 88 (cRD kI ([.int .u8]:LK) c88)):CQ 92 (cD k0 kI (mD (sh92 fu c88))):=
 zFU (rpk (lo:=[]) (lr:=[(88,cRD kI ([.int .u8]:LK) c88)]) (zD zOh (zD zOA zC)) zC (zD ⟨dO,b⟩ zC) zC fdok92 rfl (λx a=>by rw[<-eq92];rfl))
def con93(fu:Nat)(c90:zj as90->da (zj rs90))(b:CoX 90 ⟨as90,rs90,c90⟩)(c88:zA kI->Str->Int->da (zA ([.int .u8]:LK)))(c:CrX 88 (cRD kI ([.int .u8]:LK) c88)):CQ 93 (cD k0 kI (mD (sh93 fu c90 c88))):=
 zFU (rpk (lo:=[(90,(⟨as90,rs90,c90⟩:Con UU))]) (lr:=[(88,cRD kI ([.int .u8]:LK) c88)]) (zD zOk (zD zOb zC)) (zD (OrcOk.of ⟨dO,b⟩ rfl) zC) (zD ⟨dO,c⟩ zC) zC fdok93 rfl (λx a=>by rw[<-eq93];rfl))
def con94(fu:Nat)(c88:zA kI->Str->Int->da (zA ([.int .u8]:LK)))(b:CrX 88 (cRD kI ([.int .u8]:LK) c88)):CQ 94 (cD ([.int .u8]:LK) kI (mD (sh94 fu c88))):=
 zFU (rpk zC zC (zD ⟨dO,b⟩ zC) zC fdok94 rfl (λx a=>by rw[<-eq94];rfl))
def con95(fu:Nat)(c89:zA kS->DD (zA kB))(b:CQ 89 (cD kS kB c89)):CQ 95 (cD k0 kI (mD (sh95 fu c89))):=
 zFU (rpk zC zC zC (zD ⟨dO,b⟩ zC) fdok95 rfl (λx a=>by rw[<-eq95];rfl))
def con65(fu:Nat)(c89:zA kS->DD (zA kB))(b:CQ 89 (cD kS kB c89))(c92:zA k0->DD (zA kI))(c:CQ 92 (cD k0 kI c92))(c93:zA k0->DD (zA kI))(d:CQ 93 (cD k0 kI c93))(c94:zA ([.int .u8]:LK)->DD (zA kI))(e:CQ 94 (cD ([.int .u8]:LK) kI c94))(c95:zA k0->DD (zA kI))(f:CQ 95 (cD k0 kI c95)):CQ 65 (cD k0 ([.int .i64,.int .i64]:LK) (mD (sh65 fu c89 c92 c93 c94 c95))):=
 zFU (rpk zC zC zC (zD ⟨dO,b⟩ (zD ⟨dO,c⟩ (zD ⟨dO,d⟩ (zD ⟨dO,e⟩ (zD ⟨dO,f⟩ zC))))) fdok65 rfl (λx a=>by rw[<-eq65];rfl))
def con64(fu:Nat)(c90:zj as90->da (zj rs90))(b:CoX 90 ⟨as90,rs90,c90⟩)(c91:zj as91->da (zj rs91))(c:CoX 91 ⟨as91,rs91,c91⟩)(c88:zA kI->Str->Int->da (zA ([.int .u8]:LK)))(d:CrX 88 (cRD kI ([.int .u8]:LK) c88))(c89:zA kS->DD (zA kB))(e:CQ 89 (cD kS kB c89)):CQ 64 (cD k0 kB (mD (sh64 fu c90 c91 c88 c89))):=
 zFU (rpk zC (zD (OrcOk.of ⟨dO,b⟩ rfl) (zD (OrcOk.of ⟨dO,c⟩ rfl) zC)) (zD ⟨dO,d⟩ zC) (zD ⟨dO,e⟩ zC) fdok64 rfl (λx a=>by rw[<-eq64];rfl))
def sh39(fu:Nat)(c62:(Str×dc)->(da ((db dz)×dc)))(c63:((db dz)×dc)->(da (Str×dc)))(c64:dc->Str->Int->(da ((dd×dc)×Int)))(c65:dc->Str->Int->(da ((Int×(Int×dc))×Int)))(r:Nat->dd)(o:Int)(p:Str):(da (LT×dc)):=Option.bind (c62 (p,())) λc=>Option.bind (c63 (c.1,())) λq=>iter fu (λ(e:((LT×dc)×((Str×(Int×dc))×dc))->da (LT×dc))(i:((LT×dc)×((Str×(Int×dc))×dc)))=>iter fu (λ(h:((LT×dc)×((Str×(Int×dc))×((Int×(Str×(Int×(Int×(Int×(dd×dc))))))×dc)))->da (LT×dc))(a:((LT×dc)×((Str×(Int×dc))×((Int×(Str×(Int×(Int×(Int×(dd×dc))))))×dc))))=>let j:=lenI a.2.1.1;cond (ilt a.2.1.2.1 j) (Option.bind (c64 () a.2.1.1 a.2.1.2.1) λb=>cond b.1.1 (h ((a.1.1,()),((a.2.1.1,(b.2,())),((a.2.2.1.1,(a.2.2.1.2.1,(a.2.2.1.2.2.1,(a.2.2.1.2.2.2.1,(a.2.2.1.2.2.2.2.1,(true,())))))),())))) (cond (ile j b.2) (some (a.1.1,())) (Option.bind (c65 () a.2.1.1 b.2) λd=>let k:=List.getD c.1 d.2.toNat zH9;let f:=iadd .i64 d.2 d.1.2.1;let l:=iadd .i64 (CharT.fat (List.getD c.1 (Int.toNat (isub .i64 f 1)) zH9)) 1;cond (inS d.2 f a.2.1.1.length) (cond (inB d.2 c.1.length) (cond (inB (isub .i64 f 1) c.1.length) (cond (okN 56 (a.1.1.length+(List.length [(TokT.mk d.1.1 (cutL a.2.1.1 d.2 f) a.2.2.1.2.2.1 (CharT.fat k) l a.2.2.1.2.2.2.2.2.1)]))) (e (((a.1.1++[(TokT.mk d.1.1 (cutL a.2.1.1 d.2 f) a.2.2.1.2.2.1 (CharT.fat k) l a.2.2.1.2.2.2.2.2.1)]),()),((a.2.1.1,(f,())),()))) (none)) (none)) (none)) (none)))) (cond (ile j a.2.1.2.1) (some (a.1.1,())) (Option.bind (c65 () a.2.1.1 a.2.1.2.1) λb=>let m:=List.getD c.1 b.2.toNat zH9;let g:=iadd .i64 b.2 b.1.2.1;let n:=iadd .i64 (CharT.fat (List.getD c.1 (Int.toNat (isub .i64 g 1)) zH9)) 1;cond (inS b.2 g a.2.1.1.length) (cond (inB b.2 c.1.length) (cond (inB (isub .i64 g 1) c.1.length) (cond (okN 56 (a.1.1.length+(List.length [(TokT.mk b.1.1 (cutL a.2.1.1 b.2 g) a.2.2.1.2.2.1 (CharT.fat m) n a.2.2.1.2.2.2.2.2.1)]))) (e (((a.1.1++[(TokT.mk b.1.1 (cutL a.2.1.1 b.2 g) a.2.2.1.2.2.1 (CharT.fat m) n a.2.2.1.2.2.2.2.2.1)]),()),((a.2.1.1,(g,())),()))) (none)) (none)) (none)) (none)))) ((i.1.1,()),((i.2.1.1,(i.2.1.2.1,())),((0,([],(o,(0,(0,(false,())))))),())))) (([],()),((q.1,(0,())),()))
def eq39:@run39=@sh39:=dO
def con39(fu:Nat)(c62:zj as62->da (zj rs62))(a:CoX 62 ⟨as62,rs62,c62⟩)(c63:zj as63->da (zj rs63))(b:CoX 63 ⟨as63,rs63,c63⟩)(c64:zA k0->DD (zA kB))(c:CQ 64 (cD k0 kB c64))(c65:zA k0->DD (zA ([.int .i64,.int .i64]:LK)))(d:CQ 65 (cD k0 ([.int .i64,.int .i64]:LK) c65)):CoX 39 ⟨as39,rs39,λx=>sh39 fu c62 c63 c64 c65 (λ_=>false) x.1 x.2.1⟩:=
 rfk zC (zD (OrcOk.of ⟨dO,a⟩ rfl) (zD (OrcOk.of ⟨dO,b⟩ rfl) zC)) zC (zD ⟨dO,c⟩ (zD ⟨dO,d⟩ zC)) fdok39 rfl (qj rfl) (λe x=>by show run39 fu c62 c63 c64 c65 e x.1 x.2.1=_;rw[eq39];rfl)
def qp(s:Str)(n:Int):Int:=if n<s.length then zGE s n else 0
def c88(a:Int×dc)(s:Str)(i:Int):da (Int×dc):=if 0<=i+a.1/\i+a.1<9223372036854775808/\s.length<9223372036854775808 then some (qp s (i+a.1),())else none
set_option maxRecDepth 100000 in
def ok88:CrX 88 (cRD [.int .i64] [.int .u8] c88):=by
 intro x R K r b;obtain⟨⟨a,i,u⟩,k,t⟩:=x;change Str at a;change Int at i;change Int at k;replace b:Option.bind (c88 (k,()) a i) (λy=>K y)=some r:=b;unfold c88 at b;split at b
 rotate_left
 .cases b
 rename_i h;replace b:K (qp a (i+k),())=some r:=b;replace h:0<=i+k/\i+k<9223372036854775808/\a.length<9223372036854775808:=h;refine⟨_,b,λs va q l z=>?_⟩;simp only[VKs,VK]at l;obtain⟨v,w,A,C,rfl,rfl,⟨c,cs,D,rfl,n,⟨E,F,G,H,rfl,rfl,⟨rfl,rfl⟩,I,J,L,M,rfl,rfl,⟨rfl,rfl⟩,rfl,rfl⟩,rfl⟩,N,O,P,Q,rfl,rfl,⟨rfl,rfl⟩,rfl,rfl⟩:=l;refine⟨[.at (.int .u8 (qp a (i+k)))],λs'=>⟨_,[],[],[],rfl,rfl,⟨rfl,rfl⟩,rfl,rfl⟩,?_⟩;simp only[zUQ,zUR,zUO];have d:=(yS s [.inr c] c).1 dQ;rw[n]at d;show FnC Tryz.prog 88 _ (subS s [.inr c]) λoc s'=>oc=.ret (finV [.at (.int .u8 (qp a (i+k)))])/\s'=subS s [.inr c];generalize subS s [.inr c]=s1 at d ⊢;refine xS Tryz.func88 rfl Tryz.ntmps88 Tryz.results88 (by show 2<=28;decide) λB=>?_;simp only[zUO,zUQ,zUR,qJ,Nat.reduceAdd];replace d:Al.look s1.box c=some ([.at (.string ⟨List.toArray a⟩),.at (.int .i64 i)],2):=d;have m:IntKind.i64.wrap (i+k)=i+k:=IntWalk.i64_in _ dM;have e:(⟨List.toArray a⟩:dk).size=a.length:=by simp[ByteArray.size]
 (repeat (first|refine zh ?_|(refine zd rfl ?_;try simp only[cx,reduceIte])|refine zT ?_|((first|refine zf polN ks88 _ rfl rfl ?_|refine zZ polN mixed ks88 _ rfl rfl dO dO ?_);simp only[↓cH,↓qK,↓zDf,cR,cS,zB5,zQa,zRx,zUr,zU2,z7,yA,zUD,zUF,zUf,zUX,zUS,zUl,zVC,zUT,zUc,zUU,zUP,zUM,zUK,zUt,Nat.reduceAdd,Nat.reduceEqDiff,Nat.reduceLeDiff,reduceCtorEq,zUN,zUY,zVE,zUB,zUq,cm,zIJ,zIN,zF9,strT9,zK3,zLF,ks88,d,m,e])))
 refine x8 rfl (λf=>?_) (λf=>?_)
 .have o:i+k >= a.length:=zUw f;have g:qp a (i+k)=0:=if_neg dM
  (repeat (first|refine zh ?_|(refine zd rfl ?_;try simp only[cx,reduceIte])|refine zT ?_|((first|refine zf polN ks88 _ rfl rfl ?_|refine zZ polN mixed ks88 _ rfl rfl dO dO ?_);simp only[↓zk,↓yb,zB,cr,cF,zb,zW,zUM,zUK,Nat.reduceEqDiff,reduceCtorEq,ks88])))
  simp only[yx];rw[g];exact⟨rfl,rfl,trivial⟩
 .have o:¬i+k >= a.length:=zVj f;have g:qp a (i+k)=zGE a (i+k):=if_pos dM;refine zAE ?_;try simp only[cu];have j:0<=i+k/\i+k<(a.length:Int):=dM
  (repeat (first|refine zh ?_|(refine zd rfl ?_;try simp only[cx,reduceIte])|refine zT ?_|((first|refine zf polN ks88 _ rfl rfl ?_|refine zZ polN mixed ks88 _ rfl rfl dO dO ?_);simp only[↓cH,↓qK,↓zQ1,cR,cl,zB5,zOe,zUr,zU2,z7,yA,zUD,zUF,zUf,zUX,zUS,zUl,zVC,zUT,zUc,zUU,zUP,zUM,zUK,zUt,Nat.reduceAdd,Nat.reduceEqDiff,Nat.reduceLeDiff,reduceCtorEq,zUN,zUY,zVE,zUB,zUq,cm,zIJ,zIN,zF9,strT9,zK3,zLF,ks88,d,m,e,j])))
  have p:(List.toArray a).getD (i+k).toNat 0=a.getD (i+k).toNat 0:=by simp[zVX,zUV]
  simp only[yx];rw[g,p];exact⟨rfl,rfl,trivial⟩
end
section
open Go.Al Go.Den Go.RowKit Go.Shelf
attribute [local go_sem] Oper.semAt_some
def chG:db UInt8->Nat->db dz
 |[],_=>[]
 |[c],i=>[⟨(c.toNat:Int),(i:Int)⟩]
 |c::d::r,i=>cond (c==92&&d==10) (chG r (i+2)) (⟨(c.toNat:Int),(i:Int)⟩::chG (d::r) (i+1))
def zGo:∀(s:db UInt8)(i:Nat),(chG s i).length<=s.length
 |[],_=>zUB _
 |[c],i=>zUB _
 |c::d::r,i=>by
  have a:=zGo r (i+2);have b:=zGo (d::r) (i+1);simp only[chG];cases(c==92&&d==10)
  .simp only[zUk,zUD]at *;omega
  .simp only[zUi,zUD]at *;omega
def zRy(s:db UInt8)(k:Nat)(h:k<s.length) :
 (Lib.hasPrefix (List.take (s.length-k) (s.drop k)) [92,10]=true->k+2<=s.length/\chG (s.drop k) k=chG (s.drop (k+2)) (k+2)) /\
 (Lib.hasPrefix (List.take (s.length-k) (s.drop k)) [92,10]=false->chG (s.drop k) k=⟨(s[k].toNat:Int),(k:Int)⟩::chG (s.drop (k+1)) (k+1)):=by
 have b:List.take (s.length-k) (s.drop k)=s.drop k:=zU5 dQ;rw[b,zVF h];unfold Lib.hasPrefix;by_cases c:k+1<s.length
 .rw[zVF c];have e:[92,10].isPrefixOf (s[k]::s[k+1]::s.drop (k+1+1))=(s[k]==92&&s[k+1]==10):=by
   simp only[List.isPrefixOf,zWH,Bool.beq_comm]
  rw[e];refine⟨λa=>⟨dM,?_⟩,λa=>?_⟩
  .simp only[chG,a,zUi]
  .simp only[chG,a,zUk]
 .have e0:s.drop (k+1)=[]:=zWR dM;rw[e0];refine⟨λa=>by simp[List.isPrefixOf]at a,λ_=>by simp[chG]⟩
def chV(x:dz):dh:=.agg #[.int .u8 x.b,.int .i64 x.fat]
def chC(x:dz):db dh:=[.int .u8 x.b,.int .i64 x.fat]
set_option maxRecDepth 100000 in
def zP4(n n0 bx:Nat)(l Bs:Nat)(s:Str)(hreach:s.length<1100000)(J Jx:db dz->de->Prop)
 (hY:∀pre x W,J pre W->pre.length<s.length->YieldAt Fence.wide (n-1) Tryz.prog l #[chV x] W λe W'=>
  (e=.returned (.bool true)/\J (pre++[x]) W'/\kq n0 bx W W')\/(e=.returned (.bool false)/\Jx (pre++[x]) W'))
 (W:de) (hB:BoxOk n0 bx W) (hxs:¬exb bx W Bs) (hBs:W.cell? ⟨Bs,0,none⟩=some (.string ⟨s.toArray⟩)) (h0:J [] W) :
 CallsIn Fence.wide n Tryz.prog 118 #[.func (.yield l) #[] #[],.pointer (some ⟨Bs,0,none⟩)] W λe W'=>(∃v,e=.returned v) /\
  ((∃ys,ys=chG s 0/\J ys W')\/(∃pre,True/\Jx pre W')):=by
 refine callsIn_of_wp Tryz.func118 rfl trivial ?_ rfl;simp only[Tryz.ntmps118,zVO,zUD,zUF,Nat.reduceAdd,Nat.reduceSub,zVM,zVN,zVZ,zVR,zUQ,zUO];have hsz:(⟨s.toArray⟩:dk).size=s.length:=by simp[ByteArray.size]
 gi_wp2
 gi_loopw [3] (λi wr=>∃(k:Nat)(pre:db dz),k<=s.length/\i=.int .i64 (k:Int)/\pre++chG (s.drop k) k=chG s 0/\J pre wr/\Kept n0 bx W wr)
  (λi _=>match i with|.int _ z=>s.length-z.toNat|_=>0)
 case atStart=>exact⟨0,[],zVI _,rfl,dQ,h0,Kept.refl hB⟩
 case round=>
  obtain⟨k,pre,hk,rfl,hpre,hJs,hnx⟩:=hrel;have hBs':=hnx.same _ _ _ hBs hxs;by_cases hlt:k<s.length
  .have hF:∀f,Fence.wide.fn f:=λ_=>trivial;have hdd:∀k:Nat,(Fence.wide.depth.isSome=true->1<=k):=λk h=>dU
   have hlt2:(k:Int)<(s.length:Int):=dM
   have hge2:¬((k:Int)<0):=dM
   obtain⟨hs1,hs2⟩:=zRy s k hlt;have hbk:∀h:k<(⟨s.toArray⟩:dk).size,(⟨s.toArray⟩:dk)[k]'h=s[k]:=λ_=>rfl;cases hp:Lib.hasPrefix (List.take (s.length-k) (s.drop k)) [92,10]with
   |true=>
    obtain⟨hk2,hc2⟩:=hs1 hp
    gi_wp2_with ((try refine⟨hdd _,?_⟩);gi_at_call 119;refine(callsIn_wide.2 (Tryz.strings_HasPrefix _ _ _)).mono ?_;rintro e w' ⟨rfl,rfl⟩)
    refine⟨⟨k+2,pre,hk2,rfl,by rw[<-hc2];exact hpre,hJs,hnx⟩,?_⟩;show s.length-Int.toNat ((k:Int)+1+1)<s.length-Int.toNat (k:Int);omega
   |false=>
    have hc2:=hs2 hp;have hpl:pre.length<s.length:=by
     have e1:=zU1 List.length hpre;have e2:=zGo s 0;rw[hc2]at e1;simp only[zUI,zUD]at e1;omega
    obtain⟨fn,tmps,assign,body,hy,hR⟩:=hY pre ⟨(s[k].toNat:Int),(k:Int)⟩ wr hJs hpl;dsimp only[chV]at hy
    gi_wp2_with (first
     |((try refine⟨hdd _,?_⟩);gi_at_call 119;refine(callsIn_wide.2 (Tryz.strings_HasPrefix _ _ _)).mono ?_;rintro e w' ⟨rfl,rfl⟩)
     |((try refine⟨hdd _,?_⟩);refine hR.mono ?_;clear hR;rintro e W3 (⟨rfl,hJ3,hk3⟩|⟨rfl,hJx3⟩)))
    .refine⟨⟨k+1,pre++[⟨(s[k].toNat:Int),(k:Int)⟩],hlt,rfl,by rw[zVB,List.singleton_append,<-hc2];exact hpre,hJ3,hnx.trans (hk3 hnx.ok)⟩,?_⟩;show s.length-Int.toNat ((k:Int)+1)<s.length-Int.toNat (k:Int);omega
    .refine bodyPost_ret (results_none rfl _ _ _) rfl ?_;exact⟨⟨_,rfl⟩,.inr ⟨_,trivial,hJx3⟩⟩
  .obtain rfl:k=s.length:=dM
   gi_wp2;go_end0;have e:s.drop s.length=[]:=zWR (zUB _);rw[e]at hpre;exact⟨⟨_,rfl⟩,.inl ⟨pre,by simpa [chG]using hpre,hJs⟩⟩
def zMi(n e bx b:Nat)(s:Str)(a:s.length<1100000)(w:de)(i:BoxOk e bx w)(f:¬exb bx w b)(c:w.heap[b]?=some (.cells #[.string ⟨s.toArray⟩] 9 (0,0))) :
 SeqStopsK Fence.wide n Tryz.prog 118 #[.pointer (some ⟨b,0,none⟩)] (λx:dz=>#[chV x]) (kq e bx) (λys=>ys=chG s 0) (λ_=>True) s.length w:=λl J j W g _ _ k m=>by
 have d:W.heap[bx]?=w.heap[bx]?:=g.block _ i.lt;have o:W.heap[b]?=some (.cells #[.string ⟨s.toArray⟩] 9 (0,0)):=(g.block _ (zUH.1 c).1).trans c;exact zP4 n e bx l b s a J j k W (i.grown g.size d) (λh=>f ((zAp d b).1 h)) (by simp[World.cell?,o]) m
set_option maxRecDepth 100000 in
def zRK(m:Nat)(s:dk)(w:de) :
 CallsIn Fence.wide m Tryz.prog 87 #[.string s] w λe w'=>e=.returned (.func (.func 118) #[] #[.pointer (some ⟨w.heap.size,0,none⟩)])/\w'=w.alloc (.cells #[.string s] 9):=by
 refine callsIn_of_wp Tryz.func87 rfl trivial ?_ rfl;simp only[Tryz.ntmps87,zVO,zUD,zUF,Nat.reduceAdd,Nat.reduceSub,zVM,zVN,zVZ,zVR,zUQ,zUO];gi_wp2;go_ret;exact⟨rfl,rfl⟩
def zT9:(Tryz.prog.info? 108).map (λi=>(i.zero,i.size,i.bytes))=some (some (.agg #[.int .u8 0,.int .i64 0]),2,16):=dO
def chCs(l:db dz):db dh:=l.flatMap chC
def zRL(l:db dz)(x:dz):chCs (l++[x])=chCs l++chC x:=by simp[chCs]
def zMH(w:de)(u v:dh)(t:dg)(m:Nat×Nat):∀j x,[u,v][j]?=some x->(w.alloc (.cells #[u,v] t m)).cell? ((⟨w.heap.size,0,none⟩:Addr).add j)=some x:=by
 intro j x a;have b:=World.alloc_heap_new w (.cells #[u,v] t m)
 match j,a with
 |0,a=>
  have:u=x:=by simpa using a
  subst this;show(w.alloc (.cells #[u,v] t m)).cell? ⟨w.heap.size,0,none⟩=some u;unfold World.cell?;simp only[b];rfl
 |1,a=>
  have:v=x:=by simpa using a
  subst this;show(w.alloc (.cells #[u,v] t m)).cell? ⟨w.heap.size,1,none⟩=some v;unfold World.cell?;simp only[b];rfl
 |j+2,a=>simp at a
set_option maxRecDepth 100000 in
def zT6(m:Nat)(hm:3<=m)(s:Str)(L:s.length<1100000)(w:de) :
 CallsIn Fence.wide m Tryz.prog 62 #[.string ⟨s.toArray⟩] w λe W'=>∃v',e=.returned v'/\W'.ownsRow w.heap.size 108 2 v' (chG s 0).length (chCs (chG s 0))/\((chG s 0).length=0->v'=.slice none 0 0)/\dC w.heap.size w W':=by
 have hF:∀f,Fence.wide.fn f:=λ_=>trivial;have Z:∀k:Nat,(Fence.wide.depth.isSome=true->1<=k):=λk h=>dU
 refine callsIn_of_wp_marks Tryz.func62 rfl (hF _) ?_ rfl;simp only[Tryz.ntmps62,zVO,zUD,zUF,Nat.reduceAdd,Nat.reduceSub,zVM,zVN,zVZ,zVR,zUQ,zUO]
 gi_wp2_with ((try refine⟨Z _,?_⟩);gi_at_call 87;refine(zRK _ _ _).mono ?_;rintro e w' ⟨rfl,rfl⟩)
 obtain⟨v,q⟩:∃v,(w.alloc (.cells #[.slice none 0 0] 99)).alloc (.cells #[.string ⟨s.toArray⟩] 9)=v:=⟨_,rfl⟩;have ao:v.heap.size=w.heap.size+2:=by rw[<-q];simp
 have aa:dC w.heap.size w v:=by rw[<-q];exact((Below.refl _ w).alloc (zUB _) _).alloc dQ _
 have C:v.heap[w.heap.size]?=some (.cells #[.slice none 0 0] 99 (0,0)):=by
  rw[<-q,Below.heap_alloc _ _ _ dQ];exact World.alloc_heap_new w _
 have M:v.heap[w.heap.size+1]?=some (.cells #[.string ⟨s.toArray⟩] 9 (0,0)):=by
  rw[<-q];have:=World.alloc_heap_new (w.alloc (.cells #[.slice none 0 0] 99)) (.cells #[.string ⟨s.toArray⟩] 9 (0,0));simpa using this
 have N:Grow w.heap.size w.heap.size 99 108 2 w [] 0 v:=⟨_,C,World.ownsRow_nil v _ _ _,λ_=>rfl,aa⟩;have ab:=N.box (zUB _);have ac:¬exb w.heap.size v (w.heap.size+1):=λh=>by
  rcases h with h|⟨o,l,c,h⟩
  .omega
  .simp[World.cell?,C]at h
 rw[q];refine wpIn_rangeFunc_ownH rfl dM (gf:=118) (lb:=#[.pointer (some ⟨w.heap.size+1,0,none⟩)]) fl (hF 118) (enters_of Tryz.func118 dO rfl)
  (zMi (m-1) w.heap.size w.heap.size (w.heap.size+1) s L v ab ac M) zMA (λW l o o' hl T O _=>zK9 W l o o' dM T O) (Below.refl _ _) (λ_=>rfl)
  (λa W=>Grow w.heap.size w.heap.size 99 108 2 w (chCs a) a.length W)
  (λ_ _ _=>False) ?hI (λ_ _ _ _ _ hs _ _=>hs) N
  (λx a' W=>∃y,a'={ tmps:=#[.string ⟨s.toArray⟩,undef,.slice none 0 0,.pointer (some ⟨w.heap.size,0,none⟩),.pointer (some ⟨y,0,none⟩),.string ⟨s.toArray⟩,.func (.func 118) #[] #[.pointer (some ⟨w.heap.size+1,0,none⟩)],chV x,undef,undef,undef,undef,undef],defers:=[] }/\W.heap[y]?=some (.cells #[.int .u8 x.b,.int .i64 x.fat] 108 (0,0)))
  ?hAx ?assign ?body ?done ?stop
 case hI=>exact λa A B ad h hg hr=>h.own (zUB _) hg (λr e=>by obtain⟨T,O⟩:=hr r e;exact⟨dM,O⟩)
 case hAx=>
  rintro x a' _ A B ad ⟨y,e3,e4⟩ hg hr;refine⟨y,e3,(hg.block y (zUH.1 e4).1 λe=>?_).trans e4⟩;obtain⟨_,o,U,hc⟩:=hr y e.symm;rw[e4]at U;injection U with U;subst U;cases hc
 case assign=>
  rintro l a ⟨E,F⟩ W K hI V;have ap:∀X,X=({ tmps:=#[.string ⟨s.toArray⟩,undef,.slice none 0 0,.pointer (some ⟨w.heap.size,0,none⟩),.pointer (some ⟨W.heap.size,0,none⟩),.string ⟨s.toArray⟩,.func (.func 118) #[] #[.pointer (some ⟨w.heap.size+1,0,none⟩)],chV ⟨E,F⟩,undef,undef,undef,undef,undef],defers:=[] }:Act)->K X (W.alloc (.cells #[.int .u8 E,.int .i64 F] 108)):=λX e=>V X _ ((KeepsOthers.alloc W _).from _) (λhB=>Kept.grown hB (World.grownBy_alloc W _ none))
   (hI.own (zUB _) (World.grownBy_alloc W _ none) (λr e=>fb)) ⟨W.heap.size,e,World.alloc_heap_new W _⟩
  unfold chV at *;gi_wp2;rfl
 case body=>
  rintro l a ⟨E,F⟩ a' W hl hL ⟨H,j,d,hz,i⟩ ⟨y,rfl,z⟩ ae;replace z:W.heap[y]?=some (.cells #[.int .u8 E,.int .i64 F] 108 (0,0)):=z;have c0:W.cell? ⟨y,0,none⟩=some (.int .u8 E):=by simp[World.cell?,z]
  have c1:W.cell? ⟨y,1,none⟩=some (.int .i64 F):=by simp[World.cell?,z]
  have cb:W.cell? ⟨w.heap.size,0,none⟩=some H:=by simp[World.cell?,j]
  obtain⟨i0,hi,af,ag,ah⟩:=info_parts zT9;have P:a.length+1<=1100000:=dM
  have ai:w.heap.size<=W.heap.size:=i.size;have aj:w.heap.size<W.heap.size:=(zUH.1 j).1;have ak:some w.heap.size≠H.ownBlock:=by
   rcases zLl d j (λQ e=>fb)with e|e
   .rw[e];simp
   .exact λe'=>e e'.symm
  gi_wp2_with (
   gi_at_builtin
   refine zGF _ rfl _ _ 99 rfl w.heap.size 108 i0 (.agg #[.int .u8 0,.int .i64 0]) 2 16 Tryz.underlying99 hi af ag ah rfl dP _ _ _ rfl (d.alloc _) ⟨W.heap.size,0,none⟩ 1 1 [.int .u8 E,.int .i64 F] rfl rfl (zMH _ _ _ _ _) (by simp[Value.oneCell']) (zU0 P dP) (zU0 (zVV 16 P) dP) d4 ?_;intro v' G n R al am;have I:G.heap[w.heap.size]?=some (.cells #[H] 99 (0,0)):=(R.block _ d4 ak).trans ((Below.heap_alloc _ _ _ aj).trans j);obtain⟨ar,au⟩:G.cell? ⟨w.heap.size,0,none⟩=some H/\G.frozen? ⟨w.heap.size,0,none⟩=false:=by constructor<;>simp[World.cell?,World.frozen?,I]
   obtain⟨g',g,p,rfl,Y,aq,av,aw,ax,ay⟩:∃g' g p,v'=.slice (some ⟨g',0,none⟩) (a.length+1) g/\w.heap.size<=g'/\G.heap[g']?=some (.cells p 108 (0,0))/\a.length+1<=g/\g<=maxLen/\p.size=g*2/\p.toList.take ((a.length+1)*2)=chCs a++[.int .u8 E,.int .i64 F]:=by
    rcases n.2 with⟨_,h0⟩|h'
    .exact absurd h0 dM
    .exact h')
  have J:=grownBy_setCell' G w.heap.size (.slice (some ⟨g',0,none⟩) (a.length+1) g);have t:(W.alloc (.cells #[.int .u8 E,.int .i64 F] 108)).grownBy G H.ownBlock:=R;have az:W.heap.size+1<=G.heap.size:=by have:=t.size;simpa using this
  refine(?_:KeepsFrom _ _ _/\kq _ _ _ _/\Grow _ _ _ _ _ _ (chCs (a++[_])) (a++[_]).length _);rw[zRL,zUI,zUD,zUF];have u:dC w.heap.size w G:=(i.alloc ai _).grown t d4 (λk e=>zSe d e);refine Grow.round (zUB _) j d (zK2 _ I) (n.kept J (zLl n I (λQ e=>fb))) (λe=>absurd e dM) (u.grown J u.size (λk e=>by injection e with e;omega)) d4 ?_ (λb hb T O=>?_)
  .rcases am with e|e
   .exact .inl e
   .exact .inr ⟨_,e,dQ⟩
  .exact((J.block b dM (λe=>T (by injection e))).trans (t.block b d4 (λe=>O e.symm))).trans (Below.heap_alloc _ _ _ hb)
 case stop=>
  rintro D c a W _ _ h _;exact h.elim
 case done=>
  rintro D ys W hD an ⟨H,j,d,hz,i⟩ V;have cb:W.cell? ⟨w.heap.size,0,none⟩=some H:=by simp[World.cell?,j]
  gi_wp2;refine⟨dQ,.inl ⟨_,_,rfl,run_takeDeferred V,?_⟩⟩;have S:=grownBy_putObj' W D (.deferred none);subst an;refine⟨_,results_tmp rfl _ _ _,_,rfl,?_⟩;refine⟨d.kept S (zLl d V (λQ e=>fb)),hz,i.grown S i.size (λk e=>by injection e with e;omega)⟩
def zJM{g:Gh}{w:de}:∀l:db dz,RCs g w (l.map qE) (chCs l)
 |[]=>by simp[RCs,chCs]
 |x::r=>by
  have a:=zJM (g:=g) (w:=w) r;simp only[zUC,RCs];refine⟨chC x,chCs r,by simp[chCs],?_,a⟩;show RC g w (.agg [.at (.int .u8 (CharT.b x)),.at (.int .i64 (CharT.fat x))]) _;simp only[RC,RCs,chC];exact⟨[.int .u8 x.b],[.int .i64 x.fat],rfl,⟨rfl,rfl⟩,[.int .i64 x.fat],[],rfl,⟨rfl,rfl⟩,rfl⟩
def pure62(s:Str)(a:s.length<1100000):jS Tryz.prog 62 [.at (.string ⟨s.toArray⟩)] (.lst (zx ((chG s 0).map qE)) ((chG s 0).map qE)):=by
 intro p w us d i j;cases j with
 |cons f g=>
  cases g;have e:=yG f;subst e;refine callsIn_wide.1 ((zT6 3 (zUB _) s a w).mono ?_);rintro e w' ⟨v',rfl,b,k,c⟩;obtain⟨h,l,m,n⟩:=zQ9 d c b k ((chG s 0).map qE) dQ (λx o=>by obtain⟨y,_,rfl⟩:=zVA.1 o;exact zIw y) (zJM _);exact⟨_,h,rfl,l,m,n⟩
def c62(x:Str×dc):da (db dz×dc):=if x.1.length<1100000 then some (chG x.1 0,())else none
def ok62:CoX 62 ⟨as62,rs62,c62⟩:=λx y b vs a=>by
 obtain⟨s,u⟩:=x;obtain⟨v,vs',rfl,c,a⟩:=a;replace a:vs'=[]:=a;subst a;replace c:v=.at (.string ⟨List.toArray s⟩):=c;subst c;by_cases h:List.length (show Str from s)<1100000
 .have d:c62 (s,u)=some (chG s 0,()):=if_pos h;replace b:c62 (s,u)=some y:=b;rw[d]at b;injection b with b
  subst b;exact pure62 s h
 .have d:c62 (s,u)=none:=if_neg h;replace b:c62 (s,u)=some y:=b;rw[d]at b;cases b
def zGA{g:Gh}{w:de}:∀{l:db dz}{us:db dh}(i:Nat)(h:i<l.length),RCs g w (l.map qE) us->us[2*i]?=some (.int .u8 l[i].b)/\us[2*i+1]?=some (.int .i64 l[i].fat)
 |x::r,us,0,_,h=>by
  simp only[zUC,RCs]at h;obtain⟨c,d,rfl,e,f⟩:=h;have a:RC g w (.agg [.at (.int .u8 (CharT.b x)),.at (.int .i64 (CharT.fat x))]) c:=e;simp only[RC,RCs]at a;obtain⟨o,p,rfl,⟨rfl,_⟩,q,s,rfl,⟨rfl,_⟩,rfl⟩:=a;exact⟨rfl,rfl⟩
 |x::r,us,i+1,hi,h=>by
  simp only[zUC,RCs]at h;obtain⟨c,d,rfl,e,f⟩:=h;have m:=qh g w _ _ e;have n:c.length=2:=by rw[m];exact zIw x
  obtain⟨k0,k1⟩:=zGA i (by simpa using hi) f;have k:∀j,(c++d)[2*(i+1)+j]?=d[2*i+j]?:=λj=>by
   rw[zWI dM,n];congr 1;omega
  exact⟨(k 0).trans k0,(k 1).trans k1⟩
def zRE{c:Nat->Nat}{w:de}{l:db dz}{d:dh}(h:RC ⟨c,λ_=>none,Fr.no⟩ w (.lst (zx (l.map qE)) (l.map qE)) [d]) :
 ∃e cap,d=.slice e l.length cap/\∀i (hi:i<l.length),∃b o,e=some ⟨b,o,none⟩/\(w.cell? ⟨b,o+2*i,none⟩=some (.int .u8 l[i].b)/\o+2*i<c b)/\(w.cell? ⟨b,o+(2*i+1),none⟩=some (.int .i64 l[i].fat)/\o+(2*i+1)<c b):=by
 have g:(l.map qE).length=l.length:=dQ
 simp only[RC]at h;rcases h with⟨j,a,_⟩|⟨b,o,cap,ds,a,n,_,k,_,f⟩
 .have m:l=[]:=by simpa using j
  subst m;injection a with a
  exact⟨none,0,a,λi hi=>absurd hi dQ⟩
 .injection a with a
  refine⟨_,cap,by rw[a,g],λi hi=>?_⟩;obtain⟨k1,k2⟩:=zGA i hi k;exact⟨b,o,rfl,f _ _ k1,f _ _ k2⟩
def info5:(Tryz.prog.info? 5).map (λi=>(i.zero,i.size,i.bytes))=some (some (.int .u8 0),1,1):=dO
def zGw(W:de)(b i:Nat)(v:dh):W.grownBy (W.setCell ⟨b,i,none⟩ v) (some b):=
 ⟨rfl,rfl,rfl,(KeepsWalks.setCell W _ v).size,λk _ a=>Below.heap_setCell _ _ _ k (λe=>a e8)⟩
def zMe{W:de}{B i:Nat}{c:dv dh}{t:dg}(v':dh)(h:W.heap[B]?=some (.cells c t (0,0))):(W.setCell ⟨B,i,none⟩ v').heap[B]?=some (.cells (c.setIfInBounds i v') t (0,0)):=by
 obtain⟨a,b⟩:=zUH.1 h;show(W.heap.modify B _)[B]?=_;rw[zV4 fg,zV5,b];rfl
def TRow(b g:Nat)(w:de)(xs:db Int)(n k:Nat)(W:de):Prop:=
 dC b w W/\∃a,W.heap[g]?=some (.cells a 5 (0,0))/\a.size=n/\(∀i,i<k->a[i]?=some (.int .u8 (xs.getD i 0)))/\∀i,i<n->∃z,a[i]?=some (.int .u8 z)
set_option maxRecDepth 100000 in
def zSW(m:Nat)(l:db dz)(hlen:l.length<1100000)(wm:Nat->Nat)(w:de)(hwm:∀b,w.heap.size<=b->wm b=0)(ad:da Addr)(cap:Nat)
 (hch:∀i (hi:i<l.length),∃b o,ad=some ⟨b,o,none⟩/\(w.cell? ⟨b,o+2*i,none⟩=some (.int .u8 l[i].b)/\o+2*i<wm b)/\(w.cell? ⟨b,o+(2*i+1),none⟩=some (.int .i64 l[i].fat)/\o+(2*i+1)<wm b)) :
 CallsIn Fence.wide m Tryz.prog 63 #[.slice ad l.length cap] w λe W'=>e=.returned (.string (strOfNums (l.map CharT.b)))/\dC w.heap.size w W':=by
 have hF:∀f,Fence.wide.fn f:=λ_=>trivial;refine callsIn_of_wp Tryz.func63 rfl trivial ?_ rfl;simp only[Tryz.ntmps63,zVO,zUD,zUF,Nat.reduceAdd,Nat.reduceSub,zVM,zVN,zVZ,zVR,zUQ,zUO];obtain⟨i0,hi,hz0,hz1,hz2⟩:=info_parts info5;obtain⟨W1,hmk,hown,hg1⟩:=run_make_full (P:=Tryz.prog) w w.heap.size 125 5 i0 (.int .u8 0) 1 Tryz.underlying125 hi hz0 hz1 .i64 .i64 l.length (by rw[hz2];omega) (by simp only[maxLen];omega) (zUB _);have h0:TRow w.heap.size w.heap.size w (l.map CharT.b) l.length 0 W1:=by
  refine⟨(Below.refl _ w).grown hg1 (zUB _) (λk e=>fb),?_⟩;rcases hown.2 with⟨h,_⟩|⟨g,cap',cur,h,_,hgb,_,_,hcs,htk⟩
  .cases h
  .injection h with e1 _ e3
   injection e1 with e1
   injection e1 with e1
   subst e1 e3;refine⟨cur,hgb,dM,λi h=>dM,λi hi=>⟨0,?_⟩⟩;have hh:(List.take (l.length*1) cur.toList)[i]?=(madeCells (Value.int .u8 0).cells (l.length*1)).toList[i]?:=by rw[htk]
   rw[zU6,if_pos dM,zVJ,zVJ]at hh;rw[hh];have hz:(Value.int IntKind.u8 0).cells=#[.int .u8 0]:=rfl;rw[hz];simp[madeCells,hi,Nat.mod_one]
 have hgl:w.heap.size≠W1.heap.size:=by
  obtain⟨_,cur,h,_⟩:=h0;have:=(zUH.1 h).1;omega
 gi_wp2_with (rw[hmk])
 gi_loopw [11] (λu wr=>∃k:Nat,k<=l.length/\u=.int .i64 (k:Int)/\TRow w.heap.size w.heap.size w (l.map CharT.b) l.length k wr)
  (λu _=>match u with|.int _ z=>l.length-z.toNat|_=>0)
 case atStart=>exact⟨0,zVI _,rfl,h0⟩
 case round=>
  obtain⟨k,hk,rfl,hbel,cur,hgb,hcs,hc1,hc2⟩:=hrel;by_cases hlt:k<l.length
  .obtain⟨b,o,rfl,⟨a0,b0⟩,⟨a1,b1⟩⟩:=hch k hlt;have hbl:b<w.heap.size:=by
    rcases zUx b w.heap.size with h|h
    .exact h
    .rw[hwm b h]at b0;omega
   have f0:wr.cell? ⟨b,o+k*2,none⟩=some (.int .u8 l[k].b):=by rw[Nat.mul_comm k 2];exact(qb (hbel.block b hbl) _).trans a0
   have f1:wr.cell? ⟨b,o+k*2+1,none⟩=some (.int .i64 l[k].fat):=by rw[Nat.mul_comm k 2];exact(qb (hbel.block b hbl) _).trans a1
   have hgs:=(zUH.1 hgb).1;obtain⟨W3,hW3⟩:∃W3,wr.alloc (.cells #[.int .u8 l[k].b,.int .i64 l[k].fat] 108)=W3:=⟨_,rfl⟩;have hg3:W3.heap[w.heap.size]?=some (.cells cur 5 (0,0)):=by rw[<-hW3,Below.heap_alloc _ _ _ hgs];exact hgb
   have hn3:W3.heap[wr.heap.size]?=some (.cells #[.int .u8 l[k].b,.int .i64 l[k].fat] 108 (0,0)):=by rw[<-hW3];exact World.alloc_heap_new wr _
   have g0:W3.cell? ⟨wr.heap.size,0,none⟩=some (.int .u8 l[k].b):=by simp[World.cell?,hn3]
   obtain⟨z,hz⟩:=hc2 k hlt;have hck:W3.cell? ⟨w.heap.size,k,none⟩=some (.int .u8 z):=by simp[World.cell?,hg3,hz]
   have hfk:W3.frozen? ⟨w.heap.size,k,none⟩=false:=by simp[World.frozen?,hg3]
   gi_wp2_with (rw[hW3])
   refine⟨⟨k+1,hlt,rfl,?_⟩,?_⟩
   .have hbel3:dC w.heap.size w W3:=by rw[<-hW3];exact hbel.alloc hbel.size _
    refine⟨hbel3.grown (zGw W3 w.heap.size k (.int .u8 l[k].b)) hbel3.size (λj e=>by injection e with e;omega),cur.setIfInBounds k (.int .u8 l[k].b),zMe _ hg3,by simpa using hcs,λi hi=>?_,λi hi=>?_⟩
    .rw[zVy];by_cases e:k=i
     .subst e;rw[if_pos rfl,if_pos dM];simp[hlt]
     .rw[if_neg e];exact hc1 i dM
    .rw[zVy];by_cases e:k=i
     .subst e;rw[if_pos rfl,if_pos dM];exact⟨_,rfl⟩
     .rw[if_neg e];exact hc2 i hi
   .show l.length-Int.toNat ((k:Int)+1)<l.length-Int.toNat (k:Int);omega
  .obtain rfl:k=l.length:=dM
   have hcv:=run_convert_bytes_arg (P:=Tryz.prog) wr 125 5 Tryz.underlying125 Tryz.underlying5 w.heap.size 0 l.length l.length (l.map CharT.b) dQ (λi hi=>by
    have:=hc1 i hi;simp[World.cell?,hgb,this]) 9 Tryz.underlying9
   gi_wp2_with (rw[hcv])
   go_ret;exact⟨rfl,hbel⟩
def c63(x:db dz×dc):da (Str×dc):=if x.1.length<1100000 then some (x.1.map (λc=>UInt8.ofNat c.b.toNat),())else none
def pure63(l:db dz)(a:l.length<1100000):jS Tryz.prog 63 [.lst (zx (l.map qE)) (l.map qE)] (.at (.string ⟨(l.map (λc=>UInt8.ofNat c.b.toNat)).toArray⟩)):=by
 intro j w us d o k;obtain⟨v,rfl⟩:∃v,us=[v]:=by cases k with|cons _ p=>cases p;exact⟨_,rfl⟩
 cases k with
 |cons h _=>
  obtain⟨us,m,q⟩:=h;have g:=qh _ _ _ _ m;obtain⟨u,rfl⟩:=List.length_eq_one_iff.1 (show us.length=1 from g);obtain⟨n,cap,rfl,i⟩:=zRE m;have:v=.slice n l.length cap:=q;subst this;refine callsIn_wide.1 ((zSW 3 l a j w d n cap i).mono ?_);rintro e w' ⟨rfl,f⟩;obtain⟨r,s⟩:=zAK d f;refine⟨_,j,rfl,r,s,?_⟩;have t:strOfNums (l.map CharT.b)=⟨(l.map (λc=>UInt8.ofNat c.b.toNat)).toArray⟩:=by simp[strOfNums,zVr,Function.comp_def]
  rw[t];exact yY rfl
def ok63:CoX 63 ⟨as63,rs63,c63⟩:=λx y d vs a=>by
 obtain⟨s,u⟩:=x;obtain⟨v,vs',rfl,e,a⟩:=a;replace a:vs'=[]:=a;subst a;change db dz at s;replace e:v=.lst (zx (s.map qE)) (s.map qE):=e;subst e;by_cases h:s.length<1100000
 .have f:c63 (s,u)=some (s.map (λc=>UInt8.ofNat c.b.toNat),()):=if_pos h;replace d:c63 (s,u)=some y:=d;rw[f]at d;injection d with d
  subst d;exact pure63 s h
 .have f:c63 (s,u)=none:=if_neg h;replace d:c63 (s,u)=some y:=d;rw[f]at d;cases d
end
section
open Go.Al Go.Den
noncomputable def c89:zA ([.str]:LK)->DD (zA ([.bool]:LK)):=mD (sh89 0)
def ok89:CQ 89 (cD ([.str]:LK) ([.bool]:LK) c89):=con89 0
noncomputable def c92(fu:Nat):zA ([]:LK)->DD (zA ([.int .i64]:LK)):=mD (sh92 fu c88)
def ok92(fu:Nat):CQ 92 (cD ([]:LK) ([.int .i64]:LK) (c92 fu)):=con92 fu c88 ok88
noncomputable def c93(fu:Nat):zA ([]:LK)->DD (zA ([.int .i64]:LK)):=mD (sh93 fu c90 c88)
def ok93(fu:Nat):CQ 93 (cD ([]:LK) ([.int .i64]:LK) (c93 fu)):=con93 fu c90 ok90 c88 ok88
noncomputable def c94(fu:Nat):zA ([.int .u8]:LK)->DD (zA ([.int .i64]:LK)):=mD (sh94 fu c88)
def ok94(fu:Nat):CQ 94 (cD ([.int .u8]:LK) ([.int .i64]:LK) (c94 fu)):=con94 fu c88 ok88
noncomputable def c95(fu:Nat):zA ([]:LK)->DD (zA ([.int .i64]:LK)):=mD (sh95 fu c89)
def ok95(fu:Nat):CQ 95 (cD ([]:LK) ([.int .i64]:LK) (c95 fu)):=con95 fu c89 ok89
noncomputable def c65(fu:Nat):zA ([]:LK)->DD (zA ([.int .i64,.int .i64]:LK)):=mD (sh65 fu c89 (c92 fu) (c93 fu) (c94 fu) (c95 fu))
def ok65(fu:Nat):CQ 65 (cD ([]:LK) ([.int .i64,.int .i64]:LK) (c65 fu)):=con65 fu c89 ok89 (c92 fu) (ok92 fu) (c93 fu) (ok93 fu) (c94 fu) (ok94 fu) (c95 fu) (ok95 fu)
noncomputable def c64(fu:Nat):zA ([]:LK)->DD (zA ([.bool]:LK)):=mD (sh64 fu c90 c91 c88 c89)
def ok64(fu:Nat):CQ 64 (cD ([]:LK) ([.bool]:LK) (c64 fu)):=con64 fu c90 ok90 c91 ok91 c88 ok88 c89 ok89
noncomputable def c39(fu:Nat)(x:Int×Str×dc):da (db dw×dc):=sh39 fu c62 c63 (c64 fu) (c65 fu) (λ_=>false) x.1 x.2.1
def ok39(fu:Nat):CoX 39 ⟨as39,rs39,c39 fu⟩:=con39 fu c62 ok62 c63 ok63 (c64 fu) (ok64 fu) (c65 fu) (ok65 fu)
def TT{ρ:Type}(a:da (da ρ))(Q:ρ->Prop):Prop:=∃y,a=some (some y)/\Q y
section
variable{ρ α:Type}{Q:ρ->Prop}{t f:da (da ρ)}{a b:Int}
theorem qr{y:ρ}(h:Q y):TT (some (some y)) Q:=⟨y,rfl,h⟩
theorem qD{x:da α}{v:α}{F:α->da (da ρ)}(h:x=some v)(c:TT (F v) Q):TT (Option.bind x F) Q:=by subst h;exact c
theorem zA7(h1:a=b->TT t Q)(c:a≠b->TT f Q):TT (cond (ieq a b) t f) Q:=by
 rw[yr];by_cases h:a=b
 .rw[zUg h];exact h1 h
 .rw[zUh h];exact c h
theorem zO9(h1:a≠b->TT t Q)(c:a=b->TT f Q):TT (cond (ine a b) t f) Q:=by
 rw[zI4];by_cases h:a=b
 .rw[zUg h];exact c h
 .rw[zUh h];exact h1 h
theorem zIH(h1:a<=b->TT t Q)(c:b<a->TT f Q):TT (cond (ile a b) t f) Q:=by
 unfold ile;by_cases h:a<=b
 .rw[zUg h];exact h1 h
 .rw[zUh h];exact c dM
theorem zAI(h1:a<b->TT t Q)(c:b<=a->TT f Q):TT (cond (ilt a b) t f) Q:=by
 unfold ilt;by_cases h:a<b
 .rw[zUg h];exact h1 h
 .rw[zUh h];exact c dM
theorem zSI(h1:b<a->TT t Q)(c:a<=b->TT f Q):TT (cond (!(ile a b)) t f) Q:=by
 unfold ile;by_cases h:a<=b
 .rw[zUg h];exact c h
 .rw[zUh h];exact h1 dM
theorem zMu{c:dd}(h1:c=true->TT t Q)(d:c=false->TT f Q):TT (cond c t f) Q:=by
 cases c
 .exact d rfl
 .exact h1 rfl
theorem zPE{c:dd}(h1:c=false->TT t Q)(d:c=true->TT f Q):TT (cond (!c) t f) Q:=by
 cases c
 .exact h1 rfl
 .exact d rfl
theorem zI3{c:dd}(h:c=true)(h1:TT t Q):TT (cond c t f) Q:=by rw[h];exact h1
theorem zGb{σ:Type}{F:(σ->da (da ρ))->σ->da (da ρ)}(I:σ->Prop)(μ:σ->Nat)
 (step:∀(rec:σ->da (da ρ)) s,I s->(∀s',I s'->μ s'<μ s->TT (rec s') Q)->TT (F rec s) Q) (n:Nat) (s:σ) (hs:I s) (c:μ s<n):TT (iter n F s) Q:=
 zCp (λo=>TT o Q) I μ step n s hs c
end
theorem zGJ{a b:Int}{n:Nat}(h1:0<=a)(c:a<=b)(d:b<=n):inS a b n=true:=by unfold inS;simp[h1,c,d]
theorem zCi{a:Int}{n:Nat}(h1:0<=a)(c:a<n):inB a n=true:=by unfold inB;simp[h1,c]
section
variable{s:Str}{i k:Int}{fu:Nat}
theorem zCq(h:qp s k≠0):k<(s.length:Int):=by
 unfold qp at h;by_cases c:k<(s.length:Int)
 .exact c
 .rw[if_neg c]at h;exact absurd rfl h
theorem e88(h0:0<=i+k)(h1:i+k<9223372036854775808)(c:s.length<9223372036854775808):c88 (k,()) s i=some (qp s (i+k),()):=if_pos ⟨h0,h1,c⟩
theorem zI8{a b:Int}(h0:0<=a)(h1:a<=b)(c:b<=s.length):((cutL s a b).length:Int)=b-a:=by
 unfold cutL;rw[zWU,zVH];omega
noncomputable def r89:Str×dc->DD (dd×dc):=c89
noncomputable def r92(fu:Nat):dc->DD (Int×dc):=c92 fu
noncomputable def r93(fu:Nat):dc->DD (Int×dc):=c93 fu
noncomputable def r94(fu:Nat):Int×dc->DD (Int×dc):=c94 fu
noncomputable def r95(fu:Nat):dc->DD (Int×dc):=c95 fu
noncomputable def r65(fu:Nat):dc->DD (Int×Int×dc):=c65 fu
noncomputable def r64(fu:Nat):dc->DD (dd×dc):=c64 fu
theorem e89(t:Str)(h0:0<=i)(h1:i<=s.length):∃b,r89 (t,()) s i=some ((b,()),i)/\(b=true->i+t.length<=s.length/\(cutL s i s.length).take t.length=t):=by
 have g:=zI8 (s:=s) h0 h1 (zVd _);show∃b,outD s (cond (inS i (lenI s) s.length) (cond (ile (lenI t) (lenI (cutL s i (lenI s)))) (cond (inS 0 (lenI t) (cutL s i (lenI s)).length) (some (some (((s,(i,())),()),((seq (cutL (cutL s i (lenI s)) 0 (lenI t)) t),())))) none) (some (some (((s,(i,())),()),(false,()))))) none)=some ((b,()),i)/\_;rw[show lenI s=(s.length:Int)from rfl,show lenI t=(t.length:Int)from rfl,zGJ h0 h1 (zVd _),zUi];by_cases h:(t.length:Int)<=lenI (cutL s i (s.length:Int))
 .have d:(t.length:Int)<=((cutL s i (s.length:Int)).length:Int):=h;rw[show ile (t.length:Int) (lenI (cutL s i (s.length:Int)))=true from zUg h,zUi,zGJ dM dM d,zUi];refine⟨_,if_pos rfl,λe=>⟨dM,?_⟩⟩;rw[zEh]at e;have c:=zUw e;rw[zRA]at c;exact c
 .rw[show ile (t.length:Int) (lenI (cutL s i (s.length:Int)))=false from zUh h,zUk];exact⟨false,if_pos rfl,λe=>fb⟩
def zAi(z:Int):Prop:=z=95\/(97<=z/\z<=122)\/(65<=z/\z<=90)
def RdQ(s:Str)(i:Int)(P:Int->Prop)(y:(RdT×dc)×(Int×dc)):Prop:=y.1.1.1=s/\y.1.1.2.1=i/\P y.2.1
theorem zGf{P:Int->Prop}{o:da (da ((RdT×dc)×(Int×dc)))}(h:TT o (RdQ s i P)):∃n,outD s o=some ((n,()),i)/\P n:=by
 obtain⟨⟨⟨⟨s',d,u⟩,g⟩,⟨n,j⟩⟩,rfl,h1,c,e⟩:=h;replace h1:s'=s:=h1;replace c:d=i:=c;subst h1 c;exact⟨n,if_pos rfl,e⟩
end
section
variable{s:Str}{i:Int}{fu:Nat}(hs:s.length<=1090000)(hfu:s.length+100<fu)(h0:0<=i)(h1:i<=s.length)
include hs hfu h0 h1
theorem e92:∃n,r92 fu () s i=some ((n,()),i)/\0<=n/\i+n<=s.length/\(0<n->zAi (qp s i)):=by
 refine zGf (o:=sh92 fu c88 ((s,(i,())),()) ()) (P:=λn=>0<=n/\i+n<=s.length/\(0<n->zAi (qp s i))) ?_;unfold sh92;refine zGb (λst=>∃k:Int,st=((k,()),((s,(i,())),()))/\0<=k/\i+k<=s.length/\(0<k->zAi (qp s i))) (λst=>((s.length:Int)-st.1.1).toNat) ?_ fu _ ⟨0,rfl,dM,dM,λh=>dM⟩ dV;rintro rec st ⟨k,rfl,g,j,c⟩ d;dsimp only;refine qD (e88 dM dM dM) ?_;dsimp only;have go:qp s (i+k)≠0->(k=0->zAi (qp s (i+k)))->TT (rec ((iadd .i64 k 1,()),((s,(i,())),()))) (RdQ s i λn=>0<=n/\i+n<=s.length/\(0<n->zAi (qp s i))):=λe m=>by
  have q:=zCq e;have p:iadd .i64 k 1=k+1:=qa _ _ dM dM;rw[p];refine d _ ⟨k+1,rfl,dM,dM,λ_=>?_⟩ dV;by_cases l:k=0
  .have:=m l;rw[l,Int.add_zero]at this;exact this
  .exact c dM
 have stop:TT (some (some (((s,(i,())),()),(k,())))) (RdQ s i λn=>0<=n/\i+n<=s.length/\(0<n->zAi (qp s i))):=qr ⟨rfl,rfl,g,j,c⟩
 repeat' (first|exact stop|exact go dM (λ_=>by unfold zAi;omega)|exact go dM (λ_=>dM)|refine zA7 (λ_=>?_) λ_=>?_|refine zIH (λ_=>?_) λ_=>?_|refine zAI (λ_=>?_) λ_=>?_|(refine qD (e88 dM dM dM) ?_;dsimp only))
theorem e93:∃n,r93 fu () s i=some ((n,()),i)/\0<=n/\i+n<=s.length:=by
 refine zGf (o:=sh93 fu c90 c88 ((s,(i,())),()) ()) (P:=λn=>0<=n/\i+n<=s.length) ?_;unfold sh93;dsimp only;have zero:TT (some (some (((s,(i,())),()),((0:Int),())))) (RdQ s i λn=>0<=n/\i+n<=s.length):=qr ⟨rfl,rfl,by show(0:Int)<=0;omega,by show i+0<=s.length;omega⟩
 repeat' (first|exact zero|refine zA7 (λ_=>?_) λ_=>?_|refine zO9 (λ_=>?_) λ_=>?_|refine zIH (λ_=>?_) λ_=>?_|refine zSI (λ_=>?_) λ_=>?_|(refine qD (e88 dM dM dM) ?_;dsimp only))
 all_goals
  have d:qp s (i+0)≠0:=dM
  have m:=zCq d;refine zGb (λst=>∃k:Int,st=((k,()),((s,(i,())),()))/\0<=k/\i+k<=s.length) (λst=>((s.length:Int)-st.1.1).toNat) ?_ fu _ ⟨1,rfl,dM,dM⟩ dV;rintro rec st ⟨k,rfl,g,h⟩ c;dsimp only;have p:iadd .i64 k 1=k+1:=qa _ _ dM dM;have q:iadd .i64 k 2=k+2:=qa _ _ dM dM;rw[p,q];refine qD (e88 dM dM dM) ?_;dsimp only;refine qD (e88 dM dM dM) ?_;dsimp only;refine qD (show c90 _=some (_,())from rfl) ?_;dsimp only;have j:qp s (i+k)≠0->TT (rec ((k+1,()),((s,(i,())),()))) (RdQ s i λn=>0<=n/\i+n<=s.length):=λe=>by
   have r:=zCq e;exact c _ ⟨k+1,rfl,dM,dM⟩ dV
  have l:qp s (i+(k+1))≠0->TT (rec ((k+2,()),((s,(i,())),()))) (RdQ s i λn=>0<=n/\i+n<=s.length):=λe=>by
   have r:=zCq e;exact c _ ⟨k+2,rfl,dM,dM⟩ dV
  have stop:TT (some (some (((s,(i,())),()),(k,())))) (RdQ s i λn=>0<=n/\i+n<=s.length):=qr ⟨rfl,rfl,g,h⟩
  repeat' (first|exact stop|exact j dM|exact l dM|refine zA7 (λ_=>?_) λ_=>?_|refine zIH (λ_=>?_) λ_=>?_|refine zAI (λ_=>?_) λ_=>?_)
theorem e94(c:Int):∃n,r94 fu (c,()) s i=some ((n,()),i)/\0<=n/\i+n<=s.length:=by
 refine zGf (o:=sh94 fu c88 ((s,(i,())),()) (c,())) (P:=λn=>0<=n/\i+n<=s.length) ?_;unfold sh94;have zero:TT (some (some (((s,(i,())),()),((0:Int),())))) (RdQ s i λn=>0<=n/\i+n<=s.length):=qr ⟨rfl,rfl,by show(0:Int)<=0;omega,by show i+0<=s.length;omega⟩;dsimp only;refine zA7 (λ_=>zero) λe=>?_;replace e:i≠(s.length:Int):=e;refine qD (e88 dM dM dM) ?_;dsimp only;refine zO9 (λ_=>zero) λ_=>?_;refine zGb (λst=>∃k:Int,st=((k,()),((s,(i,())),()))/\0<=k/\i+k<=s.length+2) (λst=>((s.length:Int)+2-st.1.1).toNat) ?_ fu _ ⟨1,rfl,dM,dM⟩ dV;rintro rec st ⟨k,rfl,l,m⟩ d;dsimp only;have p:iadd .i64 k 1=k+1:=qa _ _ dM dM;have q:iadd .i64 (k+1) 1=k+1+1:=qa _ _ dM dM;have r:iadd .i64 i k=i+k:=qa _ _ dM dM;have u:iadd .i64 i (k+1)=i+(k+1):=qa _ _ dM dM;rw[p,q,r,u];refine zAI (λg=>?_) λ_=>zero;replace g:i+k<(s.length:Int):=g;refine qD (e88 dM dM dM) ?_;dsimp only;have h:TT (rec ((k+1,()),((s,(i,())),()))) (RdQ s i λn=>0<=n/\i+n<=s.length):=d _ ⟨k+1,rfl,dM,dM⟩ dV;have j:TT (rec ((k+1+1,()),((s,(i,())),()))) (RdQ s i λn=>0<=n/\i+n<=s.length):=d _ ⟨k+1+1,rfl,dM,dM⟩ dV;have stop:TT (some (some (((s,(i,())),()),(k+1,())))) (RdQ s i λn=>0<=n/\i+n<=s.length):=qr ⟨rfl,rfl,by show 0<=k+1;omega,by show i+(k+1)<=s.length;omega⟩
 repeat' (first|exact zero|exact stop|exact h|exact j|refine zA7 (λ_=>?_) λ_=>?_|refine zAI (λ_=>?_) λ_=>?_|(refine qD (e88 dM dM dM) ?_;dsimp only))
theorem e95:∃n,r95 fu () s i=some ((n,()),i)/\0<=n/\i+n<=s.length:=by
 refine zGf (o:=sh95 fu c89 ((s,(i,())),()) ()) (P:=λn=>0<=n/\i+n<=s.length) ?_;unfold sh95;refine zGb (λst=>∃n k:Int,st=((n,(k,())),((s,(i,())),()))/\0<=k/\k<=48/\0<=n/\i+n<=s.length) (λst=>(48-st.1.2.1).toNat) ?_ fu _ ⟨0,0,rfl,dM,dM,dM,dM⟩ dV;rintro rec st ⟨n,k,rfl,g,j,d,e⟩ c;dsimp only;refine zAI (λh=>?_) λ_=>qr ⟨rfl,rfl,d,e⟩;refine zI3 (zCi g h) ?_;have l:iadd .i64 k 1=k+1:=qa _ _ dM dM;rw[l];generalize List.getD _ (Int.toNat k) []=w;refine zIH (λ_=>?_) λ_=>?_
 .exact c _ ⟨n,k+1,rfl,dM,dM,d,e⟩ dV
 .obtain⟨b,m,p⟩:=e89 (s:=s) (i:=i) w h0 h1;refine qD m ?_;dsimp only;refine zPE (λ_=>?_) λq=>?_
  .exact c _ ⟨n,k+1,rfl,dM,dM,d,e⟩ dV
  .exact c _ ⟨(w.length:Int),k+1,rfl,dM,dM,dM,(p q).1⟩ dV
theorem e65(hi:i<s.length):∃k n,r65 fu () s i=some ((k,(n,())),i)/\0<n/\i+n<=s.length/\(k=1->zAi (qp s i)):=by
 obtain⟨F,f1,f2⟩:=e89 (s:=s) (i:=i) [10] h0 h1;obtain⟨G,q,H,r,v⟩:=e92 hs hfu h0 h1;obtain⟨I,w,J,x⟩:=e93 hs hfu h0 h1;obtain⟨K,c,z,d⟩:=e94 hs hfu h0 h1 34;obtain⟨L,g,A,j⟩:=e94 hs hfu h0 h1 39;obtain⟨M,l,B,m⟩:=e95 hs hfu h0 h1
 suffices h:TT (sh65 fu c89 (c92 fu) (c93 fu) (c94 fu) (c95 fu) ((s,(i,())),()) ()) (λy=>y.1.1.1=s/\y.1.1.2.1=i/\0<y.2.2.1/\i+y.2.2.1<=s.length/\(y.2.1=1->zAi (qp s i)))by
  obtain⟨⟨⟨⟨s',C,u⟩,N⟩,⟨k,n,O⟩⟩,D,o,p,E⟩:=h;replace o:s'=s:=o;replace p:C=i:=p;subst o p;refine⟨k,n,?_,E⟩;show outD s' _=_;rw[D];exact if_pos rfl
 unfold sh65;refine qD f1 ?_;dsimp only;refine zMu (λe=>qr ⟨rfl,rfl,by show(0:Int)<1;omega,by show i+1<=s.length;omega,λe=>fb⟩) λ_=>?_;refine qD q ?_;dsimp only;refine zAI (λe=>qr ⟨rfl,rfl,e,r,λ_=>v e⟩) λ_=>?_;refine qD w ?_;dsimp only;refine zAI (λe=>qr ⟨rfl,rfl,e,x,λe=>fb⟩) λ_=>?_;refine qD c ?_;dsimp only;refine zAI (λe=>qr ⟨rfl,rfl,e,d,λe=>fb⟩) λ_=>?_;refine qD g ?_;dsimp only;refine zAI (λe=>qr ⟨rfl,rfl,e,j,λe=>fb⟩) λ_=>?_;refine qD l ?_;dsimp only;refine zAI (λe=>qr ⟨rfl,rfl,e,m,λe=>fb⟩) λ_=>qr ⟨rfl,rfl,by show(0:Int)<1;omega,by show i+1<=s.length;omega,λe=>fb⟩
end
end
section
open Go.Al Go.Den
theorem zL8:∀(s c:db UInt8),0<=Lib.index s c->Lib.index s c+c.length<=s.length
 |[],c,h=>by
  unfold Lib.index at h ⊢;cases c with
  |nil=>simp
  |cons a l=>simp at h
 |b::l,c,h=>by
  unfold Lib.index at h ⊢;by_cases d:c.isPrefixOf (b::l)=true
  .rw[if_pos d];have:=(List.isPrefixOf_iff_prefix.1 d).length_le;omega
  .rw[if_neg d]at h ⊢;by_cases h1:(Lib.index l c==-1)=true
   .rw[if_pos h1]at h;omega
   .rw[if_neg h1]at h ⊢;have f:Lib.index l c≠-1:=λe=>h1 eo;have g:=Lib.index_ge l c;have j:=zL8 l c dM;simp only[zUD];omega
theorem zFk:∀(s:db UInt8)(c:UInt8),0<=Lib.indexByte s c->Lib.indexByte s c<s.length
 |[],c,h=>by unfold Lib.indexByte at h;omega
 |b::l,c,h=>by
  unfold Lib.indexByte at h ⊢;by_cases a:(b==c)=true
  .rw[if_pos a];simp only[zUD];omega
  .rw[if_neg a]at h ⊢;by_cases h1:(Lib.indexByte l c==-1)=true
   .rw[if_pos h1]at h;omega
   .rw[if_neg h1]at h ⊢;have d:Lib.indexByte l c≠-1:=λe=>h1 eo;have f:=Lib.indexByte_ge l c;have g:=zFk l c dM;simp only[zUD];omega
theorem zJG{s:db UInt8}{c:UInt8}(h:Lib.indexByte s c=0):s.head?=some c:=by
 cases s with
 |nil=>unfold Lib.indexByte at h;omega
 |cons b l=>
  unfold Lib.indexByte at h;by_cases a:(b==c)=true
  .have:=eq_of_beq a;rw[this];rfl
  .rw[if_neg a]at h;by_cases h1:(Lib.indexByte l c==-1)=true
   .rw[if_pos h1]at h;omega
   .rw[if_neg h1]at h;have d:Lib.indexByte l c≠-1:=λe=>h1 eo;have f:=Lib.indexByte_ge l c;omega
section
variable{s:Str}{i:Int}{fu:Nat}(hs:s.length<=1090000)(hfu:s.length+100<fu)(h0:0<=i)(h1:i<=s.length)
include hs hfu h0 h1
theorem e64:∃b j,r64 fu () s i=some ((b,()),j)/\i<=j/\j<=s.length/\(b=true->i<j):=by
 obtain⟨D,f1,f2⟩:=e89 (s:=s) (i:=i) [47,47] h0 h1;obtain⟨b1,x,z⟩:=e89 (s:=s) (i:=i) [47,42] h0 h1
 suffices h:TT (sh64 fu c90 c91 c88 c89 ((s,(i,())),()) ()) (λy=>y.1.1.1=s/\i<=y.1.1.2.1/\y.1.1.2.1<=s.length/\(y.2.1=true->i<y.1.1.2.1))by
  obtain⟨⟨⟨⟨s',j,u⟩,E⟩,⟨b,F⟩⟩,A,m,B⟩:=h;replace m:s'=s:=m;subst m;refine⟨b,j,?_,B⟩;show outD s' _=_;rw[A];exact if_pos rfl
 unfold sh64;dsimp only[zg];have g:TT (Option.bind (c89 ([47,47],()) s i) λf=>
  cond f.1.1
   (cond (inS f.2 (lenI s) (List.length s))
    (Option.bind (c90 ((cutL s f.2 (lenI s)),(10,()))) λc=>
     cond (ilt c.1 0)
      (some (Option.some (((s,((iadd .i64 f.2 (isub .i64 (lenI s) f.2)),())),()),(true,()))))
      (some (Option.some (((s,((iadd .i64 f.2 c.1),())),()),(true,())))))
    (none))
   (Option.bind (c89 ([47,42],()) s f.2) λc=>
    cond (!c.1.1)
     (some (Option.some (((s,(c.2,())),()),(false,()))))
     (cond (inS (iadd .i64 c.2 2) (lenI s) (List.length s))
      (Option.bind (c91 ((cutL s (iadd .i64 c.2 2) (lenI s)),([42,47],()))) λt=>
       cond (ilt t.1 0)
        (some (Option.some (((s,(c.2,())),()),(false,()))))
        (some (Option.some (((s,((iadd .i64 c.2 (iadd .i64 t.1 4)),())),()),(true,())))))
      (none)))) (λy:(RdT×dc)×(dd×dc)=>y.1.1.1=s/\i<=y.1.1.2.1/\y.1.1.2.1<=s.length/\(y.2.1=true->i<y.1.1.2.1)):=by
  refine qD f1 ?_;dsimp only;refine zMu (λn=>?_) λ_=>?_
  .obtain⟨k1,k2⟩:=f2 n;replace k1:i+2<=(s.length:Int):=k1;refine zI3 (zGJ h0 h1 (Int.le_refl _)) ?_;have l:=zI8 (s:=s) h0 h1 (Int.le_refl _);refine qD (show c90 _=some (_,())from rfl) ?_;dsimp only;refine zAI (λ_=>?_) λk=>?_
   .have o:isub .i64 (lenI s) i=(s.length:Int)-i:=zIs _ _ (by show _<=(s.length:Int)-i;omega) (by show(s.length:Int)-i<=_;omega);have p:iadd .i64 i ((s.length:Int)-i)=s.length:=by rw[qa _ _ dM dM];omega
    rw[o,p];exact qr ⟨rfl,h1,zVd _,λ_=>by show i<(s.length:Int);omega⟩
   .have d:=zFk _ _ k;have q:Lib.indexByte (cutL s i (lenI s)) (Int.toNat 10).toUInt8≠0:=λe=>by
     have w:=zJG e;have C:(cutL s i (s.length:Int)).head?=some 47:=by
      have:((cutL s i (s.length:Int)).take 2).head?=some 47:=by rw[show(2:Nat)=([47,47]:Str).length from rfl,k2];rfl
      rw[List.head?_take]at this;simpa using this
     rw[show lenI s=(s.length:Int)from rfl,C]at w;revert w;decide
    generalize G:Lib.indexByte (cutL s i (lenI s)) (Int.toNat 10).toUInt8=v at k d q ⊢;have r:v<(s.length:Int)-i:=by
     have:((cutL s i (lenI s)).length:Int)=(s.length:Int)-i:=l;omega
    rw[qa i v dM dM];exact qr ⟨rfl,by show i<=i+v;omega,by show i+v<=s.length;omega,λ_=>by show i<i+v;omega⟩
  .refine qD x ?_;dsimp only;refine zPE (λ_=>qr ⟨rfl,Int.le_refl _,h1,λe=>fb⟩) λn=>?_;obtain⟨k1,k2⟩:=z n;replace k1:i+2<=(s.length:Int):=k1;have o:iadd .i64 i 2=i+2:=qa _ _ dM dM;rw[o];refine zI3 (zGJ dM k1 (Int.le_refl _)) ?_;have l:=zI8 (s:=s) (a:=i+2) dM k1 (Int.le_refl _);refine qD (show c91 _=some (_,())from if_pos (show(cutL s (i+2) (lenI s)).length<4294967281 by have:((cutL s (i+2) (lenI s)).length:Int)=(s.length:Int)-(i+2):=l;omega)) ?_;dsimp only;refine zAI (λ_=>qr ⟨rfl,Int.le_refl _,h1,λe=>fb⟩) λk=>?_;have d:=zL8 _ _ k;generalize Lib.index (cutL s (i+2) (lenI s)) [42,47]=v at k d ⊢;have r:v+2<=(s.length:Int)-(i+2):=by
    have H:((cutL s (i+2) (lenI s)).length:Int)=(s.length:Int)-(i+2):=l;have I:v+((2:Nat):Int)<=((cutL s (i+2) (lenI s)).length:Int):=d;omega
   have p:iadd .i64 v 4=v+4:=qa _ _ dM dM;rw[p,qa i (v+4) dM dM];exact qr ⟨rfl,by show i<=i+(v+4);omega,by show i+(v+4)<=s.length;omega,λ_=>by show i<i+(v+4);omega⟩
 refine qD (e88 dM dM dM) ?_;dsimp only;have one:qp s (i+0)≠0->TT (some (some (((s,(iadd .i64 i 1,())),()),(true,())))) (λy:(RdT×dc)×(dd×dc)=>y.1.1.1=s/\i<=y.1.1.2.1/\y.1.1.2.1<=s.length/\(y.2.1=true->i<y.1.1.2.1)):=λe=>by
  have J:=zCq e;rw[qa i 1 dM dM];exact qr ⟨rfl,by show i<=i+1;omega,by show i+1<=s.length;omega,λ_=>by show i<i+1;omega⟩
 refine zA7 (λ_=>one dM) λ_=>?_;refine zA7 (λ_=>one dM) λ_=>?_;refine zA7 (λ_=>one dM) λ_=>?_;refine zA7 (λ_=>one dM) λ_=>?_;refine zA7 (λ_=>one dM) λ_=>?_;exact g
end
def TokG(t:dw):Prop:=t.kind=1->∃c r,t.text=c::r/\zAi (c.toNat:Int)
theorem zRP{s:Str}{i n:Int}(h0:0<=i)(b:0<n)(h1:i+n<=s.length):∃c r,cutL s i (i+n)=c::r/\(c.toNat:Int)=qp s i:=by
 have hi:i.toNat<s.length:=dM
 unfold cutL;have a:i.toNat<(s.take (i+n).toNat).length:=by rw[zVH];omega
 rw[zVF a];refine⟨_,_,rfl,?_⟩;unfold qp;rw[if_pos dM];unfold zGE;rw[List.getElem_take,zUV,zUj hi];rfl
theorem zPP{fu:Nat}(z:Int)(x:Str)(hfu:x.length+200<fu)(W:x.length<=1090000):∃l,c39 fu (z,(x,()))=some (l,())/\l.length<=x.length/\∀t∈l,TokG t:=by
 have p:c62 (x,())=some (chG x 0,()):=if_pos (show x.length<1100000 by omega);have q:=zGo x 0;have v:c63 (chG x 0,())=some ((chG x 0).map (λc=>UInt8.ofNat c.b.toNat),()):=if_pos (show(chG x 0).length<1100000 by omega);show∃l,sh39 fu c62 c63 (r64 fu) (r65 fu) (λ_=>false) z x=some (l,())/\_;unfold sh39;rw[p,Option.bind_some,v,Option.bind_some];dsimp only;generalize K:chG x 0=cs at q ⊢;obtain⟨s,hs⟩:∃s,s=cs.map (λc=>UInt8.ofNat c.b.toNat):=⟨_,rfl⟩;have L:s.length=cs.length:=by rw[hs,List.length_map]
 rw[<-hs];refine zCp (P:=λo=>∃l:db dw,o=some (l,())/\l.length<=x.length/\∀t∈l,TokG t)
  (I:=λst:(db dw×dc)×((Str×(Int×dc))×dc)=>∃toks i,st=((toks,()),((s,(i,())),()))/\0<=i/\i<=(s.length:Int)/\(toks.length:Int)<=i/\∀t∈toks,TokG t) (μ:=λst=>((s.length:Int)-st.2.1.2.1).toNat) ?_ fu _ ⟨[],0,rfl,dM,dM,dQ,λt e=>fb⟩ dV
 rintro rec st ⟨toks,i,rfl,M,A,X,F⟩ g;dsimp only;refine zCp (P:=λo=>∃l:db dw,o=some (l,())/\l.length<=x.length/\∀t∈l,TokG t)
  (I:=λst:(db dw×dc)×((Str×(Int×dc))×((Int×(Str×(Int×(Int×(Int×(dd×dc))))))×dc))=>∃j w,st=((toks,()),((s,(j,())),(w,())))/\i<=j/\j<=(s.length:Int)) (μ:=λst=>((s.length:Int)-st.2.1.2.1).toNat) ?_ fu _ ⟨i,_,rfl,Int.le_refl _,A⟩ dV
 rintro G N ⟨j,w,rfl,O,B⟩ f;dsimp only;have done:∃l,(some (toks,()):da (db dw×dc))=some (l,())/\l.length<=x.length/\∀t∈l,TokG t:=⟨toks,rfl,dM,F⟩;have tok:∀a:Int,i<=a->a<(s.length:Int)->∀(u:(Int×Int×dc)×Int->dw),(∀y,(u y).kind=y.1.1/\(u y).text=cutL s y.2 (iadd .i64 y.2 y.1.2.1))->∃l,(Option.bind (r65 fu () s a) λd=>
  cond (inS d.2 (iadd .i64 d.2 d.1.2.1) (List.length s))
   (cond (inB d.2 (List.length cs))
    (cond (inB (isub .i64 (iadd .i64 d.2 d.1.2.1) 1) (List.length cs))
     (cond (okN 56 ((List.length toks)+(List.length [u d])))
      (rec (((toks++[u d]),()),((s,((iadd .i64 d.2 d.1.2.1),())),())))
      (none))
     (none))
    (none))
   (none))=some (l,())/\l.length<=x.length/\∀t∈l,TokG t:=by
  intro a Y Q u R;obtain⟨k,n,f1,f2,h,C⟩:=e65 (s:=s) (i:=a) (fu:=fu) dM dM dM dM Q;obtain⟨D,m⟩:=R ((k,(n,())),a);replace m:(u ((k,(n,())),a)).text=cutL s a (iadd .i64 a n):=m;replace D:(u ((k,(n,())),a)).kind=k:=D;rw[f1,Option.bind_some];dsimp only;have H:iadd .i64 a n=a+n:=qa _ _ dM dM;have S:isub .i64 (a+n) 1=a+n-1:=zIs _ _ dM dM;rw[H]at m;rw[H,S,zGJ dM dM h,cond_true,zCi dM dM,cond_true,zCi dM dM,cond_true];rw[show okN 56 (toks.length+[u ((k,(n,())),a)].length)=true from zCn eH eD,cond_true];refine g _ ⟨toks++[u ((k,(n,())),a)],a+n,rfl,dM,h,by rw[List.length_append];simp only[List.length_cons,List.length_nil];omega,λt e=>?_⟩ dV;rcases List.mem_append.1 e with e|e
  .exact F t e
  .rw[zUJ]at e;subst e;intro T;obtain⟨c,r,U,V⟩:=zRP (s:=s) (i:=a) (n:=n) dM f2 h;exact⟨c,r,m.trans U,by rw[V];exact C (D▸T)⟩
 by_cases J:j<(s.length:Int)
 .rw[show ilt j (lenI s)=true from zUg J,zUi];obtain⟨b,a,f1,f2,h,C⟩:=e64 (s:=s) (i:=j) (fu:=fu) dM dM dM B;rw[f1,zVY];cases b with
  |true=>
   have:=C rfl;exact f _ ⟨a,_,rfl,dM,h⟩ dV
  |false=>
   dsimp only;rw[cond_false];by_cases E:a<(s.length:Int)
   .rw[show ile (lenI s) a=false from zUh (by show ¬(s.length:Int)<=a;omega),zUk];exact tok a dM E (λy=>TokT.mk y.1.1 (cutL s y.2 (iadd .i64 y.2 y.1.2.1)) _ _ _ _) λ_=>⟨rfl,rfl⟩
   .rw[show ile (lenI s) a=true from zUg (by show(s.length:Int)<=a;omega),zUi];exact done
 .rw[show ilt j (lenI s)=false from zUh J,zUk];rw[show ile (lenI s) j=true from zUg (by show(s.length:Int)<=j;omega),zUi];exact done
end
section
open Go.Al Go.Den
def kno{A:db dw}{n k:Nat}{p:Int}{xs:db MT}{C:Prop}(a:Sto A n p xs)(b:20*((A.length:Int)-p)+k<(0:Nat)):C:=by
 have:=a.p1;exfalso;omega
def KSp.zero(A:db dw)(r:RS):KSp A 0 r:=by
 constructor<;>first
  |exact λ_ _ _ a _ b=>kno a b
  |exact λ_ _ _ a _ b _=>kno a b
  |exact λ_ _ _ _ a _ b=>kno a b
  |exact λ_ _ _ _ _ a _ b _ _ _=>kno a b
  |exact λ_ _ _ _ _ _ _ a _ b _ _=>kno a b
  |exact λ_ _ _ _ _ _ _ a _ b _ _ _ _=>kno a b
  |exact λ_ _ _ _ _ _ a _ b _ _ _=>kno a b
def KSp.next{A:db dw}(b:dJ A){m fu:Nat}{r:RS}(a:5000<fu)(h:KSp A m r):KSp A (m+1) (r.next fu) where
 h53:=kp53 b (xX fu) a h
 h74:=kp74 b (xX fu) a h
 h107:=kp107 b (xX fu) a h
 h75:=kp75 b (xX fu) a h
 h108:=kp108 b (xX fu) a h
 h79:=kp79 b (xX fu) a h
 h82:=kp82 b (xX fu) a h
 h56:=kp56 b (xX fu) a h
 h130:=kp130 b (xX fu) a h
 h81:=kp81 b (xX fu) a h
 h110:=kp110 b (xX fu) a h
 h151:=kp151 b (xX fu) a h
 h83:=kp83 b (xX fu) a h
 h57:=kp57 b (xX fu) a h
 h55:=kp55 b (xX fu) a h
 h37:=kp37 b (xX fu) a h
 h60:=kp60 b (xX fu) a h
 h86:=kp86 b (xX fu) a h
 h116:=kp116 b (xX fu) a h
 h115:=kp115 b (xX fu) a h
 h117:=kp117 b (xX fu) a h
 h113:=kp113 b (xX fu) a h
 h111:=kp111 b (xX fu) a h
 h114:=kp114 b (xX fu) a h
 h131:=kp131 b (xX fu) a h
 h142:=kp142 b (xX fu) a h
 h150:=kp150 b (xX fu) a h
 h154:=kp154 b (xX fu) a h
 h155:=kp155 b (xX fu) a h
def ksp{A:db dw}(b:dJ A){fu:Nat}(a:5000<fu):∀m,KSp A m (rs fu m)
 |0=>KSp.zero A _
 |m+1=>(ksp b a m).next b a
structure DeepB(fu m:Nat):Prop where
 fu:5000<fu
 m:80100<m
def Tps(A:db dw)(ps:db Nd):Prop:=∀x∈ps,Tp A true x
def zFO(n:Nat)(l:db dw)(f:MM (Nd×dc))(p:Int)(xs:db MT)(ps:db Nd):da (da (dx×NdsT×dc)):=
 iter n (λ(b:(PUnit×(dx×(NdsT×PUnit)))->da (da (dx×(NdsT×PUnit))))(a:(PUnit×(dx×(NdsT×PUnit))))=>
  cond (ilt a.2.1.2.1 (lenI l))
   (Option.bind (f a.2.1.1 (a.2.1.2.1,a.2.1.2.2.1)) λd=>
    zX d
     (some Option.none)
     λc=>
     cond (okN 40 ((List.length a.2.2.1.1)+(List.length [(ndE c.1.1)])))
      (b ((),((a.2.1.1,(c.2.1,(c.2.2,((),())))),(((a.2.2.1.1++[(ndE c.1.1)]),()),()))))
      (none))
   (some (Option.some ((a.2.1.1,(a.2.1.2.1,(a.2.1.2.2.1,((),())))),((a.2.2.1.1,()),())))))
  ((),((l,(p,(xs,((),())))),((ps,()),())))
def GoodB(l:db dw)(f:MM (Nd×dc)):Prop:=∀p xs,0<=p->p<=(l.length:Int)->xs.length=1->∃o,f l (p,xs)=some o/\∀y,o=some y->Sto l 1 y.2.1 y.2.2/\Tr p y.2.1 y.1.1/\Tp l true y.1.1
def goodB{fu m:Nat}(a:DeepB fu m){l:db dw}(b:dJ l):GoodB l ((rs fu m).c37 (true,())):=λp xs c d e=>
 (ksp b a.fu m).h37 1 p xs true ⟨c,d,zUB _,e⟩ dM (by have:=a.m;have:=b.len;show 20*((l.length:Int)-p)+(5:Nat)<m;omega)
section
variable{l:db dw}{f:MM (Nd×dc)}
def zOn(n:Nat){p:Int}{xs:db MT}{ps:db Nd}(b:p<(l.length:Int)):zFO (n+1) l f p xs ps=Option.bind (f l (p,xs)) λc=>zX c (some Option.none) λa=>cond (okN 40 (ps.length+1)) (zFO n l f a.2.1 a.2.2 (ps++[ndE a.1.1])) none:=by
 show cond (ilt p (lenI l)) _ _=_;rw[show ilt p (lenI l)=true from zUg b,zUi];rfl
def zQv(r:l.length<=4000)(s:GoodB l f):∀(n:Nat) p xs ps,0<=p->p<=(l.length:Int)->xs.length=1->Pt 0 p ps->Tps l ps->(l.length:Int)-p<n ->
 zFO n l f p xs ps=some none\/∃b a,Pt 0 l.length a/\Tps l a/\zFO n l f p xs ps=some (some ((l,((l.length:Int),(b,((),())))),((a,()),()))):=by
 intro n
 induction n with
 |zero=>intro p xs ps _ _ _ _ _ _;omega
 |succ n t=>
  intro p xs ps v w z i k E;by_cases A:p<(l.length:Int)
  .obtain⟨o,B,C⟩:=s p xs v w z;rw[zOn n A,B,zVY];cases o with
   |none=>exact .inl rfl
   |some y=>
    obtain⟨⟨c,u⟩,q,e⟩:=y;obtain⟨g,h,j⟩:=C _ rfl;replace h:Tr p q c:=h;replace j:Tp l true c:=j;replace g:Sto l 1 q e:=g;have D:=h.lt;have m:=i.len;show cond (okN 40 (ps.length+1)) (zFO n l f q e (ps++[ndE c])) none=_\/∃b a,_/\_/\cond (okN 40 (ps.length+1)) (zFO n l f q e (ps++[ndE c])) none=_;rw[show okN 40 (ps.length+1)=true from zCn dM (by simp[maxLen];omega),zUi,z8];exact t q e (ps++[c]) dM g.p1 g.hn (i.snoc h) (λx d=>by
     rcases zUa.1 d with d|d
     .exact k x d
     .obtain rfl:=zUJ.1 d;exact j) dM
  .obtain rfl:p=(l.length:Int):=dM
   refine .inr ⟨xs,ps,i,k,?_⟩;show cond (ilt (l.length:Int) (lenI l)) _ _=_;rw[show ilt (l.length:Int) (lenI l)=false from zUh eu,zUk]
end
def zMk{fu m:Nat}(d:DeepB fu m){l:db dw}(a:dJ l) :
 c17 fu m (l,())=some (Nd.mk 0 0 [],160,())\/∃ps,Pt 0 l.length ps/\Tps l ps/\c17 fu m (l,())=some (Nd.mk 1 0 ps,0,()):=by
 have e:c17 fu m (l,())=(zFO fu l ((rs fu m).c37 (true,())) 0 [[]] []).map cv17:=if_pos a.len;have g:=d.fu;have b:=a.len;rcases zQv b (goodB d a) fu 0 [[]] [] dM dM rfl (Pt.nil 0) (λx i=>by cases i) dM with h|⟨j,c,k,n,o⟩
 .exact .inl (e.trans (zU1 (Option.map cv17) h))
 .exact .inr ⟨c,k,n,e.trans (zU1 (Option.map cv17) o)⟩
def noNm(w:Str):dd:=kwL.contains w||match w with
 |c::_=>!(decide (c.toNat=95)||(decide (97<=c.toNat/\c.toNat<=122)||decide (65<=c.toNat/\c.toNat<=90)))
 |[]=>true
def zRC:((weakW++fullW).all noNm)=true:=by decide +kernel
def zSZ{l:db dw}(k:l.length<=4000)(m:∀t∈l,TokG t):dJ l:=by
 refine⟨k,λp w h e=>?_⟩;have a:noNm w=true:=by
  refine zUb.1 zRC w ?_;rw[zUa];rw[zVv]at h;simpa using h
 cases d:zY l p with
 |false=>rfl
 |true=>
  exfalso;have n:=zBL d;unfold zY at d;simp only[zUE,zU7]at d;obtain⟨_,b,g⟩:=d;have o:(tkA l p).text=w:=by
   unfold zt at e;rw[if_neg dM,if_pos (.inl b)]at e;exact e
  have q:tkA l p∈l:=by
   unfold tkA at b ⊢;by_cases i:p.toNat<l.length
   .rw[zUV,zUj i];exact zUv i
   .rw[zUV,zWD dM]at b;exact absurd b dP
  obtain⟨c,r,j,s⟩:=m _ q b;rw[o]at j g;subst j;unfold noNm at a;rw[zVv]at a;rcases a with a|a
  .rw[a]at g;cases g
  .simp only[zVU,Bool.or_eq_false_iff,zWO]at a;unfold zAi at s;omega
end
section
open Go.Al Go.Den
def zIR:∀(m:MT)(s:Str),mpG m s=mgZ m s
 |[],_=>rfl
 |(k,v)::r,s=>by
  show cond (seq s k) v (mpG r s)=(qF ((k,v)::r) s).getD 0;rw[zEh,zIR r s];by_cases h:s=k
  .rw[zUg h,qF,if_pos h];rfl
  .rw[zUh h,qF,if_neg h];rfl
def zEb(s:Str)(v:Int)(t:Str):∀m:MT,mgZ (yd m s v) t=if t=s then v else mgZ m t
 |[]=>by
  show(if t=s then some v else none).getD 0=_;split<;>rfl
 |(k,u)::r=>by
  unfold yd;by_cases h:s=k
  .rw[if_pos h];show(if t=s then some v else qF r t).getD 0=if t=s then v else(if t=k then some u else qF r t).getD 0
   subst h;split
   .rfl
   .rfl
  .rw[if_neg h];have b:=zEb s v t r;show(if t=k then some u else qF (yd r s v) t).getD 0=if t=s then v else(if t=k then some u else qF r t).getD 0
   by_cases a:t=k
   .rw[if_pos a,if_pos a,if_neg (λe=>h (e.symm.trans a))]
   .rw[if_neg a,if_neg a];exact b
def spk(k:Int)(c:dd):Int:=if k=5\/k=6 then 2 else if k=46 then 3 else if k=28\/k=29 then 4 else if k=10/\c=true then 3 else 1
def spk_le(k:Int)(c:dd):1<=spk k c/\spk k c<=4:=by unfold spk;(repeat' split)<;>omega
def ckd(k:Int)(c:dd)(kk:Int):dd:=decide (kk=10)&&(decide (k=7)||(decide (k=10)&&c))
mutual
/-- The names of a tree,and their spaces. -/
def PlN(A:List TokT):Nd->Bool->Int->Int->Prop
 |.mk k _ ps,c,i,s=>PlL A ps k c i s
def PlL(A:List TokT):List Nd->Int->Bool->Int->Int->Prop
 |[],_,_,_,_=>False
 |x::r,k,c,i,s=>((x.kind=0/\zY A x.tok=true/\i=x.tok/\s=spk k c)\/(x.kind≠0/\PlN A x (ckd k c x.kind) i s))\/PlL A r k c i s
end
mutual
theorem zBC{A:List TokT}:∀{nd:Nd}{c:Bool}{i s:Int},nd.kind≠0->PlN A nd c i s->i∈lvN nd/\zY A i=true/\1<=s/\s<=4
 |.mk k p ps,c,i,s,hk,h=>by
  have:=zL0 h;refine⟨?_,this.2⟩;show i∈(if k=0 then[p]else lvL ps);rw[if_neg (show ¬k=0 from hk)];exact this.1
theorem zL0{A:List TokT}:∀{ps:List Nd}{k:Int}{c:Bool}{i s:Int},PlL A ps k c i s->i∈lvL ps/\zY A i=true/\1<=s/\s<=4
 |[],_,_,_,_,h=>h.elim
 |x::r,k,c,i,s,h=>by
  show i∈lvN x++lvL r/\_;rw[zUa];rcases h with(⟨h1,h2,rfl,rfl⟩|⟨h1,h2⟩)|h
  .refine⟨.inl ?_,h2,spk_le k c⟩;cases x with
   |mk kk p l=>
    obtain rfl:kk=0:=h1;show p∈(if(0:Int)=0 then[p]else lvL l);rw[if_pos rfl];exact zUJ.2 rfl
  .have:=zBC h1 h2;exact⟨.inl this.1,this.2⟩
  .have:=zL0 h;exact⟨.inr this.1,this.2⟩
end
mutual
theorem zSN{A:List TokT}:∀{nd:Nd}(c:Bool){i:Int},nd.kind≠0->i∈lvN nd->zY A i=true->∃s,PlN A nd c i s
 |.mk k p ps,c,i,hk,h,hn=>by
  have h2:i∈(if k=0 then[p]else lvL ps):=h;rw[if_neg (show ¬k=0 from hk)]at h2;exact zIy k c h2 hn
theorem zIy{A:List TokT}:∀{ps:List Nd}(k:Int)(c:Bool){i:Int},i∈lvL ps->zY A i=true->∃s,PlL A ps k c i s
 |[],_,_,_,h,_=>dU
 |x::r,k,c,i,h,hn=>by
  have h2:i∈lvN x++lvL r:=h;rw[zUa]at h2;rcases h2 with h2|h2
  .by_cases hk:x.kind=0
   .refine⟨spk k c,.inl (.inl ?_)⟩;cases x with
    |mk kk p l=>
     obtain rfl:kk=0:=hk;have h3:i∈(if(0:Int)=0 then[p]else lvL l):=h2;rw[if_pos rfl]at h3;obtain rfl:=zUJ.1 h3;exact⟨rfl,hn,rfl,rfl⟩
   .obtain⟨s,hs⟩:=zSN (ckd k c x.kind) hk h2 hn;exact⟨s,.inl (.inr ⟨hk,hs⟩)⟩
  .obtain⟨s,hs⟩:=zIy k c h2 hn;exact⟨s,.inr hs⟩
end
abbrev PV:=Int->Int->Prop
def gB(q:WS)(i:Int):dy:=q.2.1.getD i.toNat yQ
def tx(A:db dw)(i:Int):Str:=(A.getD i.toNat tokD).text
def Cl(A:db dw)(V:PV)(q:WS)(s d i:Int):Prop:=d = -1\/(V d s/\tx A d=tx A i/\gB q d=⟨s,d⟩)
def Eo(A:db dw)(V:PV)(q:WS)(s:Int)(t:Str)(z:Int):Prop:=z=0\/(1<=z/\z<=A.length/\V (z-1) s/\tx A (z-1)=t/\gB q (z-1)=⟨s,z-1⟩)
structure Inw(A:List TokT)(F M:MT)(V0 V:PV)(q:WS):Prop where
 tok:q.1=A
 len:q.2.1.length=A.length
 sz:A.length<=4000
 fld:q.2.2.2.1=F
 mrk:q.2.2.2.2=M
 rF:∀t,0<=mgZ F t/\mgZ F t<=100000
 rM:∀t,0<=mgZ M t/\mgZ M t<=100000
 dom:∀i s,V i s->0<=i/\i<(A.length:Int)/\zY A i=true/\1<=s/\s<=4
 sub:∀i s,V0 i s->V i s
 nil:∀i,0<=i->i<(A.length:Int)->(∀s,¬V i s)->gB q i=⟨0,-1⟩
 ok:∀i s,V i s->∃d,gB q i=⟨s,d⟩/\(s=1\/s=2->Cl A V q s d i)/\(s=3->d=mgZ F (tx A i)-1)/\(s=4->(V0 i 4->Cl A V0 q 4 d i)/\(¬V0 i 4->d=mgZ M (tx A i)-1))
 ent:∀lv∈q.2.2.1,(∀t,Eo A V q 1 t (mgZ lv.1 t))/\∀t,Eo A V q 2 t (mgZ lv.2 t)
def Kpt(V:PV)(q a:WS):Prop:=∀i s,V i s->gB a i=gB q i
def V1(V:PV)(i s:Int):PV:=λj r=>V j r\/(j=i/\r=s)
section
variable{A:db dw}{F M:MT}{V0 V:PV}{q:WS}{i:Int}
def zPC(c:q.2.1.length=A.length)(d:0<=i)(hi:i<(A.length:Int))(b:dy)(a:db LT1){j:Int}(e:0<=j):gB (q.1,q.2.1.set i.toNat b,a,q.2.2.2) j=if j=i then b else gB q j:=by
 show(q.2.1.set i.toNat b).getD j.toNat yQ=if j=i then b else q.2.1.getD j.toNat yQ
 rw[zUV,zUV];by_cases h:j=i
 .subst h;rw[if_pos rfl,List.getElem?_set_self dM];rfl
 .rw[if_neg h,List.getElem?_set_ne dM]
def zEx(h:Inw A F M V0 V q)(d:0<=i)(hi:i<(A.length:Int))(f:∀s,¬V i s)(b:dy)(a:db LT1):Kpt V q (q.1,q.2.1.set i.toNat b,a,q.2.2.2):=λj r c=>by
 rw[zPC h.len d hi b a (h.dom j r c).1,if_neg (λe:j=i=>f r (by rw[<-e];exact c))]
def Inw.write(h:Inw A F M V0 V q)(B:0<=i)(hi:i<(A.length:Int))(O:zY A i=true)(K:∀s,¬V i s)(s d:Int)(a:db LT1)(P:1<=s/\s<=4)
 (C:s=1\/s=2->d = -1\/d=i\/(V d s/\tx A d=tx A i/\gB q d=⟨s,d⟩)) (Q:s=3->d=mgZ F (tx A i)-1) (R:s=4->d=mgZ M (tx A i)-1)
 (S:∀l∈a,(∀t,Eo A V q 1 t (mgZ l.1 t)\/(s=1/\d=i/\t=tx A i/\mgZ l.1 t=i+1))/\∀t,Eo A V q 2 t (mgZ l.2 t)\/(s=2/\d=i/\t=tx A i/\mgZ l.2 t=i+1)) :
 Inw A F M V0 (V1 V i s) (q.1,q.2.1.set i.toNat ⟨s,d⟩,a,q.2.2.2):=by
 have D:∀{j:Int},0<=j->gB (q.1,q.2.1.set i.toNat ⟨s,d⟩,a,q.2.2.2) j=if j=i then⟨s,d⟩else gB q j:=λy=>zPC h.len B hi _ _ y
 have m:∀{j r},V j r->gB (q.1,q.2.1.set i.toNat ⟨s,d⟩,a,q.2.2.2) j=gB q j:=λ{j r} b=>by
  rw[D (h.dom j r b).1,if_neg (λe:j=i=>K r (by rw[<-e];exact b))]
 have g:gB (q.1,q.2.1.set i.toNat ⟨s,d⟩,a,q.2.2.2) i=⟨s,d⟩:=by rw[D B,if_pos rfl]
 have n:∀{r t z},Eo A V q r t z->Eo A (V1 V i s) (q.1,q.2.1.set i.toNat ⟨s,d⟩,a,q.2.2.2) r t z:=λ{r t z} E=>by
  rcases E with E|⟨T,U,L,W,X⟩
  .exact .inl E
  .exact .inr ⟨T,U,.inl L,W,by rw[m L];exact X⟩
 have f:∀{t z},d=i->t=tx A i->z=i+1->Eo A (V1 V i s) (q.1,q.2.1.set i.toNat ⟨s,d⟩,a,q.2.2.2) s t z:=λ{t z} o p u=>by
  subst u;have G:i+1-1=i:=dM
  refine .inr ⟨dM,dM,?_,?_,?_⟩
  .rw[G];exact .inr ⟨rfl,rfl⟩
  .rw[G];exact p.symm
  .rw[G,g,o]
 refine⟨h.tok,by show(q.2.1.set _ _).length=_;rw[zWK];exact h.len,h.sz,h.fld,h.mrk,h.rF,h.rM,λj r b=>?_,λj r b=>.inl (h.sub j r b),λj y b v=>?_,λj r b=>?_,λl H=>?_⟩
 .rcases b with b|⟨rfl,rfl⟩
  .exact h.dom j r b
  .exact⟨B,hi,O,P⟩
 .rw[D y,if_neg (λe=>v s (.inr ⟨e,rfl⟩))];exact h.nil j y b λr c=>v r (.inl c)
 .rcases b with b|⟨rfl,rfl⟩
  .obtain⟨e,Y,Z,h7,N⟩:=h.ok j r b;refine⟨e,by rw[m b];exact Y,λc=>?_,h7,λc=>⟨λI=>?_,(N c).2⟩⟩
   .rcases Z c with J|⟨b1,w,x⟩
    .exact .inl J
    .exact .inr ⟨.inl b1,w,by rw[m b1];exact x⟩
   .rcases(N c).1 I with J|⟨b1,w,x⟩
    .exact .inl J
    .exact .inr ⟨b1,w,by rw[m (h.sub _ _ b1)];exact x⟩
  .refine⟨d,g,λc=>?_,Q,λc=>⟨λI=>absurd (h.sub _ _ I) (K 4),λ_=>R c⟩⟩;rcases C c with e|rfl|⟨b1,w,x⟩
   .exact .inl e
   .exact .inr ⟨.inr ⟨rfl,rfl⟩,rfl,g⟩
   .exact .inr ⟨.inl b1,w,by rw[m b1];exact x⟩
 .obtain⟨k1,k2⟩:=S l H;refine⟨λt=>?_,λt=>?_⟩
  .rcases k1 t with k|⟨rfl,o,p,u⟩
   .exact n k
   .exact f o p u
  .rcases k2 t with k|⟨rfl,o,p,u⟩
   .exact n k
   .exact f o p u
def zRS(h:∀a∈q.2.2.1,∀t,Eo A V q 1 t (mgZ a.1 t))(b:Str):Eo A V q 1 b (kX b q.2.2.1):=by
 generalize q.2.2.1=hs at h
 induction hs with
 |nil=>exact .inl rfl
 |cons x r d=>
  unfold kX;split
  .exact h x zUz b
  .exact d λa c=>h a (zUW _ c)
def zRZ{r:db LT1}(h:∀a∈r,∀t,Eo A V q 2 t (mgZ a.2 t))(b:Str):Eo A V q 2 b (zFK b r):=by
 induction r with
 |nil=>exact .inl rfl
 |cons x r d=>
  unfold zFK;split
  .exact h x zUz b
  .exact d λa c=>h a (zUW _ c)
def Eo.rng{s:Int}{t:Str}{z:Int}(a:A.length<=4000)(h:Eo A V q s t z):0<=z/\z<1000000:=by
 rcases h with rfl|⟨b,c,_⟩<;>omega
def Inw.plain(h:Inw A F M V0 V q)(d:0<=i)(hi:i<(A.length:Int))(l:zY A i=true)(j:∀s,¬V i s)(f:q.2.2.1≠[]) :
 ∃b,c125 (i,()) q=some ((),b)/\Inw A F M V0 (V1 V i 1) b/\b.2.2.1=q.2.2.1/\Kpt V q b:=by
 have g:=zRS (λc a=>(h.ent c a).1) (tx A i);have k:=g.rng h.sz;have e:c125 (i,()) q=some ((),(q.1,q.2.1.set i.toNat ⟨1,kX (tx A i) q.2.2.1-1⟩,q.2.2.1,q.2.2.2)):=by
  unfold c125 tx at *;rw[h.tok];refine if_pos ⟨d,hi,?_,f,k.1,k.2⟩;rw[h.len];exact hi
 refine⟨_,e,h.write d hi l j 1 _ _ dM (λ_=>?_) (λe=>dM) (λe=>dM) (λc a=>⟨λt=>.inl ((h.ent c a).1 t),λt=>.inl ((h.ent c a).2 t)⟩),rfl,zEx h d hi j _ _⟩;rcases g with g|⟨p,r,m,n,o⟩
 .exact .inl dM
 .exact .inr (.inr ⟨m,n,o⟩)
def Inw.declare(h:Inw A F M V0 V q)(m:0<=i)(hi:i<(A.length:Int))(p:zY A i=true)(n:∀s,¬V i s){x:LT1}{r:db LT1}(k:q.2.2.1=x::r) :
 ∃f u,c102 (i,()) q=some ((),f)/\Inw A F M V0 (V1 V i 1) f/\f.2.2.1=u::r/\Kpt V q f:=by
 have g:x∈q.2.2.1:=by rw[k];exact zUz
 have j:=(h.ent x g).1 (tx A i);have o:=j.rng h.sz;have v:=h.sz;have e:c102 (i,()) q=some ((),(q.1,q.2.1.set i.toNat ⟨1,(if mgZ x.1 (tx A i)=0 then i+1 else mgZ x.1 (tx A i))-1⟩,(if mgZ x.1 (tx A i)=0 then yd x.1 (tx A i) (i+1)else x.1,x.2)::r,q.2.2.2)):=by
  unfold c102 tx at *;rw[if_neg (show ¬(i,()).1<0 by show ¬i<0;omega),k,h.tok];refine if_pos ⟨hi,?_,dM,o.1,o.2⟩;rw[h.len];exact hi
 have b:∀c∈r,(∀t,Eo A V q 1 t (mgZ c.1 t))/\∀t,Eo A V q 2 t (mgZ c.2 t):=λc a=>h.ent c (by rw[k];exact zUW _ a);refine⟨_,_,e,h.write m hi p n 1 _ _ dM (λ_=>?_) (λe=>dM) (λe=>dM) (λc a=>?_),rfl,zEx h m hi n _ _⟩
 .by_cases d:mgZ x.1 (tx A i)=0
  .rw[if_pos d];exact .inr (.inl dM)
  .rw[if_neg d];rcases j with j|⟨B,C,w,y,z⟩
   .exact absurd j d
   .exact .inr (.inr ⟨w,y,z⟩)
 .rcases zUG.1 a with rfl|a
  .refine⟨λt=>?_,λt=>.inl ((h.ent x g).2 t)⟩;show Eo A V q 1 t (mgZ (if mgZ x.1 (tx A i)=0 then yd x.1 (tx A i) (i+1)else x.1) t)\/_;by_cases d:mgZ x.1 (tx A i)=0
   .show Eo A V q 1 t (mgZ (if mgZ x.1 (tx A i)=0 then yd x.1 (tx A i) (i+1)else x.1) t)\/(1:Int)=1/\(if mgZ x.1 (tx A i)=0 then i+1 else mgZ x.1 (tx A i))-1=i/\t=tx A i/\mgZ (if mgZ x.1 (tx A i)=0 then yd x.1 (tx A i) (i+1)else x.1) t=i+1;rw[if_pos d,if_pos d,zEb];by_cases l:t=tx A i
    .exact .inr ⟨rfl,dM,l,if_pos l⟩
    .rw[if_neg l];exact .inl ((h.ent x g).1 t)
   .rw[if_neg d];exact .inl ((h.ent x g).1 t)
  .exact⟨λt=>.inl ((b c a).1 t),λt=>.inl ((b c a).2 t)⟩
def Inw.tag(h:Inw A F M V0 V q)(k:0<=i)(hi:i<(A.length:Int))(v:zY A i=true)(p:∀s,¬V i s)(br:dd){x:LT1}{r:db LT1}(l:q.2.2.1=x::r) :
 ∃g w,c126 (i,br,()) q=some ((),g)/\Inw A F M V0 (V1 V i 2) g/\g.2.2.1=w::r/\Kpt V q g:=by
 have j:x∈q.2.2.1:=by rw[l];exact zUz
 have b:∀d∈r,(∀t,Eo A V q 1 t (mgZ d.1 t))/\∀t,Eo A V q 2 t (mgZ d.2 t):=λd a=>h.ent d (by rw[l];exact zUW _ a);have f:Eo A V q 2 (tx A i) (tagZ (tx A i) br x r):=by
  unfold tagZ finZ;split
  .exact(h.ent x j).2 (tx A i)
  .split
   .exact .inl rfl
   .exact zRZ (λd a=>(b d a).2) _
 have m:tagZ (tx A i) br x r=0->mgZ x.2 (tx A i)=0:=λe=>by
  unfold tagZ finZ at e;split at e
  .rename_i n;exact absurd e n
  .rename_i n;exact Decidable.not_not.1 n
 have u:=f.rng h.sz;have y:=h.sz;obtain⟨z,c⟩:∃z,z=tagZ (tx A i) br x r:=⟨_,rfl⟩;have e:c126 (i,br,()) q=some ((),(q.1,q.2.1.set i.toNat ⟨2,(if z=0 then i+1 else z)-1⟩,(x.1,if z=0 then yd x.2 (tx A i) (i+1)else x.2)::r,q.2.2.2)):=by
  rw[c];unfold c126 tx at *;rw[l,h.tok];refine if_pos ⟨k,hi,?_,dM,u.1,u.2⟩;rw[h.len];exact hi
 rw[<-c]at f m;refine⟨_,_,e,h.write k hi v p 2 _ _ dM (λ_=>?_) (λe=>dM) (λe=>dM) (λd a=>?_),rfl,zEx h k hi p _ _⟩
 .by_cases c:z=0
  .rw[if_pos c];exact .inr (.inl dM)
  .rw[if_neg c];rcases f with f|⟨E,G,B,C,D⟩
   .exact absurd f c
   .exact .inr (.inr ⟨B,C,D⟩)
 .rcases zUG.1 a with rfl|a
  .refine⟨λt=>.inl ((h.ent x j).1 t),λt=>?_⟩;show Eo A V q 2 t (mgZ (if z=0 then yd x.2 (tx A i) (i+1)else x.2) t)\/(2:Int)=2/\(if z=0 then i+1 else z)-1=i/\t=tx A i/\mgZ (if z=0 then yd x.2 (tx A i) (i+1)else x.2) t=i+1;by_cases c:z=0
   .rw[if_pos c,if_pos c,zEb];by_cases o:t=tx A i
    .exact .inr ⟨rfl,dM,o,if_pos o⟩
    .rw[if_neg o];exact .inl ((h.ent x j).2 t)
   .rw[if_neg c];exact .inl ((h.ent x j).2 t)
  .exact⟨λt=>.inl ((b d a).1 t),λt=>.inl ((b d a).2 t)⟩
def Inw.spk3(fu:Nat)(h:Inw A F M V0 V q)(d:0<=i)(hi:i<(A.length:Int))(j:zY A i=true)(f:∀s,¬V i s){s z:Int}(c:s=3/\z=mgZ F (tx A i)\/s=4/\z=mgZ M (tx A i)) :
 ∃b,zAB fu (i,s,z,()) q=some ((),b)/\Inw A F M V0 (V1 V i s) b/\b.2.2.1=q.2.2.1/\Kpt V q b:=by
 have o:0<=z/\z<=100000:=by
  rcases c with⟨_,rfl⟩|⟨_,rfl⟩
  .exact h.rF _
  .exact h.rM _
 have e:zAB fu (i,s,z,()) q=some ((),(q.1,q.2.1.set i.toNat ⟨s,z-1⟩,q.2.2.1,q.2.2.2)):=by
  show outW (sh127 fu (wO q) (i,(s,(z,()))))=_;unfold sh127;have k:inB i q.2.1.length=true:=by unfold inB;simp;rw[h.len];omega
  have l:Nat.blt i.toNat q.2.1.length=true:=by rw[h.len];simp[zVc];omega
  have m:isub .i64 z 1=z-1:=by unfold isub;rw[IntWalk.i64_in _ dM]
  show outW (cond (inB i q.2.1.length) (cond (Nat.blt i.toNat q.2.1.length) (cond (eqN q.2.1.length (q.2.1.set i.toNat ⟨s,isub .i64 z 1⟩).length) _ none) none) none)=_;rw[k,l,m,zWK,show eqN q.2.1.length q.2.1.length=true by unfold eqN;simp];rfl
 refine⟨_,e,h.write d hi j f s _ _ dM (λe=>dM) (λe=>?_) (λe=>?_) (λg a=>⟨λt=>.inl ((h.ent g a).1 t),λt=>.inl ((h.ent g a).2 t)⟩),rfl,zEx h d hi f _ _⟩
 .rcases c with⟨_,rfl⟩|⟨n,_⟩
  .rfl
  .omega
 .rcases c with⟨n,_⟩|⟨_,rfl⟩
  .omega
  .rfl
def Inw.named(fu:Nat)(h:Inw A F M V0 V q)(l:0<=i)(hi:i<(A.length:Int)):c67w fu (i,()) q=some ((zY A i,()),q):=by
 obtain⟨a,b,c,d,e⟩:=q;obtain rfl:a=A:=h.tok;show outW (sh67 fu c15 (wO (a,b,c,d,e)) (i,()))=_;unfold sh67;have f:inB i a.length=true:=by unfold inB;simp;omega
 have g:eqN b.length b.length=true:=by unfold eqN;simp
 have j:zY a i=(ieq (a.getD i.toNat tokD).kind 1&&!kwL.contains (a.getD i.toNat tokD).text):=by
  unfold zY tkA;rw[zUg hi,zUU,yr]
 show outW (cond (inB i a.length) (cond (ieq (a.getD i.toNat tokD).kind 1) (cond (inB i a.length) (Option.bind (some (kwL.contains (a.getD i.toNat tokD).text,())) λk=>cond (eqN b.length b.length) (some (some (_,(!k.1,())))) none) none) (cond (eqN b.length b.length) (some (some (_,(false,())))) none)) none)=_;rw[f,g,j];cases ieq (a.getD i.toNat tokD).kind 1<;>rfl
def Inw.text(h:Inw A F M V0 V q)(a:0<=i)(hi:i<(A.length:Int)):c46 (i,()) q.1=some (tx A i,()):=by
 rw[h.tok];exact if_pos ⟨a,hi⟩
end
end
section
open Go.Al Go.Den
def VU(V W:PV):PV:=λi s=>V i s\/W i s
def PlX(A:db dw)(x:Nd):PV:=λi s=>x.kind≠0/\PlN A x false i s
def PlK(A:db dw)(ps:db Nd):PV:=λi s=>∃x∈ps,PlX A x i s
def LvOk(A:db dw)(V:PV)(q:WS)(a:LT1):Prop:=(∀t,Eo A V q 1 t (mgZ a.1 t))/\∀t,Eo A V q 2 t (mgZ a.2 t)
def sz(x:Nd):Nat:=(allT x).length
structure Nw(A:List TokT)(V:PV)(x:Nd):Prop where
 sp:Sp A x
 ok:okT x
 nd:(lvN x).Nodup
 rg:∀i∈lvN x,0<=i/\i<(A.length:Int)
 ln:(lvN x).length<=4000
 fr:x.kind≠0->∀i∈lvN x,∀s,¬V i s
structure NwK(A:List TokT)(V:PV)(ps:List Nd):Prop where
 sp:∀x∈ps,Sp A x
 ok:okL ps
 nd:(lvL ps).Nodup
 rg:∀i∈lvL ps,0<=i/\i<(A.length:Int)
 ln:(lvL ps).length<=4000
 fr:∀x∈ps,x.kind≠0->∀i∈lvN x,∀s,¬V i s
section
variable{A:db dw}{F M:MT}{V V' V0 W:PV}{q:WS}
def PV.ext{V V':PV}(h:∀i s,V i s↔V' i s):V=V':=funext λi=>funext λs=>propext (h i s)
def Inw.to(h:Inw A F M V0 V q)(a:∀i s,V i s↔V' i s):Inw A F M V0 V' q:=PV.ext a▸h
def qX:∀{l:db Nd}{x:Nd}{i:Int},x∈l->i∈lvN x->i∈lvL l
 |y::r,x,i,h,hi=>by
  show i∈lvN y++lvL r;rw[zUa];rcases zUG.1 h with rfl|h
  .exact .inl hi
  .exact .inr (qX h hi)
def zGn:∀{l:db Nd}{x:Nd},x∈l->okL l->okT x
 |y::r,x,h,a=>by
  rcases zUG.1 h with rfl|h
  .exact a.1.1
  .exact zGn h a.2
def qi:∀{l:db Nd}{x:Nd},x∈l->sz x<=(allK l).length
 |y::r,x,h=>by
  show sz x<=(allT y++allK r).length;rw[zUI];rcases zUG.1 h with rfl|h
  .exact Nat.le_add_right _ _
  .exact zU0 (qi h) (Nat.le_add_left _ _)
def zA3(x:Nd):sz x=(allK x.kids).length+1:=by cases x;rfl
def zF7{l:db Nd}{k:Nat}(h:k<l.length):lvL l=lvL (l.take k)++(lvN l[k]++lvL (l.drop (k+1))):=by
 conv=>lhs;rw[<-zWV k l,zVF h,zBf]
 rfl
def NwK.at_{ps:db Nd}(h:NwK A V ps){k:Nat}(b:k<ps.length):Nw A (VU V (PlK A (ps.take k))) ps[k]:=by
 have a:ps[k]∈ps:=zUv b;have d:=h.nd;rw[zF7 b]at d;refine⟨h.sp _ a,zGn a h.ok,((zUe.1 d).2.1 |> λh=>(zUe.1 h).1),λi hi=>h.rg i (qX a hi),by have:=h.ln;rw[zF7 b,zUI,zUI]at this;omega,λj i hi s e=>?_⟩;rcases e with e|⟨x,l,g,n⟩
 .exact h.fr _ a j i hi s e
 .exact(zUe.1 d).2.2 i (qX l (zBC g n).1) i (zUu _ hi) rfl
def PlK.succ{ps:db Nd}{k:Nat}(b:k<ps.length)(i s:Int):VU (VU V (PlK A (ps.take k))) (PlX A ps[k]) i s↔VU V (PlK A (ps.take (k+1))) i s:=by
 have e:ps.take (k+1)=ps.take k++[ps[k]]:=zVT b;constructor
 .rintro((h|⟨x,a,h⟩)|h)
  .exact .inl h
  .exact .inr ⟨x,by rw[e];exact zUu _ a,h⟩
  .exact .inr ⟨_,by rw[e];exact zU8 _ (zUJ.2 rfl),h⟩
 .rintro(h|⟨x,a,h⟩)
  .exact .inl (.inl h)
  .rw[e]at a;rcases zUa.1 a with a|a
   .exact .inl (.inr ⟨x,a,h⟩)
   .obtain rfl:=zUJ.1 a;exact .inr h
def PlK.zero(i s:Int):V i s↔VU V (PlK A ([]:db Nd)) i s:=⟨.inl,λh=>h.elim id λ⟨_,a,_⟩=>eZ⟩
def Inw.lv(h:Inw A F M V0 V q){a:LT1}(b:a∈q.2.2.1):LvOk A V q a:=h.ent a b
end
def PlE(A:db dw)(k:Int)(c:dd)(x:Nd):PV:=λi s=>(x.kind=0/\zY A x.tok=true/\i=x.tok/\s=spk k c)\/(x.kind≠0/\PlN A x (ckd k c x.kind) i s)
section
variable{A:db dw}{V:PV}{kk:Int}{c:dd}
def zEV:∀(a b:db Nd)(i s:Int),PlL A (a++b) kk c i s↔PlL A a kk c i s\/PlL A b kk c i s
 |[],b,i,s=>⟨.inr,λh=>h.elim (λh=>h.elim) id⟩
 |x::a,b,i,s=>by
  show(PlE A kk c x i s\/PlL A (a++b) kk c i s)↔(PlE A kk c x i s\/PlL A a kk c i s)\/PlL A b kk c i s;rw[zEV a b i s,or_assoc]
def PlL.succ{ps:db Nd}{k:Nat}(a:k<ps.length)(i s:Int):VU (VU V (PlL A (ps.take k) kk c)) (PlE A kk c ps[k]) i s↔VU V (PlL A (ps.take (k+1)) kk c) i s:=by
 have e:ps.take (k+1)=ps.take k++[ps[k]]:=zVT a;show((V i s\/PlL A (ps.take k) kk c i s)\/PlE A kk c ps[k] i s)↔V i s\/PlL A (ps.take (k+1)) kk c i s;rw[e,zEV,or_assoc];show V i s\/(PlL A (ps.take k) kk c i s\/PlE A kk c ps[k] i s)↔V i s\/(PlL A (ps.take k) kk c i s\/(PlE A kk c ps[k] i s\/False));rw[zVL]
def PlL.zero(i s:Int):V i s↔VU V (PlL A ([]:db Nd) kk c) i s:=⟨.inl,λh=>h.elim id λh=>h.elim⟩
def zKQ{W:PV}(h:∀i s,¬W i s)(i s:Int):V i s↔VU V W i s:=⟨.inl,λa=>a.elim id λb=>(h i s b).elim⟩
def zLD{x:Nd}(h:x.kind=0)(i s:Int):¬PlX A x i s:=λa=>a.1 h
def jy{x:Nd}(h:Sp A x)(a:x.kind≠0):Sh A x.kind x.kids/\∀y∈x.kids,Sp A y:=by
 cases h with
 |mk b d=>exact⟨b a,d⟩
def zAh{x:Nd}(a:x.kind≠0):lvN x=lvL x.kids:=by
 cases x with
 |mk k p l=>exact if_neg (show ¬k=0 from a)
def qf(x:Nd)(c:dd)(i s:Int):PlN A x c i s↔PlL A x.kids x.kind c i s:=by cases x;exact zVD
structure NwF(A:List TokT)(V:PV)(ps:List Nd):Prop where
 k:NwK A V ps
 fr:∀i∈lvL ps,∀s,¬V i s
 len:ps.length<=4000
def Nw.kids{x:Nd}(h:Nw A V x)(a:x.kind≠0):NwF A V x.kids:=by
 have e:=zAh a;have b:x.kids.length<=(lvL x.kids).length/\okL x.kids:=by
  have:=h.ok;cases x with
  |mk k p l=>exact⟨this.2.2.1,this.2.2.2.2⟩
 refine⟨⟨(jy h.sp a).2,b.2,e▸h.nd,e▸h.rg,e▸h.ln,λy d g i hi s=>h.fr a i (by rw[e];exact qX d hi) s⟩,e▸h.fr a,?_⟩;have:=h.ln;rw[e]at this;omega
def NwF.new{ps:db Nd}(h:NwF A V ps){k:Nat}(b:k<ps.length)(kk:Int)(c:dd):∀i∈lvN ps[k],∀s,¬VU V (PlL A (ps.take k) kk c) i s:=λi hi s a=>by
 have d:=h.k.nd;rw[zF7 b]at d;rcases a with a|e
 .exact h.fr i (qX (zUv b) hi) s a
 .exact(zUe.1 d).2.2 i (zL0 e).1 i (zUu _ hi) rfl
def NwF.at_{ps:db Nd}(h:NwF A V ps){k:Nat}(b:k<ps.length)(kk:Int)(c:dd):Nw A (VU V (PlL A (ps.take k) kk c)) ps[k]:=by
 have a:=h.k.at_ b;exact⟨a.sp,a.ok,a.nd,a.rg,a.ln,λ_=>h.new b kk c⟩
def Nw.leaf{V':PV}{x:Nd}(h:Nw A V x)(a:x.kind=0):Nw A V' x:=⟨h.sp,h.ok,h.nd,h.rg,h.ln,λe=>absurd a e⟩
def xz{x:Nd}(a:x.kind=0):x.tok∈lvN x:=by
 cases x with
 |mk k p l=>
  obtain rfl:k=0:=a;show p∈(if(0:Int)=0 then[p]else lvL l);rw[if_pos rfl];exact zUJ.2 rfl
end
def PlD(A:db dw)(x:Nd):PV:=λi s=>PlN A x false i s/\i≠dnN A x
abbrev St5(A:db dw)(F M:MT)(V0 V W:PV)(q:WS)(r:db LT1)(a:WS):Prop:=Inw A F M V0 (VU V W) a/\∃b,a.2.2.1=b::r/\Kpt V q a
def Kpt.rfl{V:PV}{q:WS}:Kpt V q q:=λ_ _ _=>Eq.refl _
def Kpt.tr{V W:PV}{q a b:WS}(h:Kpt V q a)(e:Kpt W a b)(g:∀i s,V i s->W i s):Kpt V q b:=λi s d=>(e i s (g i s d)).trans (h i s d)
structure Wp(A:List TokT)(m:Nat)(p:WC):Prop where
 h68:∀F M V0 V q y r x,Inw A F M V0 V q->q.2.2.1=y::r->Nw A V x->x.kind≠2->x.kind≠10->3*sz x+2<m ->
  ∃o q',p.c68 (x,()) q=some (((),o),q')/\St5 A F M V0 V (PlX A x) q r q'/\(x.kind=11->∃lv,o=some (some lv)/\LvOk A (VU V (PlX A x)) q' lv)
 h48:∀F M V0 V q y r x,Inw A F M V0 V q->q.2.2.1=y::r->NwK A V x.kids->(∀k∈x.kids,k.kind≠2/\k.kind≠10)->x.kids.length<=4000->3*sz x<m ->
  ∃q',p.c48 (x,()) q=some ((),q')/\St5 A F M V0 V (PlK A x.kids) q r q'
 h99:∀F M V0 V q y r x,Inw A F M V0 V q->q.2.2.1=y::r->Nw A V x->x.kind=4->3*sz x+1<m->∃q',p.c99 (x,()) q=some ((),q')/\St5 A F M V0 V (PlX A x) q r q'
 h100:∀F M V0 V q y r x,Inw A F M V0 V q->q.2.2.1=y::r->Nw A V x->x.kind=5\/x.kind=6->3*sz x+1<m->∃q',p.c100 (x,()) q=some ((),q')/\St5 A F M V0 V (PlX A x) q r q'
 h101:∀F M V0 V q y r x,Inw A F M V0 V q->q.2.2.1=y::r->Nw A V x->x.kind=7->3*sz x+1<m->∃q',p.c101 (x,()) q=some ((),q')/\St5 A F M V0 V (PlX A x) q r q'
 h103:∀F M V0 V q y r x,Inw A F M V0 V q->q.2.2.1=y::r->Nw A V x->x.kind=10->3*sz x+1<m ->
  ∃o q',p.c103 (x,()) q=some (((dnN A x,()),o),q')/\St5 A F M V0 V (PlD A x) q r q'/\(FnD A x->∃lv,o=some (some lv)/\LvOk A (VU V (PlD A x)) q' lv)
 h105:∀F M V0 V q y r x,Inw A F M V0 V q->q.2.2.1=y::r->Nw A V x->(gk x.kind=true\/x.kind=28\/x.kind=29\/x.kind=40\/x.kind=46)->3*sz x+1<m->∃q',p.c105 (x,()) q=some ((),q')/\St5 A F M V0 V (PlX A x) q r q'
def Ro{ρ:Type}(o:da ρ)(Q:ρ->Prop):Prop:=∃v,o=some v/\Q v
section
variable{ρ α:Type}{Q:ρ->Prop}{c:dd}{t f:da ρ}
def Ro_t(h:c=true)(a:Ro t Q):Ro (cond c t f) Q:=by rw[h];exact a
def Ro_f(h:c=false)(a:Ro f Q):Ro (cond c t f) Q:=by rw[h];exact a
def Ro_c(a:c=true->Ro t Q)(b:c=false->Ro f Q):Ro (cond c t f) Q:=by
 cases c
 .exact b rfl
 .exact a rfl
def Ro_b{X:da α}{v:α}{G:α->da ρ}(h:X=some v)(a:Ro (G v) Q):Ro (Option.bind X G) Q:=by subst h;exact a
def Ro_i{σ:Type}{F:(σ->da ρ)->σ->da ρ}(I:σ->Prop)(μ:σ->Nat)(step:∀(rec:σ->da ρ) s,I s->(∀s',I s'->μ s'<μ s->Ro (rec s') Q)->Ro (F rec s) Q)(n:Nat)(s:σ)(h:I s)(a:μ s<n):Ro (iter n F s) Q:=
 zCp (λo=>Ro o Q) I μ step n s h a
end
def zJ(n:Nat):eqN n n=true:=by unfold eqN;simp
def jc{k n:Nat}(h:k<n):inB (k:Int) n=true:=by unfold inB;simp;omega
def zAe{a b:Int}(h:a<b):ilt a b=true:=zUg h
def zAc{a b:Int}(h:b<=a):ilt a b=false:=zUh dM
def zBs{k:Nat}(h:k<=100000):iadd .i64 (k:Int) 1=((k+1:Nat):Int):=by unfold iadd;rw[IntWalk.i64_in _ dM];omega
def zAR{l:db Nd}{k:Nat}(h:k<l.length):List.getD l (Int.toNat (k:Int)) xC=l[k]:=by
 rw[zU3,zUV,zUj h];rfl
def zBS{β:Type}{o:da (da ((WkT×dc)×β))}{q:WS}{v:β}(h:o=some (some (wO q,v))):outW o=some (v,q):=by rw[h];rfl
section
variable{A:db dw}{m fu:Nat}{p:WC}
def w48(B:5000<fu)(C:Wp A m p):∀F M V0 V q y r x,Inw A F M V0 V q->q.2.2.1=y::r->NwK A V x.kids->(∀k∈x.kids,k.kind≠2/\k.kind≠10)->x.kids.length<=4000->3*sz x<m+1 ->
 ∃b,(mW (aa:=([.st TI.node]:LK)) (rs:=([]:LK)) (sh48 fu p.c68)) (x,()) q=some ((),b)/\St5 A F M V0 V (PlK A x.kids) q r b:=by
 intro F M V0 V q y r x D E G H P R
 suffices h:Ro (sh48 fu p.c68 (wO q) (x,())) λo=>∃b,o=some (wO b,())/\St5 A F M V0 V (PlK A x.kids) q r b by
  obtain⟨_,u,b,rfl,v⟩:=h;exact⟨b,zBS u,v⟩
 unfold sh48;refine Ro_t (zJ _) ?_;refine Ro_i (λst=>∃(k:Nat)(g:WS),st=(((k:Int),()),wO g)/\k<=x.kids.length/\St5 A F M V0 V (PlK A (x.kids.take k)) q r g) (λst=>x.kids.length-st.1.1.toNat) ?_ fu _ ⟨0,q,rfl,Nat.zero_le _,D.to (λi s=>PlK.zero i s),y,E,Kpt.rfl⟩ ey;rintro rec st ⟨k,g,rfl,I,d,w,j,z⟩ l;dsimp only[wO];by_cases a:k<x.kids.length
 .rw[zAR a,zBs dM];have n:=H _ (zUv a);have J:=qi (zUv a);have K:=zA3 x;obtain⟨o,b,u,⟨v,L,N,O⟩,_⟩:=C.h68 F M V0 _ g w r x.kids[k] d j (G.at_ a) n.1 n.2 dM;refine Ro_t (zAe ej) (Ro_t (jc a) (Ro_t (zJ _) ?_));rw[z8];refine Ro_b u (Ro_t (zJ _) ?_);exact l _ ⟨k+1,b,rfl,a,v.to (λi s=>PlK.succ a i s),L,N,z.tr O λ_ _=>.inl⟩ eI
 .have e:k=x.kids.length:=dM
  subst e;rw[zVb]at d;exact Ro_f (zAc (zVd _)) (Ro_t (zJ _) ⟨_,rfl,g,rfl,d,w,j,z⟩)
end
end
section
open Go.Al Go.Den
section
variable{A:db dw}{V:PV}{kk:Int}{c:dd}{x:Nd}
def zQT(a:x.kind=0)(b:zY A x.tok=true)(i s:Int):VU (V1 V x.tok (spk kk c)) (PlX A x) i s↔VU V (PlE A kk c x) i s:=by
 constructor
 .rintro((h|⟨rfl,rfl⟩)|h)
  .exact .inl h
  .exact .inr (.inl ⟨a,b,rfl,rfl⟩)
  .exact absurd a h.1
 .rintro(h|(⟨_,_,rfl,rfl⟩|⟨h,_⟩))
  .exact .inl (.inl h)
  .exact .inl (.inr ⟨rfl,rfl⟩)
  .exact absurd a h
def zCe(a:x.kind=0)(b:zY A x.tok=false)(i s:Int):¬PlE A kk c x i s:=by
 rintro(⟨_,h,_⟩|⟨h,_⟩)
 .rw[b]at h;cases h
 .exact h a
def zC5(a:x.kind=0)(b:zY A x.tok=true)(i s:Int):PlE A kk c x i s↔i=x.tok/\s=spk kk c:=
 ⟨λh=>h.elim (λh=>h.2.2) λh=>absurd a h.1,λh=>.inl ⟨a,b,h⟩⟩
def ckd_no(a:x.kind≠10):ckd kk c x.kind=false:=by unfold ckd;rw[zUh a];rfl
def zDe(a:x.kind≠0)(b:x.kind≠10)(i s:Int):PlE A kk c x i s↔PlX A x i s:=by
 unfold PlE PlX;rw[ckd_no b];exact⟨λh=>h.elim (λh=>absurd h.1 a) id,.inr⟩
def zCh(h:NL A x)(i s:Int):PlE A kk c x i s↔PlX A x i s:=by
 by_cases a:x.kind=0
 .exact⟨λb=>absurd b (zCe a (h.1 a) i s),λb=>absurd a b.1⟩
 .exact zDe a h.2.2 i s
def zAT:∀{ps:db Nd},NLs A ps->∀(i s:Int),PlL A ps kk c i s↔PlK A ps i s
 |[],_,i,s=>⟨λh=>h.elim,λ⟨_,h,_⟩=>dU⟩
 |x::r,h,i,s=>by
  show(PlE A kk c x i s\/PlL A r kk c i s)↔_;rw[zCh (h x zUz),zAT λy a=>h y (zUW _ a)];constructor
  .rintro(h|⟨y,a,h⟩)
   .exact⟨x,zUz,h⟩
   .exact⟨y,zUW _ a,h⟩
  .rintro⟨y,a,b⟩;rcases zUG.1 a with e|a
   .exact .inl (e▸b)
   .exact .inr ⟨y,a,b⟩
end
section
variable{A:db dw}{m fu:Nat}{p:WC}
def w99(Y:5000<fu)(K:Wp A m p):∀F M v V q y r x,Inw A F M v V q->q.2.2.1=y::r->Nw A V x->x.kind=4->3*sz x+1<m+1 ->
 ∃g,(mW (aa:=([.st TI.node]:LK)) (rs:=([]:LK)) (sh99 fu (c67w fu) p.c68 c125)) (x,()) q=some ((),g)/\St5 A F M v V (PlX A x) q r g:=by
 intro F M v V q y r x Z hh T L hm;have U:x.kind≠0:=by rw[L];decide
 have G:=T.kids U;have N:=(jy T.sp U).1.2.2.1 L;have ab:=zA3 x
 suffices h:Ro (sh99 fu (c67w fu) p.c68 c125 (wO q) (x,())) λo=>∃g,o=some (wO g,())/\St5 A F M v V (PlX A x) q r g by
  obtain⟨_,w,g,rfl,z⟩:=h;exact⟨g,zBS w,z⟩
 unfold sh99;refine Ro_t (zJ _) ?_;refine Ro_i (λst=>∃(k:Nat)(B:WS),st=(((k:Int),()),wO B)/\k<=x.kids.length/\St5 A F M v V (PlL A (x.kids.take k) 4 false) q r B) (λst=>x.kids.length-st.1.1.toNat) ?_ fu _ ⟨0,q,rfl,Nat.zero_le _,Z.to (λi s=>PlL.zero i s),y,hh,Kpt.rfl⟩ (by have:=G.len;show x.kids.length-0<fu;omega);rintro rec st ⟨k,B,rfl,ac,j,H,l,I⟩ n;dsimp only[wO];have W:=G.len;by_cases a:k<x.kids.length
 .rw[zAR a,zBs dM];have b:=N _ (zUv a);have O:=qi (zUv a);have t:=G.at_ a 4 false;have u:x.kids.length-(k+1)<x.kids.length-k:=dM
  refine Ro_t (zAe ej) (Ro_t (jc a) ?_);rw[z8];generalize f:x.kids[k]=kid at b O t ⊢;refine Ro_c (λP=>?_) λP=>?_
  .have d:kid.kind=0:=zUw (by rw[<-yr];exact P);obtain⟨g0,X⟩:=t.rg _ (xz d);refine Ro_t (zJ _) (Ro_b (j.named fu g0 X) ?_);refine Ro_c (λJ=>?_) λJ=>?_
   .obtain⟨q1,e1,Q,R,S⟩:=j.plain g0 X J (λs=>by have:=G.new a 4 false;rw[f]at this;exact this _ (xz d) s) (by rw[l];exact List.cons_ne_nil _ _);refine Ro_t (zJ _) (Ro_b e1 (Ro_t (zJ _) ?_));obtain⟨o,g,w,⟨z,C,D,E⟩,_⟩:=K.h68 F M v _ q1 H r kid Q (R.trans l) (t.leaf d) b.1 b.2 dM;refine Ro_b w (Ro_t (zJ _) ?_);exact n _ ⟨k+1,g,rfl,a,z.to (λi s=>(zQT (kk:=4) (c:=false) d J i s).trans (f▸PlL.succ a i s)),C,D,(I.tr S λ_ _=>.inl).tr E λ_ _ h=>.inl (.inl h)⟩ u
   .obtain⟨o,g,w,⟨z,C,D,E⟩,_⟩:=K.h68 F M v _ B H r kid j l t b.1 b.2 dM;refine Ro_t (zJ _) (Ro_b w (Ro_t (zJ _) ?_));exact n _ ⟨k+1,g,rfl,a,z.to (λi s=>((zKQ (zLD d) i s).symm.trans (zKQ (zCe (kk:=4) (c:=false) d J) i s)).trans (f▸PlL.succ a i s)),C,D,I.tr E λ_ _=>.inl⟩ u
  .have d:kid.kind≠0:=zVj (by rw[<-yr];exact P);obtain⟨o,g,w,⟨z,C,D,E⟩,_⟩:=K.h68 F M v _ B H r kid j l t b.1 b.2 dM;refine Ro_t (zJ _) (Ro_b w (Ro_t (zJ _) ?_));exact n _ ⟨k+1,g,rfl,a,z.to (λi s=>(or_congr zVD (zDe (kk:=4) (c:=false) d b.2 i s).symm).trans (f▸PlL.succ a i s)),C,D,I.tr E λ_ _=>.inl⟩ u
 .have e:k=x.kids.length:=dM
  subst e;rw[zVb]at j;refine Ro_f (zAc (zVd _)) (Ro_t (zJ _) ⟨_,rfl,B,rfl,j.to (λi s=>or_congr zVD ?_),H,l,I⟩);show _↔x.kind≠0/\PlN A x false i s;rw[qf,L];exact⟨λh=>⟨dP,h⟩,λh=>h.2⟩
def w100(Y:Wp A m p):∀F M v V q y r x,Inw A F M v V q->q.2.2.1=y::r->Nw A V x->x.kind=5\/x.kind=6->3*sz x+1<m+1 ->
 ∃j,(mW (aa:=([.st TI.node]:LK)) (rs:=([]:LK)) (sh100 fu p.c48 (c67w fu) c126)) (x,()) q=some ((),j)/\St5 A F M v V (PlX A x) q r j:=by
 intro F M v V q y r x J Z hN K hm;have L:x.kind≠0:=by rcases K with h|h<;>rw[h]<;>decide
 have w:spk x.kind false=2:=by unfold spk;rw[if_pos K]
 have g:=hN.kids L;obtain⟨a,b,rs,f,ha,l,hr⟩:=(jy hN.sp L).1.2.2.2.1 K;have ab:1<x.kids.length:=by rw[f];simp
 have B:b∈x.kids:=by rw[f];simp
 obtain⟨g0,g1⟩:=g.k.rg _ (qX B (xz l));have N:=g.fr _ (qX B (xz l));have C:∀k∈x.kids,k.kind≠2/\k.kind≠10:=λk d=>by
  rw[f]at d;rcases zUG.1 d with rfl|d
  .exact ha.2
  .rcases zUG.1 d with rfl|d
   .rw[l];decide
   .exact(hr k d).2
 have D:=g.k.nd;rw[f]at D;have n:(lvN a++(lvN b++lvL rs)).Nodup:=D;have O:NwK A (V1 V b.tok 2) x.kids:=by
  refine⟨g.k.sp,g.k.ok,g.k.nd,g.k.rg,g.k.ln,λk d E i hi s P=>?_⟩;rcases P with P|⟨rfl,rfl⟩
  .exact g.k.fr k d E i hi s P
  .rw[f]at d;rcases zUG.1 d with rfl|d
   .exact(zUe.1 n).2.2 _ hi _ (zUu _ (xz l)) rfl
   .rcases zUG.1 d with rfl|d
    .exact E l
    .exact(zUe.1 (zUe.1 n).2.1).2.2 _ (xz l) _ (qX d hi) rfl
 have hX:∀i s,PlX A x i s↔PlE A x.kind false b i s\/PlK A x.kids i s:=λi s=>by
  have t:PlX A x i s↔PlL A x.kids x.kind false i s:=⟨λh=>(qf x false i s).1 h.2,λh=>⟨L,(qf x false i s).2 h⟩⟩;rw[t,f];show(PlE A x.kind false a i s\/(PlE A x.kind false b i s\/PlL A rs x.kind false i s))↔_;rw[zCh ha,zAT hr];constructor
  .rintro(h|h|⟨z,u,h⟩)
   .exact .inr ⟨a,dQ,h⟩
   .exact .inl h
   .exact .inr ⟨z,by simp[u],h⟩
  .rintro(h|⟨z,u,h⟩)
   .exact .inr (.inl h)
   .rcases zUG.1 u with rfl|u
    .exact .inl h
    .rcases zUG.1 u with rfl|u
     .exact absurd l h.1
     .exact .inr (.inr ⟨z,u,h⟩)
 suffices h:Ro (sh100 fu p.c48 (c67w fu) c126 (wO q) (x,())) λo=>∃j,o=some (wO j,())/\St5 A F M v V (PlX A x) q r j by
  obtain⟨_,G,j,rfl,H⟩:=h;exact⟨j,zBS G,H⟩
 unfold sh100;dsimp only[wO];have eg:List.getD x.kids 1 xC=b:=by rw[f];rfl
 rw[eg,z8];refine Ro_t (zCi dM dM) (Ro_t (zJ _) (Ro_b (J.named fu g0 g1) ?_));refine Ro_c (λI=>?_) λI=>?_
 .obtain⟨q1,y1,t,Q,R,S⟩:=J.tag g0 g1 I N (ilt 2 (lenI x.kids)) Z;refine Ro_t (zJ _) (Ro_b t (Ro_t (zJ _) ?_));obtain⟨j,G,H,T,U,W⟩:=Y.h48 F M v _ q1 y1 r x Q R O C g.len dM;refine Ro_b G (Ro_t (zJ _) ⟨_,rfl,j,rfl,H.to (λi s=>?_),T,U,S.tr W λ_ _ h=>.inl h⟩);show(V1 V b.tok 2 i s\/PlK A x.kids i s)↔V i s\/PlX A x i s;rw[hX i s];have hE:PlE A x.kind false b i s↔(i=b.tok/\s=2):=by
   constructor
   .rintro(⟨_,_,t,X⟩|⟨e,_⟩)
    .exact⟨t,X.trans w⟩
    .exact absurd l e
   .rintro⟨t,X⟩;exact .inl ⟨l,I,t,X.trans w.symm⟩
  rw[hE,<-or_assoc];exact zVD
 .obtain⟨j,G,H,T,U,W⟩:=Y.h48 F M v _ q y r x J Z g.k C g.len dM;refine Ro_t (zJ _) (Ro_b G (Ro_t (zJ _) ⟨_,rfl,j,rfl,H.to (λi s=>?_),T,U,W⟩));show(V i s\/PlK A x.kids i s)↔V i s\/PlX A x i s;rw[hX i s];exact⟨λh=>h.imp id .inr,λh=>h.imp id λh=>h.resolve_left (zCe l I i s)⟩
def w105(hp:Wp A m p):∀F M Q V q y r x,Inw A F M Q V q->q.2.2.1=y::r->Nw A V x->(gk x.kind=true\/x.kind=28\/x.kind=29\/x.kind=40\/x.kind=46)->3*sz x+1<m+1 ->
 ∃w,(mW (aa:=([.st TI.node]:LK)) (rs:=([]:LK)) (sh105 fu c46 p.c48 p.c68 c125 (zAB fu))) (x,()) q=some ((),w)/\St5 A F M Q V (PlX A x) q r w:=by
 intro F M Q V q y r x C Y hN hk hm;have h0:x.kind≠0:=by
  rcases hk with h|h|h|h|h
  .exact(gk_ne h).1
  all_goals rw[h];decide
 have P:=hN.kids h0;have hS:=(jy hN.sp h0).1;have af:=zA3 x;have D:∀i s,PlX A x i s↔PlL A x.kids x.kind false i s:=λi s=>⟨λh=>(qf x false i s).1 h.2,λh=>⟨h0,(qf x false i s).2 h⟩⟩
 suffices h:Ro (sh105 fu c46 p.c48 p.c68 c125 (zAB fu) (wO q) (x,())) λo=>∃w,o=some (wO w,())/\St5 A F M Q V (PlX A x) q r w by
  obtain⟨_,f,w,rfl,R⟩:=h;exact⟨w,zBS f,R⟩
 unfold sh105;dsimp only[wO];rw[z8];simp only[z8,zIR];have L:∀{z:Nd},z∈x.kids->z.kind=0->(0<=z.tok/\z.tok<(A.length:Int))/\∀s,¬V z.tok s:=λ{z} Z ab=>⟨P.k.rg _ (qX Z (xz ab)),P.fr _ (qX Z (xz ab))⟩;refine Ro_c (λS=>?_) λhc40=>?_
 .have g:x.kind=40:=zUw eQ;obtain⟨a,e,E,N⟩:=hS.2.2.2.2.2.2.2.2.2.2.2.1 g;obtain⟨⟨g0,J⟩,gf⟩:=L (z:=a) er E;obtain⟨K,B,t,u,v⟩:=C.plain g0 J N gf (by rw[Y];exact List.cons_ne_nil _ _);have T:List.getD x.kids 0 xC=a:=by rw[e];rfl
  rw[T];refine Ro_t eo (Ro_t (zJ _) (Ro_b B (Ro_t (zJ _) ⟨_,rfl,K,rfl,t.to (λi s=>?_),y,u.trans Y,v⟩)));show(V i s\/(i=a.tok/\s=1))↔V i s\/PlX A x i s;rw[D,e,g];show _↔V i s\/(PlE A 40 false a i s\/False);rw[zVL,zC5 E N];exact zVD
 refine Ro_c (λS=>?_) λhc46=>?_
 .have g:x.kind=46:=zUw eQ;obtain⟨a,b,d,e,O,hb,l,j,n⟩:=hS.2.2.2.2.2.2.2.2.2.2.2.2 g;obtain⟨⟨g0,J⟩,gf⟩:=L (z:=d) er j;obtain⟨K,B,t,u,v⟩:=C.spk3 fu g0 J n gf (s:=3) (.inl ⟨rfl,rfl⟩);replace B:zAB fu ((d.tok,3,mgZ q.2.2.2.1 (tx A d.tok),()):Int×Int×Int×dc) q=some ((),K):=by rw[C.fld];exact B
  have ad:sz a<=(allK x.kids).length:=qi er;have G:=P.k.nd;rw[e]at G;have H:(lvN a++(lvN b++(lvN d++[]))).Nodup:=G;have U:Nw A (V1 V d.tok 3) a:=by
   have f:=P.at_ (k:=0) er 0 false;have ea:x.kids[0]' er=a:=by simp[e]
   rw[ea]at f;refine⟨f.sp,f.ok,f.nd,f.rg,f.ln,λZ i hi s W=>?_⟩;rcases W with W|⟨rfl,rfl⟩
   .exact f.fr Z i hi s (.inl W)
   .exact(zUe.1 H).2.2 _ hi _ (zU8 _ (zUu _ (xz j))) rfl
  obtain⟨o,w,f,⟨R,y2,h3,h4⟩,_⟩:=hp.h68 F M Q _ K y r a t (u.trans Y) U O.2.1 O.2.2 dM;have T:List.getD x.kids 2 xC=d:=by rw[e];rfl
  have X:List.getD x.kids 0 xC=a:=by rw[e];rfl
  rw[T,X];refine Ro_t eo (Ro_t (zJ _) (Ro_b (C.text g0 J) (Ro_t (zJ _) ?_)));refine Ro_b B (Ro_t eo (Ro_t (zJ _) (Ro_b f (Ro_t (zJ _) ⟨_,rfl,w,rfl,R.to (λi s=>?_),y2,h3,v.tr h4 λ_ _ h=>.inl h⟩))));show((V i s\/(i=d.tok/\s=3))\/PlX A a i s)↔V i s\/PlX A x i s;rw[D,e,g];show _↔V i s\/(PlE A 46 false a i s\/(PlE A 46 false b i s\/(PlE A 46 false d i s\/False)));rw[zCh O,zC5 j n,zVL,or_assoc];have I:=zCe (kk:=46) (c:=false) l (hb.1 l) i s;exact⟨λh=>h.imp id λh=>h.elim (λh=>.inr (.inr h)) .inl,λh=>h.imp id λh=>h.elim .inr λh=>h.elim (λh=>absurd h I) .inl⟩
 refine Ro_c (λS=>?_) λhc29=>?_
 .have g:x.kind=29:=zUw eQ;obtain⟨d,b,a,e,⟨j,n⟩,hb,l,O⟩:=hS.2.2.2.2.2.2.2.2.2.2.1 g;obtain⟨⟨g0,J⟩,gf⟩:=L (z:=d) er j;obtain⟨K,B,t,u,v⟩:=C.spk3 fu g0 J n gf (s:=4) (.inr ⟨rfl,rfl⟩);replace B:zAB fu ((d.tok,4,mgZ q.2.2.2.2 (tx A d.tok),()):Int×Int×Int×dc) q=some ((),K):=by rw[C.mrk];exact B
  have ad:sz a<=(allK x.kids).length:=qi er;have G:=P.k.nd;rw[e]at G;have H:(lvN d++(lvN b++(lvN a++[]))).Nodup:=G;have U:Nw A (V1 V d.tok 4) a:=by
   have f:=P.k.at_ (k:=2) er;have ea:x.kids[2]' er=a:=by simp[e]
   rw[ea]at f;refine⟨f.sp,f.ok,f.nd,f.rg,f.ln,λZ i hi s W=>?_⟩;rcases W with W|⟨rfl,rfl⟩
   .exact f.fr Z i hi s (.inl W)
   .exact(zUe.1 H).2.2 _ (xz j) _ (zU8 _ (zUu _ hi)) rfl
  obtain⟨o,w,f,⟨R,y2,h3,h4⟩,_⟩:=hp.h68 F M Q _ K y r a t (u.trans Y) U O.2.1 O.2.2 dM;have T:List.getD x.kids 2 xC=a:=by rw[e];rfl
  have X:List.getD x.kids 0 xC=d:=by rw[e];rfl
  rw[T,X];refine Ro_t eo (Ro_t eo (Ro_t (zJ _) (Ro_b (C.text g0 J) (Ro_t (zJ _) ?_))));refine Ro_b B (Ro_t eo (Ro_t (zJ _) (Ro_b f (Ro_t (zJ _) ⟨_,rfl,w,rfl,R.to (λi s=>?_),y2,h3,v.tr h4 λ_ _ h=>.inl h⟩))));show((V i s\/(i=d.tok/\s=4))\/PlX A a i s)↔V i s\/PlX A x i s;rw[D,e,g];show _↔V i s\/(PlE A 29 false d i s\/(PlE A 29 false b i s\/(PlE A 29 false a i s\/False)));rw[zCh O,zC5 j n,zVL,or_assoc];have I:=zCe (kk:=29) (c:=false) l (hb.1 l) i s;exact⟨λh=>h.imp id λh=>h.imp id .inr,λh=>h.imp id λh=>h.imp id λh=>h.resolve_left I⟩
 refine Ro_c (λS=>?_) λhc28=>?_
 .have g:x.kind=28:=zUw eQ;obtain⟨a,d,b,e,O,E,⟨j,n⟩,hb,l⟩:=hS.2.2.2.2.2.2.2.2.2.1 g;obtain⟨⟨g0,J⟩,gf⟩:=L (z:=d) er j;obtain⟨K,B,t,u,v⟩:=C.spk3 fu g0 J n gf (s:=4) (.inr ⟨rfl,rfl⟩);replace B:zAB fu ((d.tok,4,mgZ q.2.2.2.2 (tx A d.tok),()):Int×Int×Int×dc) q=some ((),K):=by rw[C.mrk];exact B
  have T:List.getD x.kids 1 xC=d:=by rw[e];rfl
  rw[T];refine Ro_t eo (Ro_t eo (Ro_t (zJ _) (Ro_b (C.text g0 J) (Ro_t (zJ _) ?_))));refine Ro_b B (Ro_t (zJ _) ⟨_,rfl,K,rfl,t.to (λi s=>?_),y,u.trans Y,v⟩);show(V i s\/(i=d.tok/\s=4))↔V i s\/PlX A x i s;rw[D,e,g];show _↔V i s\/(PlE A 28 false a i s\/(PlE A 28 false d i s\/(PlE A 28 false b i s\/False)));rw[zC5 j n,zVL];have N:=zCe (kk:=28) (c:=false) E (O.1 E) i s;have I:=zCe (kk:=28) (c:=false) l (hb.1 l) i s;exact⟨λh=>h.imp id λh=>.inr (.inl h),λh=>h.imp id λh=>(h.resolve_left N).resolve_right I⟩
 have ae:gk x.kind=true:=by
  rcases hk with h|h|h|h|h
  .exact h
  all_goals exfalso
  .rw[h]at hc28;cases hc28
  .rw[h]at hc29;cases hc29
  .rw[h]at hc40;cases hc40
  .rw[h]at hc46;cases hc46
 have ac:=hS.1 ae;obtain⟨w,f,R,y2,h3,h4⟩:=hp.h48 F M Q _ q y r x C Y P.k (λk hk=>(ac k hk).2) P.len dM;refine Ro_t (zJ _) (Ro_b f (Ro_t (zJ _) ⟨_,rfl,w,rfl,R.to (λi s=>?_),y2,h3,h4⟩));show(V i s\/PlK A x.kids i s)↔V i s\/PlX A x i s;rw[D,zAT ac]
end
end
section
open Go.Al Go.Den
structure Dnf(A:List TokT)(x:Nd):Prop where
 eqv:∀c i s,i≠dnN A x->(PlN A x c i s↔PlN A x false i s)
 at_:0<=dnN A x->dnN A x∈lvN x/\zY A (dnN A x)=true/\∀c s,(PlN A x c (dnN A x) s↔s=spk 10 c)
 neg:dnN A x = -1\/0<=dnN A x
section
variable{A:db dw}
def zM6(c:dd):ckd 10 c 10=c:=by cases c<;>rfl
def zH0{ps:db Nd}{i s:Int}(h:PlK A ps i s):i∈lvL ps:=by
 obtain⟨x,b,a,c⟩:=h;exact qX b (zBC a c).1
def zNn:∀(n:Nat)(x:Nd),sz x<=n->Sp A x->x.kind=10->(lvN x).Nodup->(∀i∈lvN x,0<=i)->Dnf A x:=by
 intro n
 induction n with
 |zero=>intro x L;have:=zA3 x;omega
 |succ n M=>
  intro x L N O y B;obtain⟨k,p,ps⟩:=x;obtain rfl:k=10:=O;have H:(Nd.mk 10 p ps).kind≠0:=by show(10:Int)≠0;decide
  have el:lvN (Nd.mk 10 p ps)=lvL ps:=zAh H;obtain⟨C,D⟩:=jy N H;rcases C.2.2.2.2.2.2.2.1 rfl with j|⟨b,z,a,q,I,t,u⟩
  .replace j:NLs A ps:=j;have v:dnN A (Nd.mk 10 p ps) = -1:=zI6 _ j;refine⟨λc i s _=>?_,λh=>by rw[v]at h;omega,.inl v⟩;show PlL A ps 10 c i s↔PlL A ps 10 false i s;rw[zAT j,zAT j]
  .replace q:ps=b++z::a:=q;subst q;have v:=zDQ (x:=z) (k:=10) (p:=p) I t;have g:∀c i s,PlN A (Nd.mk 10 p (b++z::a)) c i s↔(PlK A b i s\/(PlE A 10 c z i s\/PlK A a i s)):=λc i s=>by
    show PlL A (b++z::a) 10 c i s↔_;rw[zEV,zAT I];show _\/(PlE A 10 c z i s\/PlL A a 10 c i s)↔_;rw[zAT t]
   have r:lvN (Nd.mk 10 p (b++z::a))=lvL b++(lvN z++lvL a):=by rw[el,zBf];rfl
   rw[r]at y B;have o:∀{i:Int},i∈lvN z->(∀s,¬PlK A b i s)/\∀s,¬PlK A a i s:=λ{i} hi=>⟨λs h=>(zUe.1 y).2.2 i (zH0 h) i (zUu _ hi) rfl,λs h=>(zUe.1 (zUe.1 y).2.1).2.2 i hi i (zH0 h) rfl⟩;rcases u with⟨d,l⟩|f
   .have e:dnN A (Nd.mk 10 p (b++z::a))=z.tok:=by rw[v,if_neg (by rw[d];decide),if_pos ⟨d,l⟩]
    refine⟨λc i s hi=>?_,λh=>?_,.inr ?_⟩
    .rw[e]at hi;rw[g,g,zC5 d l,zC5 d l];exact or_congr zVD (or_congr ⟨λh=>absurd h.1 hi,λh=>absurd h.1 hi⟩ zVD)
    .rw[e];obtain⟨E,F⟩:=o (xz d);refine⟨by rw[r];exact zU8 _ (zUu _ (xz d)),l,λc s=>?_⟩;rw[g,zC5 d l];exact⟨λh=>(h.resolve_left (E s)).elim (λh=>h.2) λh=>absurd h (F s),λh=>.inr (.inl ⟨rfl,h⟩)⟩
    .rw[e];exact B _ (zU8 _ (zUu _ (xz d)))
   .have e:dnN A (Nd.mk 10 p (b++z::a))=dnN A z:=by rw[v,if_pos f]
    have d:z.kind≠0:=by rw[f];decide
    have w:sz z<=n:=by
     have J:=zA3 (Nd.mk 10 p (b++z::a));have R:sz z<=(allK (b++z::a)).length:=qi dQ;replace J:sz (Nd.mk 10 p (b++z::a))=(allK (b++z::a)).length+1:=J;omega
    have u:=M z w (D z (by show z∈b++z::a;simp)) f (zUe.1 (zUe.1 y).2.1).1 λi hi=>B i (zU8 _ (zUu _ hi));have G:∀c i s,PlE A 10 c z i s↔PlN A z c i s:=λc i s=>by
     unfold PlE;rw[f,zM6];exact⟨λh=>h.elim (λh=>absurd h.1 dP) λh=>h.2,λh=>.inr ⟨dP,h⟩⟩
    refine⟨λc i s hi=>?_,λh=>?_,by rw[e];exact u.neg⟩
    .rw[e]at hi;rw[g,g,G,G,u.eqv c i s hi]
    .rw[e]at h ⊢;obtain⟨K,P,Q⟩:=u.at_ h;obtain⟨E,F⟩:=o K;refine⟨by rw[r];exact zU8 _ (zUu _ K),P,λc s=>?_⟩;rw[g,G,Q c s];exact⟨λh=>(h.resolve_left (E s)).resolve_right (F s),λh=>.inr (.inl h)⟩
def Nw.dn{V:PV}{x:Nd}(h:Nw A V x)(a:x.kind=10):Dnf A x:=zNn _ x (zUB _) h.sp a h.nd λi hi=>(h.rg i hi).1
def zDp{V:PV}{x:Nd}(h:Nw A V x)(f:x.kind=10)(c:dd)(i s:Int):PlN A x c i s↔PlD A x i s\/(0<=dnN A x/\i=dnN A x/\s=spk 10 c):=by
 have b:=h.dn f;have g:x.kind≠0:=by rw[f];decide
 by_cases hi:i=dnN A x
 .subst hi;rcases b.neg with d|d
  .constructor
   .intro a;have:=(h.rg _ (zBC g a).1).1;omega
   .rintro(a|a)
    .exact absurd rfl a.2
    .omega
  .rw[(b.at_ d).2.2 c s];exact⟨λe=>.inr ⟨d,rfl,e⟩,λa=>a.elim (λa=>absurd rfl a.2) λa=>a.2.2⟩
 .rw[b.eqv c i s hi];exact⟨λa=>.inl ⟨a,hi⟩,λa=>a.elim (λa=>a.1) λa=>absurd a.2.1 hi⟩
end
section
variable{A:db dw}{m fu:Nat}{p:WC}
def w101(ac:5000<fu)(Y:Wp A m p):∀F M u V q y r x,Inw A F M u V q->q.2.2.1=y::r->Nw A V x->x.kind=7->3*sz x+1<m+1 ->
 ∃g,(mW (aa:=([.st TI.node]:LK)) (rs:=([]:LK)) (sh101 fu c46 p.c68 p.c103 (zAB fu))) (x,()) q=some ((),g)/\St5 A F M u V (PlX A x) q r g:=by
 intro F M u V q y r x hI hh Z K hm;have h0:x.kind≠0:=by rw[K];decide
 have J:=Z.kids h0;have L:=(jy Z.sp h0).1.2.2.2.2.1 K;have ad:=zA3 x
 suffices h:Ro (sh101 fu c46 p.c68 p.c103 (zAB fu) (wO q) (x,())) λo=>∃g,o=some (wO g,())/\St5 A F M u V (PlX A x) q r g by
  obtain⟨_,D,g,rfl,N⟩:=h;exact⟨g,zBS D,N⟩
 unfold sh101;refine Ro_t (zJ _) ?_;refine Ro_i (λst=>∃(k:Nat)(C:WS),st=(((k:Int),()),wO C)/\k<=x.kids.length/\St5 A F M u V (PlL A (x.kids.take k) 7 false) q r C) (λst=>x.kids.length-st.1.1.toNat) ?_ fu _ ⟨0,q,rfl,Nat.zero_le _,hI.to (λi s=>PlL.zero i s),y,hh,Kpt.rfl⟩ (by have:=J.len;show x.kids.length-0<fu;omega);rintro rec st ⟨k,C,rfl,ae,j,O,v,P⟩ l;dsimp only[wO];have ab:=J.len;by_cases b:k<x.kids.length
 .rw[zAR b,zBs dM];have w:=L _ (zUv b);have Q:=qi (zUv b);have d:=J.at_ b 7 false;have n:x.kids.length-(k+1)<x.kids.length-k:=dM
  refine Ro_t (zAe ej) (Ro_t (jc b) ?_);simp only[z8,zIR];generalize f:x.kids[k]=kid at w Q d ⊢;refine Ro_c (λE=>?_) λE=>?_
  .have a:kid.kind≠10:=λe=>by rw[zJu e]at E;cases E
   have G:NL A kid:=w.resolve_right λh=>a h.1;obtain⟨o,g,D,⟨N,y2,h3,h4⟩,_⟩:=Y.h68 F M u _ C O r kid j v d G.2.1 a dM;refine Ro_t (zJ _) (Ro_b D (Ro_t (zJ _) ?_));exact l _ ⟨k+1,g,rfl,b,N.to (λi s=>(or_congr zVD (zCh (kk:=7) (c:=false) G i s).symm).trans (f▸PlL.succ b i s)),y2,h3,P.tr h4 λ_ _=>.inl⟩ n
  .have a:kid.kind=10:=by
    by_cases e:kid.kind=10
    .exact e
    .rw[zHC e]at E;cases E
   have H:Nm A kid:=w.resolve_left λh=>h.2.2 a;obtain⟨d1,d2,d3⟩:=(d.dn a).at_ H.2.1;obtain⟨o,q1,D,⟨z,y1,R,S⟩,_⟩:=Y.h103 F M u _ C O r kid j v d a dM;obtain⟨g0,g1⟩:=d.rg _ d1;have t:=J.new b 7 false;rw[f]at t;obtain⟨q2,B,T,U,W⟩:=z.spk3 fu g0 g1 d2 (λs I=>I.elim (λI=>t _ d1 s I) λI=>I.2 rfl) (s:=3) (.inl ⟨rfl,rfl⟩);replace B:zAB fu ((dnN A kid,3,mgZ q1.2.2.2.1 (tx A (dnN A kid)),()):Int×Int×Int×dc) q1=some ((),q2):=by rw[z.fld];exact B
   refine Ro_t (zJ _) (Ro_b D (Ro_t (zJ _) (Ro_b (z.text g0 g1) (Ro_t (zJ _) (Ro_b B (Ro_t (zJ _) ?_))))));refine l _ ⟨k+1,q2,rfl,b,T.to (λi s=>Iff.trans ?_ (f▸PlL.succ b i s)),y1,U.trans R,(P.tr S λ_ _=>.inl).tr W λ_ _ h=>.inl (.inl h)⟩ n;show((VU V (PlL A (x.kids.take k) 7 false) i s\/PlD A kid i s)\/(i=dnN A kid/\s=3))↔VU V (PlL A (x.kids.take k) 7 false) i s\/PlE A 7 false kid i s;rw[or_assoc];refine or_congr zVD ?_;unfold PlE;rw[a,show ckd 7 false 10=true from rfl,zDp d a];constructor
   .rintro(h|⟨X,B⟩)
    .exact .inr ⟨dP,.inl h⟩
    .exact .inr ⟨dP,.inr ⟨H.2.1,X,B⟩⟩
   .rintro(⟨h,_⟩|⟨_,h|⟨_,X,B⟩⟩)
    .exact absurd h dP
    .exact .inl h
    .exact .inr ⟨X,B⟩
 .have e:k=x.kids.length:=dM
  subst e;rw[zVb]at j;refine Ro_f (zAc (zVd _)) (Ro_t (zJ _) ⟨_,rfl,C,rfl,j.to (λi s=>or_congr zVD ?_),O,v,P⟩);show _↔x.kind≠0/\PlN A x false i s;rw[qf,K];exact⟨λh=>⟨dP,h⟩,λh=>h.2⟩
end
end
section
open Go.Al Go.Den
def zFR{β:Type}{o:da (da ((WkLT×dc)×β))}{q:WS}{v:β}{L:da (da LT1)}(h:o=some (some (((q.1,(q.2.1,(q.2.2.1,(q.2.2.2.1,(q.2.2.2.2,(L,())))))),()),v))):zKY o=some ((v,L),q):=by rw[h];rfl
def Eo.kept{A:db dw}{V V':PV}{q a:WS}{s:Int}{t:Str}{z:Int}(h:Eo A V q s t z)(c:Kpt V q a)(d:∀i s,V i s->V' i s):Eo A V' a s t z:=by
 rcases h with h|⟨e,f,b,g,j⟩
 .exact .inl h
 .exact .inr ⟨e,f,d _ _ b,g,(c _ _ b).trans j⟩
def LvOk.kept{A:db dw}{V V':PV}{q a:WS}{b:LT1}(h:LvOk A V q b)(c:Kpt V q a)(d:∀i s,V i s->V' i s):LvOk A V' a b:=⟨λt=>(h.1 t).kept c d,λt=>(h.2 t).kept c d⟩
def zHW{A:db dw}:∀(l:db Nd)(z:Int)(y:Nd),dnL A z (l++[y])=if y.kind=10 then dnN A y else if y.kind=0/\zY A y.tok=true then y.tok else dnL A z l
 |[],z,y=>rfl
 |a::l,z,y=>by
  show dnL A _ (l++[y])=_;rw[zHW l];rfl
def LI(A:db dw)(ps:db Nd)(k:Nat)(L:da (da LT1))(V:PV)(q:WS):Prop:=
 ∀a z w b,ps=a++z::w::b->LW A z->w.kind=11->a.length+2<=k->∃c,L=some (some c)/\LvOk A V q c
section
variable{A:db dw}{m fu:Nat}{p:WC}
def Up(ps:db Nd)(k:Nat)(a:Int)(x:Nd):Prop:=x.kind=11/\0<k/\(ps.getD (k-1) xC).kind=0/\(ps.getD (k-1) xC).tok=a
def zP6{a b:db Nd}{z:Nd}{ps:db Nd}(h:ps=a++z::b):ps.getD a.length xC=z:=by
 rw[h,zUV,zWI (zUB _),Nat.sub_self];rfl
def w103(aO:5000<fu)(hp:Wp A m p):∀F M V0 V q y r x,Inw A F M V0 V q->q.2.2.1=y::r->Nw A V x->x.kind=10->3*sz x+1<m+1 ->
 ∃o d,(mWt (aa:=([.st TI.node]:LK)) (rs:=([.int .i64]:LK)) (sh103 fu (c67w fu) p.c68 p.c103)) (x,()) q=some (((dnN A x,()),o),d)/\St5 A F M V0 V (PlD A x) q r d/\(FnD A x->∃C,o=some (some C)/\LvOk A (VU V (PlD A x)) d C):=by
 intro F M V0 V q y r x hI hh hN hk hm;have h0:x.kind≠0:=by rw[hk];decide
 have hF:=hN.kids h0;have ab:=(jy hN.sp h0).1.2.2.2.2.2.2.2.1 hk;have aP:=zA3 x;have ax:dnN A x=dnL A (-1) x.kids:=by cases x;rfl
 have ay:=hN.dn hk;have al:∀z∈x.kids,z.kind=2->False:=λz c g=>by
  rcases ab with h|⟨a,w,v,f,N,I,n⟩
  .exact(h z c).2.1 g
  .rw[f]at c;rcases zUa.1 c with c|c
   .exact(N z c).2.1 g
   .rcases zUG.1 c with rfl|c
    .rcases n with n|n
     .rw[n.1]at g;cases g
     .rw[n]at g;cases g
    .exact(I z c).2.1 g
 have U:∀z∈x.kids,z.kind=10->dnN A z=dnN A x:=λz c g=>by
  rcases ab with h|⟨a,w,v,f,N,I,n⟩
  .exact absurd g (h z c).2.2
  .have e:dnN A x=if w.kind=10 then dnN A w else if w.kind=0/\zY A w.tok=true then w.tok else -1:=by
    obtain⟨k,t,l⟩:=x;replace f:l=a++w::v:=f;subst f;exact zDQ N I
   rw[f]at c;rcases zUa.1 c with c|c
   .exact absurd g (N z c).2.2
   .rcases zUG.1 c with rfl|c
    .rw[e,if_pos g]
    .exact absurd g (I z c).2.2
 have am:∀z∈x.kids,LW A z->z.tok=dnN A x:=λz c g=>by
  rcases ab with h|⟨a,w,v,f,N,I,n⟩
  .have:=(h z c).1 g.1;rw[g.2]at this;cases this
  .have e:dnN A x=if w.kind=10 then dnN A w else if w.kind=0/\zY A w.tok=true then w.tok else -1:=by
    obtain⟨k,t,l⟩:=x;replace f:l=a++w::v:=f;subst f;exact zDQ N I
   rw[f]at c;rcases zUa.1 c with c|c
   .have:=(N z c).1 g.1;rw[g.2]at this;cases this
   .rcases zUG.1 c with rfl|c
    .rw[e,if_neg (by rw[g.1];decide),if_pos (show z.kind=0/\zY A z.tok=true from g)]
    .have:=(I z c).1 g.1;rw[g.2]at this;cases this
 have ag:∀z∈x.kids,z.kind≠0->z.kind≠10->dnN A x∉lvN z:=λz c J an hm=>by
  rcases ay.neg with aJ|ao
  .have:=(hN.rg _ (by rw[zAh h0];exact qX c hm)).1;omega
  .rcases ab with h|⟨a,w,v,f,N,I,n⟩
   .have:=zI6 (-1) h;omega
   .have hw:dnN A x∈lvN w:=by
     have O:w∈x.kids:=by rw[f];simp
     rcases n with n|n
     .rw[<-am w O n];exact xz n.1
     .rw[<-U w O n];have aK:=qi O;refine((zNn _ w (zUB _) (hF.k.sp w O) n ?_ λi hi=>(hF.k.rg i (qX O hi)).1).at_ (by rw[U w O n];exact ao)).1;obtain⟨j,hj,rfl⟩:=List.getElem_of_mem O;exact(hF.at_ hj 0 false).nd
    have ap:=hF.k.nd;rw[f,zBf]at ap;rw[f]at c;have af:(lvL a++(lvN w++lvL v)).Nodup:=ap;rcases zUa.1 c with c|c
    .exact(zUe.1 af).2.2 _ (qX c hm) _ (zUu _ hw) rfl
    .rcases zUG.1 c with rfl|c
     .rcases n with n|n
      .exact J n.1
      .exact an n
     .exact(zUe.1 (zUe.1 af).2.1).2.2 _ hw _ (qX c hm) rfl
 obtain⟨D,ac⟩:∃D:Nat->PV,D=λk i s=>PlL A (x.kids.take k) 10 false i s/\i≠dnN A x:=⟨_,rfl⟩
 suffices h:Ro (sh103 fu (c67w fu) p.c68 p.c103 (wO q) (x,())) λo=>∃L d,o=some (((d.1,(d.2.1,(d.2.2.1,(d.2.2.2.1,(d.2.2.2.2,(L,())))))),()),(dnN A x,()))/\St5 A F M V0 V (PlD A x) q r d/\(FnD A x->∃C,L=some (some C)/\LvOk A (VU V (PlD A x)) d C)by
  obtain⟨_,N,L,d,rfl,g⟩:=h;exact⟨L,d,zFR N,g⟩
 unfold sh103;refine Ro_t (zJ _) ?_;refine Ro_i (λst=>∃(k:Nat)(L:da (da LT1))(T:WS),st=((dnL A (-1) (x.kids.take k),(L,((k:Int),()))),((wO T).1,((x.kind,(x.tok,(x.kids,()))),())))/\k<=x.kids.length/\St5 A F M V0 V (D k) q r T/\LI A x.kids k L (VU V (D k)) T) (λst=>x.kids.length-st.1.2.2.1.toNat) ?_ fu _
  ⟨0,some none,q,rfl,zVI _,⟨hI.to (λi s=>by rw[ac];exact⟨.inl,λh=>h.elim id λh=>h.1.elim⟩),y,hh,Kpt.rfl⟩,λa z w v _ _ _ h=>dM⟩ (by have:=hF.len;show x.kids.length-0<fu;omega)
 rintro rec st ⟨k,L,T,rfl,aQ,⟨R,y',W,hK⟩,aq⟩ X;have aL:=hF.len;by_cases G:k<x.kids.length
 .have K:=zUv G;have aR:=qi K;have E:=hF.at_ G 10 false;have ad:Nw A (VU V (D k)) x.kids[k]:=⟨E.sp,E.ok,E.nd,E.rg,E.ln,λh i hi s hv=>E.fr h i hi s (hv.imp id λh=>by rw[ac]at h;exact h.1)⟩;have Y:x.kids.length-(k+1)<x.kids.length-k:=dM
  have Z:x.kids.take (k+1)=x.kids.take k++[x.kids[k]]:=zVT G;have ae:∀i s,VU V (D (k+1)) i s↔VU V (D k) i s\/(PlE A 10 false x.kids[k] i s/\i≠dnN A x):=λi s=>by
   rw[ac];show V i s\/(PlL A (x.kids.take (k+1)) 10 false i s/\_)↔_;rw[Z,zEV,or_and_right,<-or_assoc];show _\/((PlE A 10 false x.kids[k] i s\/False)/\_)↔_;rw[zVL];exact zVD
  have P:∀{L':da (da LT1)}{d:WS},(Kpt (VU V (D k)) T d)->(¬Up x.kids k (dnL A (-1) (x.kids.take k)) x.kids[k]/\L'=L)->LI A x.kids (k+1) L' (VU V (D (k+1))) d:=λ{L' d} az hU a z w v e c hw aS=>by
   rcases zUx k (a.length+2)with aM|aA
   .exfalso;refine hU.1 ?_;obtain rfl:k=a.length+1:=dM
    have ez:x.kids.getD a.length xC=z:=zP6 e;have ew:x.kids[a.length+1]=w:=by
     have e2:x.kids=(a++[z])++w::v:=by rw[e];simp
     have:=zP6 e2;rw[show(a++[z]).length=a.length+1 by simp,zUV,zUj G]at this;exact this
    refine⟨by rw[ew];exact hw,dM,by show(x.kids.getD a.length xC).kind=0;rw[ez];exact c.1,?_⟩;show(x.kids.getD a.length xC).tok=_;rw[ez];have ht:x.kids.take (a.length+1)=a++[z]:=by rw[e,show a++z::w::v=(a++[z])++w::v by simp,show a.length+1=(a++[z]).length by simp,zWs]
    rw[ht,zHW,if_neg (by rw[c.1];decide),if_pos (show z.kind=0/\zY A z.tok=true from c)]
   .obtain⟨C,e1,e2⟩:=aq a z w v e c hw aA;exact⟨C,hU.2.trans e1,e2.kept az λi s h=>(ae i s).2 (.inl h)⟩
  have aB:∀{o:da (da LT1)}{d:WS},Up x.kids k (dnL A (-1) (x.kids.take k)) x.kids[k]->(∃C,o=some (some C)/\LvOk A (VU V (D (k+1))) d C)->LI A x.kids (k+1) o (VU V (D (k+1))) d:=λ{o d} _ ho _ _ _ _ _ _ _ _=>ho;have ah:dnL A (-1) (x.kids.take (k+1))=if x.kids[k].kind=10 then dnN A x.kids[k]else if x.kids[k].kind=0/\zY A x.kids[k].tok=true then x.kids[k].tok else dnL A (-1) (x.kids.take k):=by rw[Z,zHW]
  have aC:0<k->isub .i64 (k:Int) 1=((k-1:Nat):Int):=λh=>by unfold isub;rw[IntWalk.i64_in _ dM];omega
  have aD:List.getD x.kids (Int.toNat ((k-1:Nat):Int)) xC=x.kids.getD (k-1) xC:=by rw[zU3]
  dsimp only[wO];rw[zAR G,zBs dM];simp only[z8,qy];generalize aN:x.kids[k]=kid at *;have S:∀{o L':da (da LT1)}{d:WS}{y2:LT1},kid.kind≠10->¬(kid.kind=0/\zY A kid.tok=true)->Inw A F M V0 (VU (VU V (D k)) (PlX A kid)) d->d.2.2.1=y2::r->Kpt (VU V (D k)) T d->(kid.kind=11->∃C,o=some (some C)/\LvOk A (VU (VU V (D k)) (PlX A kid)) d C) ->
   (¬Up x.kids k (dnL A (-1) (x.kids.take k)) kid/\L'=L\/Up x.kids k (dnL A (-1) (x.kids.take k)) kid/\L'=o) ->
   Ro (rec ((dnL A (-1) (x.kids.take k),(L',(((k+1:Nat):Int),()))),((wO d).1,((x.kind,(x.tok,(x.kids,()))),())))) λo=>∃L d,o=some (((d.1,(d.2.1,(d.2.2.1,(d.2.2.2.1,(d.2.2.2.2,(L,())))))),()),(dnN A x,()))/\St5 A F M V0 V (PlD A x) q r d/\(FnD A x->∃C,L=some (some C)/\LvOk A (VU V (PlD A x)) d C):=λ{o L' d y2} ai hlw' g I n ho hU=>by
   have H:∀i s,VU (VU V (D k)) (PlX A kid) i s↔VU V (D (k+1)) i s:=λi s=>by
    rw[ae];refine or_congr zVD ?_;by_cases J:kid.kind=0
    .have aE:zY A kid.tok=false:=by
      cases e:zY A kid.tok with
      |false=>rfl
      |true=>exact absurd ⟨J,e⟩ hlw'
     exact⟨λh=>absurd J h.1,λh=>absurd h.1 (zCe J aE i s)⟩
    .rw[zDe J ai];exact⟨λh=>⟨h,λe=>ag kid K J ai (e▸(zBC J h.2).1)⟩,λh=>h.1⟩
   have aj:=PV.ext H;refine X _ ⟨k+1,L',d,?_,G,⟨g.to H,y2,I,hK.tr n λ_ _=>.inl⟩,?_⟩ Y
   .rw[ah,if_neg ai,if_neg hlw']
   .rcases hU with⟨u1,u2⟩|⟨u1,rfl⟩
    .exact P n ⟨u1,u2⟩
    .exact aB u1 (aj▸ho u1.1)
  have ar:kid.kind≠2:=λe=>al kid K e;rcases L with _|_|aF
  all_goals
   dsimp only[zX];refine Ro_t (zAe ej) (Ro_t (jc G) (Ro_c (λhc=>?_) λhc=>?_))
   .have b:kid.kind=10:=zUw (by rw[<-yr];exact hc);obtain⟨o,q1,N,⟨aG,y1,aH,au⟩,_⟩:=hp.h103 F M V0 _ T y' r kid R W ad b dM;refine Ro_t (zJ _) (Ro_b N (Ro_t (zJ _) ?_));have H:∀i s,VU (VU V (D k)) (PlD A kid) i s↔VU V (D (k+1)) i s:=λi s=>by
     rw[ae];refine or_congr zVD ?_;unfold PlD PlE;rw[b,zM6,U kid K b];exact⟨λh=>⟨.inr ⟨dP,h.1⟩,h.2⟩,λh=>⟨h.1.elim (λh=>absurd h.1 dP) λh=>h.2,h.2⟩⟩
    refine X _ ⟨k+1,_,q1,?_,G,⟨aG.to H,y1,aH,hK.tr au λ_ _=>.inl⟩,P au ⟨λu=>(by rw[u.1]at b;cases b),rfl⟩⟩ Y;rw[ah,if_pos b];rfl
   .have b:kid.kind≠10:=zVj (by rw[<-yr];exact hc);refine Ro_c (λak=>?_) λak=>?_
    .have B:kid.kind=0:=zUw (by rw[<-yr];exact ak);obtain⟨g0,g1⟩:=ad.rg _ (xz B);refine Ro_t (zJ _) (Ro_b (R.named fu g0 g1) (Ro_c (λhn=>?_) λhn=>?_))
     .have H:∀i s,VU V (D k) i s↔VU V (D (k+1)) i s:=λi s=>by
       rw[ae];refine⟨.inl,λh=>h.elim id λh=>?_⟩;exact absurd (((zC5 B hn i s).1 h.1).1.trans (am kid K ⟨B,hn⟩)) h.2
      refine Ro_t (zJ _) ?_;refine X _ ⟨k+1,_,T,?_,G,⟨R.to H,y',W,hK⟩,P Kpt.rfl ⟨λu=>(by rw[u.1]at B;cases B),rfl⟩⟩ Y;rw[ah,if_neg b,if_pos ⟨B,hn⟩];rfl
     .obtain⟨o,d,N,⟨g,y2,I,n⟩,ho⟩:=hp.h68 F M V0 _ T y' r kid R W ad ar b dM;have Q:¬(kid.kind=0/\zY A kid.tok=true):=λh=>by rw[h.2]at hn;cases hn
      have hU:¬Up x.kids k (dnL A (-1) (x.kids.take k)) kid:=λu=>by rw[u.1]at B;cases B
      refine Ro_t (zJ _) (Ro_b N ?_);rcases o with _|_|aI
      all_goals
       dsimp only[zX];exact Ro_f (by rw[yr];exact decide_eq_false (by rw[B];decide)) (Ro_t (zJ _) (S b Q g I n ho (.inl ⟨hU,rfl⟩)))
    .have B:kid.kind≠0:=zVj (by rw[<-yr];exact ak);obtain⟨o,d,N,⟨g,y2,I,n⟩,ho⟩:=hp.h68 F M V0 _ T y' r kid R W ad ar b dM;have Q:¬(kid.kind=0/\zY A kid.tok=true):=λh=>B h.1;refine Ro_t (zJ _) (Ro_b N ?_);rcases o with _|_|aI
     all_goals
      dsimp only[zX];refine Ro_c (λc1=>?_) λc1=>Ro_t (zJ _) (S b Q g I n ho (.inl ⟨λu=>?_,rfl⟩))
      .refine Ro_c (λc2=>?_) λc2=>Ro_t (zJ _) (S b Q g I n ho (.inl ⟨λu=>?_,rfl⟩))
       .have av:0<k:=by have:=zUw c2;omega
        rw[aC av,aD];refine Ro_t (jc dM) (Ro_c (λc3=>?_) λc3=>Ro_t (zJ _) (S b Q g I n ho (.inl ⟨λu=>?_,rfl⟩)))
        .refine Ro_t (jc dM) (Ro_c (λc4=>?_) λc4=>Ro_t (zJ _) (S b Q g I n ho (.inl ⟨λu=>?_,rfl⟩)))
         .exact Ro_t (zJ _) (S b Q g I n ho (.inr ⟨⟨zUw (by rw[<-yr];exact c1),av,zUw (by rw[<-yr];exact c3),zUw (by rw[<-yr];exact c4)⟩,rfl⟩))
         .rw[yr,zUg u.2.2.2]at c4;cases c4
        .rw[yr,zUg u.2.2.1]at c3;cases c3
       .have:=zVj c2;have:=u.2.1;omega
      .rw[yr,zUg u.1]at c1;cases c1
 .have e:k=x.kids.length:=dM
  subst e;have H:∀i s,VU V (D x.kids.length) i s↔VU V (PlD A x) i s:=λi s=>by
   rw[ac];show(V i s\/(PlL A (x.kids.take x.kids.length) 10 false i s/\i≠dnN A x))↔V i s\/(PlN A x false i s/\i≠dnN A x);rw[zVb];refine or_congr zVD ?_;rw[qf,hk]
  have aj:=PV.ext H;have aw:FnD A x->∃C,L=some (some C)/\LvOk A (VU V (PlD A x)) T C:=λ⟨a,z,w,v,f,_,_,c,hw⟩=>by
   obtain⟨C,e1,e2⟩:=aq a z w v f c hw (by rw[f,zUI,zUD,zUD];omega);exact⟨C,e1,aj▸e2⟩
  rw[List.take_length,<-ax];dsimp only[wO];rcases L with _|_|aF
  all_goals
   dsimp only[zX];exact Ro_f (zAc (Int.le_refl _)) (Ro_t (zJ _) ⟨_,rfl,_,T,rfl,⟨R.to H,y',W,hK⟩,aw⟩)
end
end
section
open Go.Al Go.Den
section
variable{ρ σ:Type}{Q:ρ->Prop}
def Ro_j{F:(σ->da ρ)->da ρ}{j:σ->da ρ}(a:σ)(b:∀k,Ro (k a) Q->Ro (F k) Q)(c:Ro (j a) Q):Ro (zg F j) Q:=b j c
def jW{a b:Int}(h:a≠b):ieq a b=false:=by rw[yr];exact zUh h
def ki{a b:Int}(h:a=b):ieq a b=true:=by rw[yr];exact zUg h
end
section
variable{A:db dw}{V:PV}{F M:MT}{V0:PV}{q:WS}
def NwF.tail{a:Nd}{l:db Nd}(h:NwF A V (a::l)):NwK A V l/\∀i∈lvN a,∀y∈l,i∉lvN y:=by
 have c:(lvN a++lvL l).Nodup:=h.k.nd;refine⟨⟨λx b=>h.k.sp x (zUW _ b),h.k.ok.2,(zUe.1 c).2.1,λi hi=>h.k.rg i (zU8 _ hi),?_,λx b=>h.k.fr x (zUW _ b)⟩,λi hi y d hiy=>(zUe.1 c).2.2 i hi i (qX d hiy) rfl⟩;have:=h.k.ln;replace this:(lvN a++lvL l).length<=4000:=this;rw[zUI]at this;omega
def NwF.head{a:Nd}{l:db Nd}(h:NwF A V (a::l)):Nw A V a:=by
 have b:=h.at_ (k:=0) dQ 0 false;have e:VU V (PlL A ((a::l).take 0) 0 false)=V:=PV.ext λi s=>(PlL.zero i s).symm;rw[e]at b;exact b
def NwK.more{W:PV}{l:db Nd}(h:NwK A V l)(c:∀y∈l,∀i∈lvN y,∀s,¬W i s):NwK A (VU V W) l:=
 ⟨h.sp,h.ok,h.nd,h.rg,h.ln,λy b d i hi s a=>a.elim (λa=>h.fr y b d i hi s a) λe=>c y b i hi s e⟩
def Inw.open_(h:Inw A F M V0 V q):Inw A F M V0 V (q.1,q.2.1,([],[])::q.2.2.1,q.2.2.2):=
 ⟨h.tok,h.len,h.sz,h.fld,h.mrk,h.rF,h.rM,h.dom,h.sub,h.nil,h.ok,λb a=>by
  rcases zUG.1 a with rfl|a
  .exact⟨λ_=>.inl rfl,λ_=>.inl rfl⟩
  .exact h.ent b a⟩
def Inw.shut_{y:LT1}{r:db LT1}(h:Inw A F M V0 V q)(b:q.2.2.1=y::r):Inw A F M V0 V (q.1,q.2.1,r,q.2.2.2):=
 ⟨h.tok,h.len,h.sz,h.fld,h.mrk,h.rF,h.rM,h.dom,h.sub,h.nil,h.ok,λc a=>h.ent c (by rw[b];exact zUW _ a)⟩
def zI1{y z:LT1}{r:db LT1}(a:q.2.2.1=y::z::r):c104 () q=some ((y,()),(q.1,q.2.1,z::r,q.2.2.2)):=by
 unfold c104;rw[a]
end
section
variable{A:db dw}{m fu:Nat}{p:WC}
def zI7{x:Nd}(b:x.kind≠0)(h:NLs A x.kids)(i s:Int):PlX A x i s↔PlK A x.kids i s:=by
 rw[<-zAT (kk:=x.kind) (c:=false) h];exact⟨λa=>(qf x false i s).1 a.2,λa=>⟨b,(qf x false i s).2 a⟩⟩
def zIl{F M:MT}{V0 V V':PV}{q:WS}{y:LT1}{r:db LT1}{d:Nd}(e:Inw A F M V0 V' q)(f:q.2.2.1=y::r)(g:Nw A V d)(k:d.kind=10)(l:0<=dnN A d->∀s,¬V' (dnN A d) s) :
 ∃a c,c102 (dnN A d,()) q=some ((),a)/\Inw A F M V0 (VU V' λi s=>0<=dnN A d/\i=dnN A d/\s=1) a/\a.2.2.1=c::r/\Kpt V' q a:=by
 have j:=g.dn k;rcases j.neg with b|b
 .refine⟨q,y,?_,e.to (zKQ λi s h=>dM),f,Kpt.rfl⟩;unfold c102;exact if_pos (show dnN A d<0 by omega)
 .obtain⟨n,o,_⟩:=j.at_ b;obtain⟨g0,t⟩:=g.rg _ n;obtain⟨a,c,u,v,w,x⟩:=e.declare g0 t o (l b) f;exact⟨a,c,u,v.to (λi s=>or_congr zVD ⟨λh=>⟨b,h⟩,λh=>h.2⟩),w,x⟩
def inS1{n:Nat}(h:1<=n):inS 1 (n:Int) n=true:=by unfold inS;simp;omega
def zKv(a:Nd)(l:db Nd):cutL (a::l) 1 (lenI (a::l))=l:=zQy (a::l) 1
abbrev R68(A:db dw)(F M:MT)(V0 V:PV)(q:WS)(r:db LT1)(x:Nd)(o:da ((WkLT×dc)×dc)):Prop:=
 ∃L a,o=some (((a.1,(a.2.1,(a.2.2.1,(a.2.2.2.1,(a.2.2.2.2,(L,())))))),()),())/\St5 A F M V0 V (PlX A x) q r a/\(x.kind=11->∃b,L=some (some b)/\LvOk A (VU V (PlX A x)) a b)
def w68(aC:5000<fu)(H:Wp A m p):∀F M V0 V q y r x,Inw A F M V0 V q->q.2.2.1=y::r->Nw A V x->x.kind≠2->x.kind≠10->3*sz x+2<m+1 ->
 ∃o c,(mWt (aa:=([.st TI.node]:LK)) (rs:=([]:LK)) (sh68 fu c47 p.c48 p.c68 p.c98 p.c99 p.c100 p.c101 c102 p.c103 c104 p.c105)) (x,()) q=some (((),o),c)/\St5 A F M V0 V (PlX A x) q r c/\(x.kind=11->∃lv,o=some (some lv)/\LvOk A (VU V (PlX A x)) c lv):=by
 intro F M V0 V q y r x hI hh hN k2 ap hm;have ag:=zA3 x
 suffices h:Ro (sh68 fu c47 p.c48 p.c68 p.c98 p.c99 p.c100 p.c101 c102 p.c103 c104 p.c105 (wO q) (x,())) (R68 A F M V0 V q r x)by
  obtain⟨_,Y,L,c,rfl,n⟩:=h;exact⟨L,c,zFR Y,n⟩
 have one:∀{X:da (dc×WS)}{K:dc×WS->da (da ((WkLT×dc)×dc))},x.kind≠11->(∃c,X=some ((),c)/\St5 A F M V0 V (PlX A x) q r c)->(∀c:WS,K ((),c)=cond (eqN c.2.1.length c.2.1.length) (some (some (((c.1,(c.2.1,(c.2.2.1,(c.2.2.2.1,(c.2.2.2.2,(none,())))))),()),()))) none)->Ro (Option.bind X K) (R68 A F M V0 V q r x):=λ{X K} aq hX hK=>by
  obtain⟨c,rfl,hs⟩:=hX;show Ro (K ((),c)) _;rw[hK];exact Ro_t (zJ _) ⟨_,rfl,none,c,rfl,hs,λe=>absurd e aq⟩
 unfold sh68;by_cases k0:x.kind=0
 .exact Ro_t (ki k0) (Ro_t (zJ _) ⟨_,rfl,none,q,rfl,⟨hI.to (zKQ (zLD k0)),y,hh,Kpt.rfl⟩,λe=>by rw[k0]at e;cases e⟩)
 have D:=hN.kids k0;have hS:=(jy hN.sp k0).1;refine Ro_f (jW k0) (Ro_f (jW k2) ?_);by_cases k4:x.kind=4
 .refine Ro_t (ki k4) (Ro_t (zJ _) ?_)
  first|rw[z8]|rw[qy]
  exact one (by rw[k4];decide) (H.h99 F M V0 V q y r x hI hh hN k4 dM) λc=>rfl
 refine Ro_f (jW k4) ?_;by_cases I:x.kind=5\/x.kind=6
 .refine Ro_j ((true,()),((wO q).1,((x.kind,(x.tok,(x.kids,()))),()))) (λk t=>?_) ?_
  .rcases I with e|e
   .exact Ro_t (ki e) (Ro_t (zJ _) t)
   .refine Ro_f (jW (by rw[e];decide)) (Ro_t (zJ _) ?_);rw[ki e];exact t
  .refine Ro_t rfl (Ro_t (zJ _) ?_);dsimp only
   first|rw[z8]|rw[qy]
   exact one (by rcases I with e|e<;>rw[e]<;>decide) (H.h100 F M V0 V q y r x hI hh hN I dM) λc=>rfl
 have k5:x.kind≠5:=λe=>I (.inl e);have k6:x.kind≠6:=λe=>I (.inr e);refine Ro_j ((false,()),((wO q).1,((x.kind,(x.tok,(x.kids,()))),()))) (λk t=>Ro_f (jW k5) (Ro_t (zJ _) (by rw[jW k6];exact t))) (Ro_f rfl ?_);by_cases k7:x.kind=7
 .refine Ro_t (ki k7) (Ro_t (zJ _) ?_);dsimp only
  first|rw[z8]|rw[qy]
  exact one (by rw[k7];decide) (H.h101 F M V0 V q y r x hI hh hN k7 dM) λc=>rfl
 refine Ro_f (jW k7) ?_;by_cases k8:x.kind=8
 .refine Ro_t (ki k8) ?_;obtain⟨a,l,f,⟨ab,ah⟩,hl⟩:=hS.2.2.2.2.2.1 k8;rw[f]at D ag;obtain⟨hT,J⟩:=D.tail;have N:=D.len;simp only[List.length_cons]at N;have ar:=D.head;obtain⟨g0,g1⟩:=ar.rg _ (xz ab);dsimp only;rw[f,zKv];refine Ro_t (inS1 dQ) (Ro_t (zJ _) ?_);refine Ro_i (λst=>∃(k:Nat)(Z:WS),st=(((k:Int),()),((wO Z).1,((x.kind,(x.tok,(a::l,()))),())))/\k<=l.length/\St5 A F M V0 V (PlK A (l.take k)) q r Z) (λst=>l.length-st.1.1.toNat) ?_ fu _ ⟨0,q,rfl,Nat.zero_le _,hI.to (λi s=>PlK.zero i s),y,hh,Kpt.rfl⟩ (by show l.length-0<fu;omega);rintro rec st ⟨k,Z,rfl,au,u,y',O,hK⟩ P;dsimp only[wO];by_cases b:k<l.length
  .rw[zAR b,zBs dM];have R:=hl _ (zUv b);have av:sz l[k]<=(allK (a::l)).length:=qi (zUW _ (zUv b));obtain⟨o,c,e1,⟨n,y2,w,E⟩,_⟩:=H.h68 F M V0 _ Z y' r l[k] u O (hT.at_ b) R.2.1 R.2.2 dM;refine Ro_t (zAe et) (Ro_t (jc b) (Ro_t (zJ _) ?_))
   first|rw[z8]|rw[qy]
   refine Ro_b e1 (Ro_t (zJ _) ?_);exact P _ ⟨k+1,c,rfl,b,n.to (λi s=>PlK.succ b i s),y2,w,hK.tr E λ_ _=>.inl⟩ eS
  .have e:k=l.length:=dM
   subst e;rw[zVb]at u;obtain⟨c,y2,e1,n,w,E⟩:=u.declare g0 g1 ah (λs B=>B.elim (D.fr _ (zUu _ (xz ab)) s) λB=>by
    obtain⟨z,hz,aw,H⟩:=B;exact J _ (xz ab) z hz (zBC aw H).1) O
   refine Ro_f (zAc (zVd _)) (Ro_t (jc (k:=0) dQ) (Ro_t (zJ _) (Ro_b e1 (Ro_t (zJ _) ⟨_,rfl,none,c,rfl,⟨n.to (λi s=>?_),y2,w,hK.tr E λ_ _=>.inl⟩,λe=>by rw[k8]at e;cases e⟩))));show((V i s\/PlK A l i s)\/(i=a.tok/\s=1))↔V i s\/(x.kind≠0/\PlN A x false i s);rw[qf,f,k8];show _↔V i s\/((8:Int)≠0/\(PlE A 8 false a i s\/PlL A l 8 false i s));rw[zC5 ab ah,zAT hl,or_assoc];exact or_congr zVD ⟨λh=>⟨dP,h.elim .inr .inl⟩,λh=>h.2.elim .inr .inl⟩
 refine Ro_f (jW k8) ?_;by_cases k9:x.kind=9
 .refine Ro_t (ki k9) ?_;obtain⟨d,l,f,G,hl⟩:=hS.2.2.2.2.2.2.1 k9;rw[f]at D ag;obtain⟨hT,J⟩:=D.tail;have N:=D.len;simp only[zUD]at N;have g:=D.head;have ac:d.kind≠0:=by rw[G];decide
  have ax:sz d<=(allK (d::l)).length:=qi zUz;obtain⟨o2,q2,e2,⟨g1,y2,g3,g4⟩,_⟩:=H.h103 F M V0 V q y r d hI hh g G dM;obtain⟨q3,y3,e3,f1,f3,f4⟩:=zIl g1 g3 g G λS s B=>B.elim (λB=>g.fr ac _ ((g.dn G).at_ S).1 s B) λB=>B.2 rfl;have ay:∀i s,VU (VU V (PlD A d)) (λi s=>0<=dnN A d/\i=dnN A d/\s=1) i s↔VU V (PlN A d false) i s:=λi s=>by
   show((V i s\/PlD A d i s)\/(0<=dnN A d/\i=dnN A d/\s=1))↔V i s\/PlN A d false i s;rw[zDp g G,or_assoc];exact zVD
  have az:NwK A (VU V (PlN A d false)) l:=hT.more λz hz i hi s hw=>J i (zBC ac hw).1 z hz hi;dsimp only;rw[f,zKv];refine Ro_t (jc (k:=0) dQ) (Ro_t (zJ _) ?_);simp only[z8,qy];refine Ro_b e2 (Ro_t (zJ _) (Ro_b e3 (Ro_t (inS1 dQ) (Ro_t (zJ _) ?_))));refine Ro_i (λst=>∃(k:Nat)(Z:WS),st=(((k:Int),()),wO Z)/\k<=l.length/\St5 A F M V0 (VU V (PlN A d false)) (PlK A (l.take k)) q3 r Z) (λst=>l.length-st.1.1.toNat) ?_ fu _ ⟨0,q3,rfl,Nat.zero_le _,f1.to (λi s=>(ay i s).trans (PlK.zero i s)),y3,f3,Kpt.rfl⟩ (by show l.length-0<fu;omega);rintro rec st ⟨k,Z,rfl,au,u,y',O,hK⟩ P;dsimp only[wO];by_cases b:k<l.length
  .rw[zAR b,zBs dM];have R:=hl _ (zUv b);have av:sz l[k]<=(allK (d::l)).length:=qi (zUW _ (zUv b));obtain⟨o,c,e1,⟨n,y2,w,E⟩,_⟩:=H.h68 F M V0 _ Z y' r l[k] u O (az.at_ b) R.2.1 R.2.2 dM;refine Ro_t (zAe et) (Ro_t (jc b) (Ro_t (zJ _) ?_));refine Ro_b e1 (Ro_t (zJ _) ?_);exact P _ ⟨k+1,c,rfl,b,n.to (λi s=>PlK.succ b i s),y2,w,hK.tr E λ_ _=>.inl⟩ eS
  .have e:k=l.length:=dM
   subst e;rw[zVb]at u;refine Ro_f (zAc (zVd _)) (Ro_t (zJ _) ⟨_,rfl,none,Z,rfl,⟨u.to (λi s=>?_),y',O,(g4.tr f4 λ_ _=>.inl).tr hK λ_ _=>.inl⟩,λe=>by rw[k9]at e;cases e⟩);show((V i s\/PlN A d false i s)\/PlK A l i s)↔V i s\/(x.kind≠0/\PlN A x false i s);rw[qf x,f,k9];show _↔V i s\/((9:Int)≠0/\(PlE A 9 false d i s\/PlL A l 9 false i s));have hE:PlE A 9 false d i s↔PlN A d false i s:=by
    unfold PlE;rw[G,show ckd 9 false 10=false from rfl];exact⟨λh=>h.elim (λh=>absurd h.1 dP) λh=>h.2,λh=>.inr ⟨dP,h⟩⟩
   rw[hE,zAT hl,or_assoc];exact or_congr zVD ⟨λh=>⟨dP,h⟩,λh=>h.2⟩
 refine Ro_f (jW k9) ?_;have T:(gk x.kind=true)->∃U j,p.c48 (x,()) (q.1,q.2.1,([],[])::q.2.2.1,q.2.2.2)=some ((),j)/\j.2.2.1=U::y::r/\Inw A F M V0 (VU V (PlX A x)) j/\Kpt V q j:=λhg=>by
  have ai:=hS.1 hg;obtain⟨j,Y,n,U,w,E⟩:=H.h48 F M V0 V (q.1,q.2.1,([],[])::q.2.2.1,q.2.2.2) ([],[]) (y::r) x hI.open_ (by rw[<-hh]) D.k (λk t=>(ai k t).2) D.len dM;exact⟨U,j,Y,w,n.to (λi s=>or_congr zVD (zI7 k0 ai i s).symm),E⟩
 by_cases C:x.kind=11
 .refine Ro_t (ki C) (Ro_t (zJ _) (Ro_b (v:=((),(q.1,q.2.1,([],[])::q.2.2.1,q.2.2.2))) rfl (Ro_t (zJ _) ?_)));dsimp only
  first|rw[z8]|rw[qy]
  obtain⟨U,j,Y,n,w,E⟩:=T (by rw[C];decide);refine Ro_b Y (Ro_t (zJ _) (Ro_b (zI1 n) (Ro_t (zJ _) ⟨_,rfl,some (some U),(j.1,j.2.1,y::r,j.2.2.2),rfl,⟨w.shut_ n,y,rfl,E⟩,λ_=>⟨U,rfl,?_⟩⟩)));exact w.ent U (by rw[n];exact zUz)
 refine Ro_f (jW C) ?_;by_cases W:x.kind=12\/x.kind=14
 .refine Ro_j ((true,()),((wO q).1,((x.kind,(x.tok,(x.kids,()))),()))) (λk t=>?_) (Ro_t rfl ?_)
  .rcases W with e|e
   .exact Ro_t (ki e) (Ro_t (zJ _) t)
   .refine Ro_f (jW (by rw[e];decide)) (Ro_t (zJ _) ?_);dsimp only;rw[ki e];exact t
  .have aA:ckd x.kind false 10=false:=by rcases W with e|e<;>rw[e]<;>rfl
   obtain⟨a,l,f,ha,hl⟩:=hS.2.2.2.2.2.2.2.2.1 W;rw[f]at D;have aD:sz a<=(allK x.kids).length:=qi (by rw[f];simp);obtain⟨o1,j,e1,⟨Y,U,w,E⟩,_⟩:=H.h68 F M V0 V q y r a hI hh D.head ha.2.1 ha.2.2 dM;dsimp only;rw[f];refine Ro_t (jc (k:=0) dQ) (Ro_t (zJ _) ?_);simp only[z8,qy];refine Ro_b e1 ?_;rcases hl with rfl|⟨d,rfl,G⟩
   .refine Ro_f rfl (Ro_t (zJ _) ⟨_,rfl,none,j,rfl,⟨Y.to (λi s=>or_congr zVD ?_),U,w,E⟩,λe=>absurd e C⟩);show _↔x.kind≠0/\PlN A x false i s;rw[qf,f];show _↔x.kind≠0/\(PlE A x.kind false a i s\/False);rw[zVL,zCh ha];exact⟨λh=>⟨k0,h⟩,λh=>h.2⟩
   .have ax:sz d<=(allK x.kids).length:=qi (by rw[f];simp);obtain⟨hT,J⟩:=D.tail;have aB:NwK A (VU V (PlX A a)) [d]:=hT.more λy hy i hi s hw=>J i (zBC hw.1 hw.2).1 y hy hi;have ac:d.kind≠0:=by rw[G];decide
    have g:Nw A (VU V (PlX A a)) d:=by
     have h:=aB.at_ (k:=0) dQ;have e:VU (VU V (PlX A a)) (PlK A ([d].take 0))=VU V (PlX A a):=PV.ext λi s=>(PlK.zero i s).symm;rw[e]at h;exact h
    obtain⟨o2,q2,e2,⟨g1,y2,g3,g4⟩,_⟩:=H.h103 F M V0 _ j U r d Y w g G dM;obtain⟨q3,y3,e3,f1,f3,f4⟩:=zIl g1 g3 g G λS s B=>B.elim (λB=>g.fr ac _ ((g.dn G).at_ S).1 s B) λB=>B.2 rfl;refine Ro_t rfl (Ro_t rfl (Ro_t (zJ _) (Ro_b e2 (Ro_t (zJ _) (Ro_b e3 (Ro_t (zJ _) ⟨_,rfl,none,q3,rfl,⟨f1.to (λi s=>?_),y3,f3,(E.tr g4 λ_ _=>.inl).tr f4 λ_ _ h=>.inl (.inl h)⟩,λe=>absurd e C⟩))))));show(((V i s\/PlX A a i s)\/PlD A d i s)\/(0<=dnN A d/\i=dnN A d/\s=1))↔V i s\/(x.kind≠0/\PlN A x false i s);rw[qf,f];show _↔V i s\/(x.kind≠0/\(PlE A x.kind false a i s\/(PlE A x.kind false d i s\/False)));rw[zVL,zCh ha,or_assoc,or_assoc];have hE:PlE A x.kind false d i s↔PlN A d false i s:=by
     unfold PlE;rw[G,aA];exact⟨λh=>h.elim (λh=>absurd h.1 dP) λh=>h.2,λh=>.inr ⟨dP,h⟩⟩
    rw[hE,zDp g G];exact or_congr zVD ⟨λh=>⟨k0,h⟩,λh=>h.2⟩
 have ae:x.kind≠12:=λe=>W (.inl e);have af:x.kind≠14:=λe=>W (.inr e);refine Ro_j ((false,()),((wO q).1,((x.kind,(x.tok,(x.kids,()))),()))) (λk t=>Ro_f (jW ae) (Ro_t (zJ _) (by dsimp only;rw[jW af];exact t))) (Ro_f rfl ?_);by_cases ad:x.kind=20\/x.kind=25
 .refine Ro_j ((true,()),((wO q).1,((x.kind,(x.tok,(x.kids,()))),()))) (λk t=>?_) (Ro_t rfl ?_)
  .rcases ad with e|e
   .exact Ro_t (ki e) (Ro_t (zJ _) t)
   .refine Ro_f (jW (by rw[e];decide)) (Ro_t (zJ _) ?_);dsimp only;rw[ki e];exact t
  .refine Ro_t (zJ _) (Ro_b (v:=((),(q.1,q.2.1,([],[])::q.2.2.1,q.2.2.2))) rfl (Ro_t (zJ _) ?_));dsimp only
   first|rw[z8]|rw[qy]
   obtain⟨U,j,Y,n,w,E⟩:=T (by rcases ad with e|e<;>rw[e]<;>decide);exact Ro_b Y (Ro_t (zJ _) (Ro_b (zI1 n) (Ro_t (zJ _) ⟨_,rfl,none,(j.1,j.2.1,y::r,j.2.2.2),rfl,⟨w.shut_ n,y,rfl,E⟩,λe=>absurd e C⟩)))
 have aj:x.kind≠20:=λe=>ad (.inl e);have ak:x.kind≠25:=λe=>ad (.inr e);refine Ro_j ((false,()),((wO q).1,((x.kind,(x.tok,(x.kids,()))),()))) (λk t=>Ro_f (jW aj) (Ro_t (zJ _) (by dsimp only;rw[jW ak];exact t))) (Ro_f rfl (Ro_t (zJ _) ?_));dsimp only
 first|rw[z8]|rw[qy]
 refine one C (H.h105 F M V0 V q y r x hI hh hN ?_ dM) λc=>rfl;by_cases al:x.kind=28
 .exact .inr (.inl al)
 by_cases am:x.kind=29
 .exact .inr (.inr (.inl am))
 by_cases an:x.kind=40
 .exact .inr (.inr (.inr (.inl an)))
 by_cases ao:x.kind=46
 .exact .inr (.inr (.inr (.inr ao)))
 refine .inl ?_;unfold gk;simp[k0,k2,k4,k5,k6,k7,k8,k9,ap,ae,af,al,am,an,ao]
end
end
section
open Go.Al Go.Den
def Wp.zero(A:db dw)(p:WC):Wp A 0 p:=by
 constructor<;>intros<;>omega
def Wp.next{A:db dw}{m fu:Nat}{p:WC}(a:5000<fu)(h:Wp A m p):Wp A (m+1) (wcS fu p) where
 h68:=w68 a h
 h48:=w48 a h
 h99:=w99 a h
 h100:=w100 h
 h101:=w101 a h
 h103:=w103 a h
 h105:=w105 h
def wp{A:db dw}{fu:Nat}(a:5000<fu):∀m,Wp A m (wcs fu m)
 |0=>Wp.zero A _
 |m+1=>(wp a m).next a
section
variable{A:db dw}{F M:MT}{V:PV}{q:WS}
def McOk(A:db dw)(V:PV)(q:WS)(M:MT):Prop:=∀t,Eo A V q 4 t (mgZ M t)
def Top(A:db dw)(F:MT)(V:PV)(q:WS):Prop:=∃M,Inw A F M V V q/\McOk A V q M
def Inw.close{c:PV}(h:Inw A F M c V q)(m:McOk A V q M):Inw A F M V V q:=by
 refine⟨h.tok,h.len,h.sz,h.fld,h.mrk,h.rF,h.rM,h.dom,λ_ _=>id,h.nil,λi s f=>?_,h.ent⟩;obtain⟨d,n,o,p,r⟩:=h.ok i s f;refine⟨d,n,o,p,λg=>⟨λ_=>?_,λb=>absurd (g▸f) b⟩⟩;obtain⟨t,u⟩:=r g;by_cases a:c i 4
 .rcases t a with e|⟨v,w,x⟩
  .exact .inl e
  .exact .inr ⟨h.sub _ _ v,w,x⟩
 .have y:=u a;rcases m (tx A i)with e|⟨z,B,j,k,l⟩
  .exact .inl dM
  .rw[<-y]at j k l;exact .inr ⟨j,k,l⟩
def Inw.marks(h:Inw A F M V V q){a:MT}(j:∀t,0<=mgZ a t/\mgZ a t<=100000)(e:LT1)(k:LvOk A V q e):Inw A F a V V (q.1,q.2.1,e::q.2.2.1,q.2.2.2.1,a):=by
 refine⟨h.tok,h.len,h.sz,h.fld,rfl,h.rF,j,h.dom,h.sub,h.nil,λi s f=>?_,λx b=>?_⟩
 .obtain⟨d,l,m,n,o⟩:=h.ok i s f;exact⟨d,l,m,n,λg=>⟨(o g).1,λc=>absurd (g▸f) c⟩⟩
 .rcases zUG.1 b with rfl|b
  .exact k
  .exact h.ent x b
def zH3(l:db dw)(t:Str):∀(xs:db Nd)(c:MT),mgZ (xs.foldl (λc x=>yd c (l.getD (lbAt x).toNat tokD).text (lbAt x+1)) c) t=mgZ c t\/∃x∈xs,mgZ (xs.foldl (λc x=>yd c (l.getD (lbAt x).toNat tokD).text (lbAt x+1)) c) t=lbAt x+1/\tx l (lbAt x)=t
 |[],c=>.inl rfl
 |x::r,c=>by
  rcases zH3 l t r (yd c (l.getD (lbAt x).toNat tokD).text (lbAt x+1))with h|⟨y,a,b,d⟩
  .rw[zEb]at h;by_cases e:t=(l.getD (lbAt x).toNat tokD).text
   .rw[if_pos e]at h;exact .inr ⟨x,zUz,h,e.symm⟩
   .rw[if_neg e]at h;exact .inl h
  .exact .inr ⟨y,zUW _ a,b,d⟩
def zHn(l:db dw)(xs:db Nd)(t:Str):mgZ (ql l xs) t=0\/∃x∈xs,mgZ (ql l xs) t=lbAt x+1/\tx l (lbAt x)=t:=by
 rcases zH3 l t xs.reverse []with h|⟨x,a,h⟩
 .exact .inl h
 .exact .inr ⟨x,List.mem_reverse.1 a,h⟩
end
mutual
/-- A Label in a tree: its name is a Mark there. -/
theorem lab_N{A:List TokT}:∀{nd x:Nd}(c:Bool),Sp A nd->okT nd->x∈allT nd->x.kind=29->nd.kind≠0->PlN A nd c (lbAt x) 4
 |.mk k p ps,x,c,hs,ho,hx,hk,h0=>by
  obtain⟨hsh,hsp⟩:=jy hs h0;replace hsp:∀y∈ps,Sp A y:=hsp;rcases zUG.1 hx with rfl|hx
  .obtain⟨a,b,d,hks,⟨ha0,han⟩,_⟩:=hsh.2.2.2.2.2.2.2.2.2.2.1 hk;replace hks:ps=[a,b,d]:=hks;replace hk:k=29:=hk;subst hks hk;exact .inl (.inl ⟨ha0,han,rfl,rfl⟩)
  .exact lab_L k c hsp ho.2.2.2.2 hx hk
theorem lab_L{A:List TokT}:∀{ps:List Nd}{x:Nd}(k:Int)(c:Bool),(∀y∈ps,Sp A y)->okL ps->x∈allK ps->x.kind=29->PlL A ps k c (lbAt x) 4
 |[],x,k,c,_,_,hx,_=>by cases hx
 |y::r,x,k,c,hs,ho,hx,hk=>by
  have hx2:x∈allT y++allK r:=hx;rcases zUa.1 hx2 with hx|hx
  .by_cases hy0:y.kind=0
   .exfalso;cases y with
    |mk kk pp l=>
     obtain rfl:kk=0:=hy0;obtain rfl:l=[]:=ho.1.1.1 rfl;obtain rfl:=zUJ.1 hx;cases hk
   .exact .inl (.inr ⟨hy0,lab_N _ (hs y zUz) ho.1.1 hx hk hy0⟩)
  .exact .inr (lab_L k c (λz hz=>hs z (zUW _ hz)) ho.2 hx hk)
end
end
section
open Go.Al Go.Den
section
variable{A:db dw}{F M:MT}{V V' W:PV}{q q':WS}
def McOk.kept(h:McOk A V q M)(a:Kpt V q q')(b:∀i s,V i s->V' i s):McOk A V' q' M:=λt=>(h t).kept a b
def w98{m:Nat}{p:WC}(Y:Wp A m p){y:LT1}{r:db LT1}{x:Nd}(Z:Inw A F M V V q)(aa:McOk A V q M)(hh:q.2.2.1=y::r)(hN:Nw A V x)(I:x.kind=2)(aq:sz x<300000)(hm:3*sz x+2<m) :
 ∃q',c98S p.c48 p.c68 p.c103 (x,()) q=some ((),q')/\Top A F (VU V (PlX A x)) q'/\(∃y',q'.2.2.1=y'::r)/\Kpt V q q':=by
 have h0:x.kind≠0:=by rw[I];decide
 have hF:=hN.kids h0;have ab:=zA3 x;obtain⟨s,d,b,B,hs,ac,ad,hb⟩:=(jy hN.sp h0).1.2.1 I;have E:d.kind=10:=ac.1;have J:d.kind≠0:=by rw[E];decide
 have a:b.kind≠0:=by rw[hb];decide
 rw[B]at hF ab;have z1:sz s<=(allK [s,d,b]).length:=qi dQ;have z2:sz d<=(allK [s,d,b]).length:=qi dQ;have z3:sz b<=(allK [s,d,b]).length:=qi dQ;obtain⟨hT,ae⟩:=hF.tail;obtain⟨o1,q1,e1,⟨h1,y1,af,ag⟩,_⟩:=Y.h68 F M V V q y r s Z hh hF.head hs.2.1 hs.2.2 dM;have n:NwK A (VU V (PlX A s)) [d,b]:=hT.more λy hy i hi s' hw=>ae i (zBC hw.1 hw.2).1 y hy hi;have j:Nw A (VU V (PlX A s)) d:=by
  have h:=n.at_ (k:=0) dQ;have e:VU (VU V (PlX A s)) (PlK A ([d,b].take 0))=VU V (PlX A s):=PV.ext λi s=>(PlK.zero i s).symm;rw[e]at h;exact h
 obtain⟨o2,q2,G,⟨h2,y2,ah,ai⟩,K⟩:=Y.h103 F M V _ q1 y1 r d h1 af j E dM;obtain⟨X,rfl,aj⟩:=K ad;obtain⟨f,y3,e3,L,ak,N⟩:=zIl h2 ah j E λO s c=>c.elim (λc=>j.fr J _ ((j.dn E).at_ O).1 s c) λc=>c.2 rfl;have P:∀i s',VU (VU (VU V (PlX A s)) (PlD A d)) (λi s=>0<=dnN A d/\i=dnN A d/\s=1) i s'↔VU (VU V (PlX A s)) (PlN A d false) i s':=λi s'=>by
  show(((V i s'\/PlX A s i s')\/PlD A d i s')\/(0<=dnN A d/\i=dnN A d/\s'=1))↔(V i s'\/PlX A s i s')\/PlN A d false i s';rw[zDp j E,or_assoc];exact zVD
 have Q:Kpt V q f:=(ag.tr ai λ_ _=>.inl).tr N λ_ _ h=>.inl (.inl h);have R:=aj.kept (V':=VU (VU V (PlX A s)) (PlN A d false)) N λi s h=>(P i s).1 (.inl h);have al:=(L.to P).close (aa.kept Q λ_ _ h=>.inl (.inl h));have o:Nw A (VU (VU V (PlX A s)) (PlN A d false)) b:=by
  have h:=n.at_ (k:=1) dQ;refine⟨h.sp,h.ok,h.nd,h.rg,h.ln,λ_ i hi s' c=>?_⟩;rcases c with c|c
  .exact n.fr b dQ a i hi s' c
  .have hn:(lvN d++(lvN b++[])).Nodup:=n.nd;exact(zUe.1 hn).2.2 i (zBC J c).1 i (zUu _ hi) rfl
 have u:=o.kids a;have C:=(jy o.sp a).1.1 (by rw[hb];decide);have l:∀z∈fdT b 29,PlK A b.kids (lbAt z) 4:=λz g=>by
  have S:=zWL.1 g;have:=lab_N false o.sp o.ok S.1 (by simpa using S.2) a;exact(zI7 a C _ _).1 ⟨a,this⟩
 have v:∀z∈fdT b 29,0<=lbAt z/\lbAt z<(A.length:Int):=λz g=>u.k.rg _ (zH0 (l z g));have am:∀t,0<=mgZ (ql A (fdT b 29)) t/\mgZ (ql A (fdT b 29)) t<=100000:=λt=>by
  have hA:=Z.sz;rcases zHn A (fdT b 29) t with e|⟨z,g,e,_⟩
  .omega
  .have:=v z g;omega
 have h4:=al.marks am X R;obtain⟨H,e4,h5,y5,D,an⟩:=Y.h48 F _ _ _ _ X f.2.2.1 b h4 rfl u.k (λk I=>(C k I).2) u.len dM;rw[ak]at D;have w:McOk A (VU (VU (VU V (PlX A s)) (PlN A d false)) (PlK A b.kids)) H (ql A (fdT b 29)):=λt=>by
  rcases zHn A (fdT b 29) t with e|⟨z,g,e,ht⟩
  .exact .inl e
  .have hr:=v z g;have c:VU (VU (VU V (PlX A s)) (PlN A d false)) (PlK A b.kids) (lbAt z) 4:=.inr (l z g);obtain⟨d',g1,_,_,g4⟩:=h5.ok _ _ c;have T:=(g4 rfl).2 λao=>u.fr _ (zH0 (l z g)) 4 ao;rw[ht,e]at T;have G:lbAt z+1-1=lbAt z:=dM
   rw[e];refine .inr ⟨dM,dM,?_,?_,?_⟩
   .rw[G];exact c
   .rw[G];exact ht
   .rw[G,g1,T,G]
 have h6:=h5.close w;have U:∀i s',VU (VU (VU V (PlX A s)) (PlN A d false)) (PlK A b.kids) i s'↔VU V (PlX A x) i s':=λi s'=>by
  show((V i s'\/PlX A s i s')\/PlN A d false i s')\/PlK A b.kids i s'↔V i s'\/(x.kind≠0/\PlN A x false i s');rw[qf x,B,I];show _↔V i s'\/((2:Int)≠0/\(PlE A 2 false s i s'\/(PlE A 2 false d i s'\/(PlE A 2 false b i s'\/False))));have hE:PlE A 2 false d i s'↔PlN A d false i s':=by
   unfold PlE;rw[E,show ckd 2 false 10=false from rfl];exact⟨λh=>h.elim (λh=>absurd h.1 dP) λh=>h.2,λh=>.inr ⟨dP,h⟩⟩
  rw[hE,zCh hs,zDe a (by rw[hb];decide),zI7 a C,zVL,or_assoc,or_assoc];exact or_congr zVD ⟨λh=>⟨dP,h⟩,λh=>h.2⟩
 refine⟨(H.1,H.2.1,y3::r,H.2.2.2),?_,⟨_,(PV.ext U)▸h6.shut_ D,(PV.ext U)▸w⟩,⟨y3,rfl⟩,Q.tr an λ_ _ h=>.inl (.inl h)⟩;unfold c98S;rw[B];show Option.bind (p.c68 (s,()) q) _=_;rw[e1];show Option.bind (p.c103 (d,()) q1) _=_;rw[G];show Option.bind (c102 (dnN A d,()) q2) _=_;rw[e3];rw[zVY];refine(if_pos ⟨by show f.1.length<1000000;rw[L.tok];have:=Z.sz;omega,λz g=>⟨(v z g).1,by show lbAt z<(f.1.length:Int);rw[L.tok];exact(v z g).2⟩,by show sz b<1000000;omega⟩).trans ?_;have ap:p.c48 (b,()) (A,f.2.1,X::f.2.2.1,f.2.2.2.1,ql A (fdT b 29))=some ((),H):=by rw[<-L.tok]at e4 ⊢;exact e4
 show Option.bind (p.c48 (b,()) (f.1,f.2.1,X::f.2.2.1,f.2.2.2.1,ql f.1 (fdT b 29))) _=_;rw[L.tok,ap];show Option.bind (c104 () H) _=_;rw[zI1 D];rfl
end
end
section
open Go.Al Go.Den
section
variable{A:db dw}{F:MT}{V:PV}{q:WS}{m fu:Nat}
def u68(c:5000<fu){y:LT1}{r:db LT1}{x:Nd}(s:Top A F V q)(l:q.2.2.1=y::r)(n:Nw A V x)(t:x.kind≠10)(i:sz x<300000)(v:3*sz x+4<m) :
 ∃o a,(wcs fu (m+2)).c68 (x,()) q=some (((),o),a)/\Top A F (VU V (PlX A x)) a/\(∃j,a.2.2.1=j::r)/\Kpt V q a:=by
 obtain⟨M,p,d⟩:=s;by_cases k2:x.kind=2
 .obtain⟨a,e,f,k,g⟩:=w98 (wp c m) p d l n k2 i dM;refine⟨none,a,?_,f,k,g⟩;show zKY (sh68 fu c47 (wcs fu (m+1)).c48 (wcs fu (m+1)).c68 (wcs fu (m+1)).c98 (wcs fu (m+1)).c99 (wcs fu (m+1)).c100 (wcs fu (m+1)).c101 c102 (wcs fu (m+1)).c103 c104 (wcs fu (m+1)).c105 (wO q) (x,()))=_;refine zFR ?_;have u:(wcs fu (m+1)).c98 (x,()) q=some ((),a):=e
  suffices h:Ro (sh68 fu c47 (wcs fu (m+1)).c48 (wcs fu (m+1)).c68 (wcs fu (m+1)).c98 (wcs fu (m+1)).c99 (wcs fu (m+1)).c100 (wcs fu (m+1)).c101 c102 (wcs fu (m+1)).c103 c104 (wcs fu (m+1)).c105 (wO q) (x,())) λo=>o=some (((a.1,(a.2.1,(a.2.2.1,(a.2.2.2.1,(a.2.2.2.2,(none,())))))),()),())by
   obtain⟨_,f,rfl⟩:=h;exact f
  unfold sh68;refine Ro_f (jW (by rw[k2];decide)) (Ro_t (ki k2) (Ro_t (zJ _) ?_))
  first|rw[z8]|rw[qy]
  exact Ro_b u (Ro_t (zJ _) ⟨_,rfl,rfl⟩)
 .obtain⟨o,a,e,⟨f,j,k,g⟩,_⟩:=(wp c (m+2)).h68 F M V V q y r x p l n k2 t dM;have b:=d.kept (V':=VU V (PlX A x)) g λ_ _=>.inl;exact⟨o,a,e,⟨M,f.close b,b⟩,⟨j,k⟩,g⟩
def u48(g:5000<fu){y:LT1}{r:db LT1}{x:Nd}(v:Top A F V q)(w:q.2.2.1=y::r)(z:NwK A V x.kids)(B:∀k∈x.kids,k.kind≠10)(I:x.kids.length<=4000)(C:sz x<300000)(J:3*sz x+4<m) :
 ∃b,(wcs fu (m+3)).c48 (x,()) q=some ((),b)/\Top A F (VU V (PlK A x.kids)) b:=by
 suffices h:Ro (sh48 fu (wcs fu (m+2)).c68 (wO q) (x,())) λo=>∃b,o=some (wO b,())/\Top A F (VU V (PlK A x.kids)) b by
  obtain⟨_,j,b,rfl,l⟩:=h;exact⟨b,zBS j,l⟩
 have D:=zA3 x;unfold sh48;refine Ro_t (zJ _) ?_;have n:Top A F (VU V (PlK A (x.kids.take 0))) q:=(PV.ext (λi s=>PlK.zero i s):V=VU V (PlK A []))▸v;refine Ro_i (λst=>∃(k:Nat)(d:WS),st=(((k:Int),()),wO d)/\k<=x.kids.length/\Top A F (VU V (PlK A (x.kids.take k))) d/\∃t,d.2.2.1=t::r) (λst=>x.kids.length-st.1.1.toNat) ?_ fu _ ⟨0,q,rfl,Nat.zero_le _,n,y,w⟩ ey;rintro rec st ⟨k,d,rfl,E,c,t,p⟩ f;dsimp only[wO];by_cases a:k<x.kids.length
 .rw[zAR a,zBs dM];have u:=qi (zUv a);obtain⟨o,b,j,l,⟨G,H⟩,_⟩:=u68 g c p (z.at_ a) (B _ (zUv a)) dM (m:=m) dM;refine Ro_t (zAe ej) (Ro_t (jc a) (Ro_t (zJ _) ?_))
  first|rw[z8]|rw[qy]
  refine Ro_b j (Ro_t (zJ _) ?_);exact f _ ⟨k+1,b,rfl,a,(PV.ext (λi s=>PlK.succ a i s):VU (VU V (PlK A (x.kids.take k))) (PlX A x.kids[k])=VU V (PlK A (x.kids.take (k+1))))▸l,G,H⟩ eI
 .have e:k=x.kids.length:=dM
  subst e;rw[zVb]at c;exact Ro_f (zAc (zVd _)) (Ro_t (zJ _) ⟨_,rfl,d,rfl,c⟩)
end
structure FinB(A:List TokT)(B:List BindT):Prop where
 len:B.length=A.length
 sp:∀i:Int,0<=i->i<(A.length:Int)->0<=(B.getD i.toNat yQ).space/\(B.getD i.toNat yQ).space<=4
 fto:∀i:Int,0<=i->i<(A.length:Int)->-1<=(B.getD i.toNat yQ).fto/\(B.getD i.toNat yQ).fto<(A.length:Int)
 nm:∀i:Int,0<=i->i<(A.length:Int)->((B.getD i.toNat yQ).space≠0↔zY A i=true)
 no:∀i:Int,0<=i->i<(A.length:Int)->(B.getD i.toNat yQ).space=0->(B.getD i.toNat yQ).fto = -1
 eq:∀i:Int,0<=i->i<(A.length:Int)->0<=(B.getD i.toNat yQ).fto->tx A (B.getD i.toNat yQ).fto=tx A i/\B.getD (B.getD i.toNat yQ).fto.toNat yQ=B.getD i.toNat yQ
def FcOk(A:db dw)(V:PV)(F:MT):Prop:=∀t,mgZ F t=0\/∃d,mgZ F t=d+1/\0<=d/\d<(A.length:Int)/\tx A d=t/\V d 3
def Top.fin{A:db dw}{F:MT}{V:PV}{q:WS}(h:Top A F V q)(z:FcOk A V F)(g:∀i:Int,0<=i->i<(A.length:Int)->zY A i=true->∃s,V i s):FinB A q.2.1:=by
 obtain⟨M,b,Q⟩:=h;have n:∀i:Int,0<=i->i<(A.length:Int)->(gB q i=⟨0,-1⟩/\zY A i=false)\/(∃s d,gB q i=⟨s,d⟩/\1<=s/\s<=4/\zY A i=true/\(d = -1\/(0<=d/\d<(A.length:Int)/\tx A d=tx A i/\gB q d=⟨s,d⟩))):=λi a hi=>by
  by_cases c:∃s,V i s
  .obtain⟨s,c⟩:=c;obtain⟨_,_,f,k⟩:=b.dom i s c;obtain⟨d,B,C,D,E⟩:=b.ok i s c;refine .inr ⟨s,d,B,k.1,k.2,f,?_⟩;have j:Cl A V q s d i->d = -1\/(0<=d/\d<(A.length:Int)/\tx A d=tx A i/\gB q d=⟨s,d⟩):=λG=>G.imp id λ⟨v,H,I⟩=>⟨(b.dom _ _ v).1,(b.dom _ _ v).2.1,H,I⟩;by_cases o:s=1\/s=2
   .exact j (C o)
   .by_cases p:s=3
    .subst p;have l:=D rfl;rcases z (tx A i)with e|⟨J,e,r,t,w,u⟩
     .exact .inl dM
     .obtain rfl:d=J:=dM
      obtain⟨x,K,_,L,_⟩:=b.ok d 3 u;have y:=L rfl;rw[w]at y;refine .inr ⟨r,t,w,?_⟩;rw[K,y,<-l]
    .obtain rfl:s=4:=dM
     exact j ((E rfl).1 c)
  .refine .inl ⟨b.nil i a hi λs k=>c ⟨s,k⟩,?_⟩;cases f:zY A i with
   |false=>rfl
   |true=>exact absurd (g i a hi f) c
 have N:∀i:Int,q.2.1.getD i.toNat yQ=gB q i:=λ_=>rfl;refine⟨b.len,λi a hi=>?_,λi a hi=>?_,λi a hi=>?_,λi a hi=>?_,λi a hi=>?_⟩<;>rw[N]<;>rcases n i a hi with⟨e,f⟩|⟨s,d,e,R,O,f,l⟩<;>rw[e]
 .exact⟨zVd _,dP⟩
 .exact⟨by show 0<=s;omega,O⟩
 .exact⟨zVd _,by show(-1:Int)<_;omega⟩
 .show -1<=d/\d<_;rcases l with rfl|⟨r,t,_⟩<;>omega
 .rw[f];exact⟨λh=>absurd rfl h,λh=>dU⟩
 .rw[f];exact⟨λ_=>rfl,λ_=>by show s≠0;omega⟩
 .exact λ_=>rfl
 .intro h;exfalso;replace h:s=0:=h;omega
 .intro h;exfalso;exact absurd h dP
 .intro h;replace h:0<=d:=h;rcases l with rfl|⟨r,t,x,P⟩
  .omega
  .exact⟨x,P⟩
end
section
open Go.Al Go.Den
abbrev as24:db (AK UU):=[]
abbrev rs24:db (AK UU):=[.bool]
abbrev as25:db (AK UU):=[.str]
abbrev rs25:db (AK UU):=[.dl TI.tok]
abbrev as26:db (AK UU):=[.dl TI.tok,.st TI.node]
abbrev as28:db (AK UU):=[.ls TI.bind,.int .i64]
abbrev rs28:db (AK UU):=[.dl TI.int]
abbrev as29:db (AK UU):=[.ls TI.int,.ls TI.int]
abbrev rs29:db (AK UU):=[.bool]
abbrev as43:db (AK UU):=[.str,.str]
abbrev rs43:db (AK UU):=[.dl TI.int]
def kf24:Nat->db Nat
 |0=>[]
 |1=>[1]
 |2=>[1,2]
 |3=>[1,2,3]
 |4=>[1,2,3,4]
 |5=>[1,2,4,5]
 |6=>[1,2,4,5,6]
 |7=>[1,2,4,5,6,7]
 |8=>[1,2,4,5,6,7,8]
 |9=>[1,2,4,5,6,8,9]
 |10=>[6,8,9,10]
 |11=>[0]
 |_=>[]
noncomputable def fd24:FD UU:=mkfd kf24 [] [] [] Tryz.f24 56 [.tmp 0]
def kf25:Nat->db Nat
 |0=>[0]
 |1=>[3]
 |2=>[3,4]
 |3=>[3,4,5]
 |4=>[3,4,5,11]
 |5=>[3,4,5]
 |6=>[3,4,5,19]
 |7=>[3,4,5]
 |8=>[2]
 |_=>[]
def hd25:db (Nat×Head UU):=[(4,⟨[3],[(4,.ow true TI.tok),(5,.int .i64)],[]⟩)]
noncomputable def fd25:FD UU:=mkfd kf25 hd25 [] [] Tryz.f25 28 [.tmp 2]
def kf26:Nat->db Nat
 |0=>[0,3]
 |1=>[0,3,5]
 |2=>[3,5]
 |3=>[3,5,26,27,28]
 |4=>[3,5,26,27,28,29]
 |5=>[3,5,7,26,27,28]
 |6=>[3,5,26,27,28,33,34,35]
 |7=>[3,5,26,27,28,33,34,35,36]
 |8=>[3,5,9,26,27,28,33,34,35]
 |9=>[3,5,9,26,27,28,33,34,35,41]
 |10=>[3,5,10,26,27,28,33,34,35]
 |11=>[3,5,10,11,26,27,28,33,34,35]
 |12=>[3,5,10,26,27,28,33,34,35,59]
 |13=>[3,5,26,27,28,33,34,35]
 |14=>[3,5,26,27,28,33,34,35]
 |15=>[3,5,26,27,28]
 |16=>[3,5]
 |17=>[5]
 |18=>[4]
 |_=>[]
def hd26:db (Nat×Head UU):=[(4,⟨[3,5,26,27],[(28,.int .i64)],[(3,.box [.int .i64,.int .i64,.dl TI.node]),(5,wk0)]⟩),(7,⟨[3,5,26,27,28,33,34],[(35,.int .i64)],[(3,.box [.int .i64,.int .i64,.dl TI.node]),(5,wk0)]⟩)]
noncomputable def fd26:FD UU:=mkfd kf26 hd26 [] [(11,[(51,47,5)]),(13,[(66,62,5)])] Tryz.f26 80 [.tmp 4]
def kf28:Nat->db Nat
 |0=>[0,1]
 |1=>[0,1,23]
 |2=>[4]
 |3=>[0,1,5]
 |4=>[0,1,5,24,25,26]
 |5=>[0,1,5,24,25,26,27]
 |6=>[0,1,5,6,7,24,25,26]
 |7=>[0,1,5,6,24,25,26,36]
 |8=>[0,1,5,24,25,26]
 |9=>[0,1,5,24,25,26]
 |10=>[4]
 |_=>[]
def hd28:db (Nat×Head UU):=[(5,⟨[0,1,24,25],[(5,.ow true TI.int),(26,.int .i64)],[]⟩)]
noncomputable def fd28:FD UU:=mkfd kf28 hd28 [] [] Tryz.f28 43 [.tmp 4]
def kf29:Nat->db Nat
 |0=>[0,1]
 |1=>[0,1,10]
 |2=>[4]
 |3=>[0,1,5]
 |4=>[0,1,5,14]
 |5=>[0,1,5]
 |6=>[0,1,5,25]
 |7=>[4]
 |8=>[4]
 |_=>[]
def hd29:db (Nat×Head UU):=[(4,⟨[0,1],[(5,.int .i64)],[]⟩)]
noncomputable def fd29:FD UU:=mkfd kf29 hd29 [] [] Tryz.f29 26 [.tmp 4]
def kf43:Nat->db Nat
 |0=>[0,1]
 |1=>[1,5]
 |2=>[1,5,6,7]
 |3=>[1,5,6,19]
 |4=>[4]
 |5=>[1,5,8]
 |6=>[1,5,8,9]
 |7=>[1,5,8,9,10]
 |8=>[1,5,8,9,10,32]
 |9=>[1,5,8,9,10]
 |10=>[1,5,8,9,10,41]
 |11=>[1,5,8,9,10]
 |12=>[4]
 |_=>[]
def hd43:db (Nat×Head UU):=[(8,⟨[1,5,8],[(9,.ow true TI.int),(10,.int .i64)],[]⟩)]
noncomputable def fd43:FD UU:=mkfd kf43 hd43 [] [] Tryz.f43 51 [.tmp 4]
noncomputable def run28(fu:Nat)(a:Nat->dd)(b:db dy)(c:Int):da (zj rs28):=
 zAD CC Tb fu 2 (zG []) (zG []) (zG []) (zG []) fd28 as28 rs28 a (b,c,())
def fdok28:FdX (hasN []) (hasN []) 28 fd28:=fdk Tryz.func28 Tryz.ntmps28 Tryz.results28
noncomputable def run29(fu:Nat)(a:Nat->dd)(b:db Int)(c:db Int):da (zj rs29):=
 zAD CC Tb fu 2 (zG []) (zG []) (zG []) (zG []) fd29 as29 rs29 a (b,c,())
def fdok29:FdX (hasN []) (hasN []) 29 fd29:=fdk Tryz.func29 Tryz.ntmps29 Tryz.results29
noncomputable def run25(fu:Nat)(c39:Int×db UInt8×dc->da (db dw×dc))(a:Nat->dd)(b:db UInt8):da (zj rs25):=
 zAD CC Tb fu 2 (zG []) (zG [(39,(⟨as39,rs39,c39⟩:Con UU))]) (zG []) (zG []) fd25 as25 rs25 a (b,())
def fdok25:FdX (hasN [39]) (hasN []) 25 fd25:=fdk Tryz.func25 Tryz.ntmps25 Tryz.results25
noncomputable def run24(fu:Nat)(c29:db Int×db Int×dc->da (dd×dc))(c43:db UInt8×db UInt8×dc->da (db Int×dc))(a:Nat->dd) :da (zj rs24):=
 zAD CC Tb fu 2 (zG []) (zG [(29,(⟨as29,rs29,c29⟩:Con UU)),(43,(⟨as43,rs43,c43⟩:Con UU))]) (zG []) (zG []) fd24 as24 rs24 a ()
def fdok24:FdX (hasN [29,43]) (hasN []) 24 fd24:=fdk Tryz.func24 Tryz.ntmps24 Tryz.results24
def sh26(fu:Nat)(c32:(Nd×(Int×dc))->(da NdsT))(c46:(Int×dc)->LT->(da (Str×dc)))(c44:((db dy)×(Int×dc))->(da ((db dy)×dc)))(i:(Nd×dc)->WW (Int×dc))(c47:dc->WW dc)(j:(Nd×dc)->WW dc)(t:Nat->dd)(o:LT)(g:Nd):(da ((db dy)×dc)):=Option.bind (c44 ([(BindT.mk 0 (Neg.neg 1))],((lenI o),()))) λp=>Option.bind (c32 ((ndE g),(7,()))) λk=>cE p.1 (iter fu (λ(f:((Int×dc)×(JT×(Wk0T×dc)))->da ((db dy)×dc))(c:((Int×dc)×(JT×(Wk0T×dc))))=>let l:=Nd.kids (List.getD k.1 c.1.1.toNat xC);cond (ilt c.1.1 (lenI k.1)) (cond (inB c.1.1 k.1.length) (cE c.2.2.1.2.1 (iter fu (λ(d:((Int×dc)×(JT×(Wk0T×dc)))->da ((db dy)×dc))(b:((Int×dc)×(JT×(Wk0T×dc))))=>let q:=List.getD l b.1.1.toNat xC;let h:=iadd .i64 b.1.1 1;let r:=(b.2.2.1.1,(b.2.2.1.2.1,((),(b.2.2.1.2.2.2.1,(b.2.2.1.2.2.2.2.1,((),()))))));cond (ilt b.1.1 (lenI l)) (cond (inB b.1.1 (List.length l)) (cond (ine (Nd.kind q) 10) (cE b.2.2.1.2.1 (d ((h,()),(b.2.1,(r,()))))) (cE b.2.2.1.2.1 (Option.bind (i ((ndE q),()) (b.2.2.1.1,(b.2.2.1.2.1,([],(b.2.2.1.2.2.2.1,b.2.2.1.2.2.2.2.1))))) λa=>let m:=(a.2.2.2.2.2,((),()));cE a.2.2.1 (Option.bind (c46 (a.1.1,()) a.2.1) λe=>let s:=mpG a.2.2.2.2.1 e.1;cond (ieq s 0) (cE a.2.2.1 (Option.bind (c46 (a.1.1,()) a.2.1) λn=>cE a.2.2.1 (d ((h,()),(b.2.1,((a.2.1,(a.2.2.1,((),((mpP a.2.2.2.2.1 n.1 (iadd .i64 a.1.1 1)),m)))),())))))) (cond (ilt a.1.1 s) (cE a.2.2.1 (Option.bind (c46 (a.1.1,()) a.2.1) λn=>cE a.2.2.1 (d ((h,()),(b.2.1,((a.2.1,(a.2.2.1,((),((mpP a.2.2.2.2.1 n.1 (iadd .i64 a.1.1 1)),m)))),())))))) (cE a.2.2.1 (d ((h,()),(b.2.1,((a.2.1,(a.2.2.1,((),(a.2.2.2.2.1,m)))),())))))))))) (none)) (cE b.2.2.1.2.1 (f (((iadd .i64 c.1.1 1),()),(b.2.1,(r,())))))) ((0,()),(c.2.1,((c.2.2.1.1,(c.2.2.1.2.1,((),(c.2.2.1.2.2.2.1,(c.2.2.1.2.2.2.2.1,((),())))))),()))))) (none)) (cE c.2.2.1.2.1 (Option.bind (c47 () (c.2.2.1.1,(c.2.2.1.2.1,([],(c.2.2.1.2.2.2.1,c.2.2.1.2.2.2.2.1))))) λa=>cE a.2.2.1 (Option.bind (j ((Nd.mk c.2.1.1 c.2.1.2.1 c.2.1.2.2.1),()) a.2) λe=>cond (Nat.ble e.2.2.1.length e.2.2.1.length) (cond (cond false (List.isEmpty (qq e.2.2.1.length e.2.2.1)) (!(List.isEmpty (qq e.2.2.1.length e.2.2.1)))) (some ((qq e.2.2.1.length e.2.2.1),())) (none)) (none))))) ((0,()),(((Nd.kind g),((Nd.tok g),((Nd.kids g),()))),((o,(p.1,((),([],([],((),())))))),()))))
def sh28(fu:Nat)(e:Nat->dd)(b:(db dy))(d:Int):(da ((db Int)×dc)):=cond (ilt d 0) (some ([],())) (cond (ile (lenI b) d) (some ([],())) (cond (inB d b.length) (cond (ilt (List.getD b d.toNat yQ).fto 0) (some ([],())) (iter fu (λ(c:(((db Int)×(Int×dc))×dc)->da ((db Int)×dc))(a:(((db Int)×(Int×dc))×dc))=>cond (ilt a.1.2.1 (lenI b)) (cond (inB a.1.2.1 b.length) (cond (inB d b.length) (cond (dEqs (U:=UU) [(T.int .i64 (List.getD b a.1.2.1.toNat yQ).space),(T.int .i64 (List.getD b a.1.2.1.toNat yQ).fto)] [(T.int .i64 (List.getD b d.toNat yQ).space),(T.int .i64 (List.getD b d.toNat yQ).fto)]) (cond (okN 8 (a.1.1.length+(List.length [a.1.2.1]))) (c (((a.1.1++[a.1.2.1]),((iadd .i64 a.1.2.1 1),())),())) (none)) (c ((a.1.1,((iadd .i64 a.1.2.1 1),())),()))) (none)) (none)) (some (a.1.1,()))) (([],(0,())),()))) (none)))
def eq28:@run28=@sh28:=dO
def sh29(fu:Nat)(e:Nat->dd)(c:(db Int))(d:(db Int)):(da (dd×dc)):=cond (ine (lenI c) (lenI d)) (some (false,())) (iter fu (λ(b:((Int×dc)×dc)->da (dd×dc))(a:((Int×dc)×dc))=>cond (ilt a.1.1 (lenI c)) (cond (inB a.1.1 c.length) (cond (inB a.1.1 d.length) (cond (ine (List.getD c a.1.1.toNat 0) (List.getD d a.1.1.toNat 0)) (some (false,())) (b (((iadd .i64 a.1.1 1),()),()))) (none)) (none)) (some (true,()))) ((0,()),()))
def eq29:@run29=@sh29:=dO
def sh25(fu:Nat)(c39:(Int×(Str×dc))->(da (LT×dc)))(g:Nat->dd)(f:Str):(da (LT×dc)):=Option.bind (c39 (0,(f,()))) λd=>iter fu (λ(c:((LT×(Int×dc))×dc)->da (LT×dc))(b:((LT×(Int×dc))×dc))=>let e:=inB b.1.2.1 d.1.length;let a:=List.getD d.1 b.1.2.1.toNat tokD;cond (ilt b.1.2.1 (lenI d.1)) (cond e (cond (ine a.kind 7) (cond e (cond (okN 56 (b.1.1.length+(List.length [(TokT.mk a.kind a.text a.file a.ffrom a.fto a.blank)]))) (c (((b.1.1++[(TokT.mk a.kind a.text a.file a.ffrom a.fto a.blank)]),((iadd .i64 b.1.2.1 1),())),())) (none)) (none)) (c ((b.1.1,((iadd .i64 b.1.2.1 1),())),()))) (none)) (some (b.1.1,()))) (([],(0,())),())
def eq25:@run25=@sh25:=dO
def sh43(fu:Nat)(c17:(LT×dc)->(da (Nd×(Int×dc))))(c25:(Str×dc)->(da (LT×dc)))(c26:(LT×(Nd×dc))->(da ((db dy)×dc)))(i:Nat->dd)(g:Str)(h:Str):(da ((db Int)×dc)):=Option.bind (c25 (g,())) λc=>Option.bind (c17 (c.1,())) λe=>cond (ine e.2.1 0) (some ([],())) (Option.bind (c26 (c.1,((ndE e.1),()))) λd=>iter fu (λ(b:(((db Int)×(Int×dc))×dc)->da ((db Int)×dc))(a:(((db Int)×(Int×dc))×dc))=>let f:=List.getD d.1 a.1.2.1.toNat yQ;cond (ilt a.1.2.1 (lenI c.1)) (cond (ilt a.1.2.1 (lenI d.1)) (cond (inB a.1.2.1 c.1.length) (cond (seq (List.getD c.1 a.1.2.1.toNat tokD).text h) (cond (inB a.1.2.1 d.1.length) (cond (okN 8 (a.1.1.length+(List.length [f.fto]))) (b (((a.1.1++[f.fto]),((iadd .i64 a.1.2.1 1),())),())) (none)) (none)) (b ((a.1.1,((iadd .i64 a.1.2.1 1),())),()))) (none)) (some (a.1.1,()))) (some (a.1.1,()))) (([],(0,())),()))
def sh24(fu:Nat)(c29:((db Int)×((db Int)×dc))->(da (dd×dc)))(c43:(Str×(Str×dc))->(da ((db Int)×dc)))(h:Nat->dd):(da (dd×dc)):=Option.bind (c43 ([105,110,116,32,120,59,32,105,110,116,32,102,40,105,110,116,32,120,41,32,123,32,114,101,116,117,114,110,32,120,59,32,125],([120],()))) λa=>Option.bind (c43 ([105,110,116,32,120,59,32,105,110,116,32,102,40,41,32,123,32,105,110,116,32,120,32,61,32,120,59,32,125],([120],()))) λb=>Option.bind (c43 ([115,116,114,117,99,116,32,83,32,123,32,105,110,116,32,97,59,32,125,32,115,59,32,105,110,116,32,102,40,41,32,123,32,115,46,97,59,32,125],([97],()))) λc=>Option.bind (c43 ([115,116,114,117,99,116,32,83,32,123,32,105,110,116,32,97,59,32,125,32,115,59,32,105,110,116,32,102,40,41,32,123,32,115,46,97,59,32,125],([115],()))) λd=>Option.bind (c43 ([105,110,116,32,102,40,41,32,123,32,103,111,116,111,32,76,59,32,76,58,32,59,32,125],([76],()))) λe=>Option.bind (c43 ([105,110,116,32,120,59,32,105,110,116,32,120,59,32,105,110,116,32,102,40,41,32,123,32,121,59,32,125],([120],()))) λf=>Option.bind (c43 ([105,110,116,32,120,59,32,105,110,116,32,120,59,32,105,110,116,32,102,40,41,32,123,32,121,59,32,125],([121],()))) λg=>Option.bind (c29 (a.1,([1,7,7],()))) λy7=>cond y7.1 (Option.bind (c29 (b.1,([1,9,9],()))) λy8=>cond y8.1 (Option.bind (c29 (c.1,([4,4],()))) λy9=>cond y9.1 (Option.bind (c29 (d.1,([7,7],()))) λy10=>cond y10.1 (Option.bind (c29 (e.1,([8,8],()))) λy11=>cond y11.1 (Option.bind (c29 (f.1,([1,1],()))) λy12=>cond y12.1 (Option.bind (c29 (g.1,([(Neg.neg 1)],()))) λy13=>some (y13.1,())) (some (false,()))) (some (false,()))) (some (false,()))) (some (false,()))) (some (false,()))) (some (false,()))
def eq24:@run24=@sh24:=dO
def con28(fu:Nat) :CoX 28 ⟨as28,rs28,λx=>sh28 fu (λ_=>false) x.1 x.2.1⟩:=
 rfk zC zC zC zC fdok28 rfl (qj rfl) (λa x=>by show run28 fu a x.1 x.2.1=_;rw[eq28];rfl)
def con29(fu:Nat) :CoX 29 ⟨as29,rs29,λx=>sh29 fu (λ_=>false) x.1 x.2.1⟩:=
 rfk zC zC zC zC fdok29 rfl (qj rfl) (λa x=>by show run29 fu a x.1 x.2.1=_;rw[eq29];rfl)
def con25(fu:Nat)(c39:zj as39->da (zj rs39))(a:CoX 39 ⟨as39,rs39,c39⟩):CoX 25 ⟨as25,rs25,λx=>sh25 fu c39 (λ_=>false) x.1⟩:=
 rfk zC (zD (OrcOk.of ⟨dO,a⟩ rfl) zC) zC zC fdok25 rfl (qj rfl) (λb x=>by show run25 fu c39 b x.1=_;rw[eq25];rfl)
def con24(fu:Nat)(c29:zj as29->da (zj rs29))(a:CoX 29 ⟨as29,rs29,c29⟩)(c43:zj as43->da (zj rs43))(b:CoX 43 ⟨as43,rs43,c43⟩):CoX 24 ⟨as24,rs24,λx=>sh24 fu c29 c43 (λ_=>false)⟩:=
 rfk zC (zD (OrcOk.of ⟨dO,a⟩ rfl) (zD (OrcOk.of ⟨dO,b⟩ rfl) zC)) zC zC fdok24 rfl (qj rfl) (λc x=>by show run24 fu c29 c43 c=_;rw[eq24];rfl)
def eqBd(a b:dy):dd:=cond (ieq a.space b.space) (cond (ieq a.fto b.fto) true false) false
def zTB(a b:dy):dEqs (U:=UU) [T.int .i64 a.space,T.int .i64 a.fto] [T.int .i64 b.space,T.int .i64 b.fto]=eqBd a b:=rfl
def zP3(a:dy):eqBd a a=true:=by simp[eqBd,ieq]
def upto(p:Nat->dd):Nat->db Int
 |0=>[]
 |k+1=>upto p k++(if p k=true then[(k:Int)]else[])
def zO8{p:Nat->dd}{k:Nat}(h:p k=true):upto p (k+1)=upto p k++[(k:Int)]:=by
 show upto p k++(if p k=true then[(k:Int)]else[])=_;rw[if_pos h]
def zPa{p:Nat->dd}{k:Nat}(h:p k=false):upto p (k+1)=upto p k:=by
 show upto p k++(if p k=true then[(k:Int)]else[])=_;rw[h,if_neg dQ,zUR]
def zHP(p:Nat->dd):∀k,(upto p k).length<=k
 |0=>zUB _
 |k+1=>by
  have:=zHP p k;unfold upto;split<;>simp<;>omega
def zBd(p:Nat->dd)(h:∀k,p k=false):∀k,upto p k=[]
 |0=>rfl
 |k+1=>by unfold upto;rw[zBd p h k,h k];rfl
def useP(l:db dy)(at_:Int)(i:Nat):dd:=decide (0<=at_)&&decide (at_<l.length)&&decide (0<=(l.getD at_.toNat yQ).fto)&&eqBd (l.getD i yQ) (l.getD at_.toNat yQ)
def kP(l:db dy)(at_:Int):db Int:=upto (useP l at_) l.length
def ok8{n:Nat}(h:n<=1000):okN 8 n=true:=zCn dM (by simp only[maxLen];omega)
def inc{i:Nat}(h:i<=1000):iadd .i64 (i:Int) 1=((i+1:Nat):Int):=by
 show IntKind.i64.wrap _=_;rw[IntWalk.i64_in _ dM];omega
def zEg{i n:Nat}(h:i<n):inB (i:Int) n=true:=by
 have a:decide ((0:Int)<=(i:Int))=true:=zUg dM;have b:decide ((i:Int)<(n:Int))=true:=zUg dM;simp only[inB,a,b,zUP]
def zQC(fu:Nat)(i:Nat->dd)(l:db dy)(at_:Int)(m:l.length<=500)(j:1000<fu):sh28 fu i l at_=some (kP l at_,()):=by
 unfold sh28 kP;by_cases d:at_<0
 .rw[show ilt at_ 0=true from zUg d,zUi,zBd];intro k;unfold useP;rw[show decide (0<=at_)=false from zUh dM];rfl
 rw[show ilt at_ 0=false from zUh d,zUk];by_cases e:(l.length:Int)<=at_
 .rw[show ile (lenI l) at_=true from zUg e,zUi,zBd];intro k;unfold useP;rw[show decide (at_<(l.length:Int))=false from zUh dM];simp
 rw[show ile (lenI l) at_=false from zUh e,zUk];obtain⟨a,rfl⟩:∃a:Nat,at_=a:=⟨at_.toNat,dM⟩;rw[zEg dM,zUi];simp only[zU3];by_cases f:(l.getD a yQ).fto<0
 .rw[show ilt (l.getD a yQ).fto 0=true from zUg f,zUi,zBd];intro k;unfold useP;rw[show decide (0<=(l.getD (a:Int).toNat yQ).fto)=false from zUh (by simp only[zU3];omega)];simp
 rw[show ilt (l.getD a yQ).fto 0=false from zUh f,zUk];have g:∀k,useP l (a:Int) k=eqBd (l.getD k yQ) (l.getD a yQ):=λk=>by
  unfold useP;rw[show decide ((0:Int)<=(a:Int))=true from zUg dM,show decide ((a:Int)<(l.length:Int))=true from zUg dM,show decide (0<=(l.getD (a:Int).toNat yQ).fto)=true from zUg (by simp only[zU3];omega)];simp
 refine zHL (λs=>∃k:Nat,s=((upto (useP l (a:Int)) k,((k:Int),())),())/\k<=l.length) (λs=>l.length-s.1.2.1.toNat) ?_ fu _ ⟨0,rfl,Nat.zero_le _⟩ d4;rintro rec s ⟨k,rfl,n⟩ b;dsimp only;by_cases c:k<l.length
 .rw[show ilt (k:Int) (lenI l)=true from zUg et,zUi,zEg c,zUi,zUi];simp only[zU3,zTB];have o:=zHP (useP l (a:Int)) k;rw[inc dM];cases h:eqBd (l.getD k yQ) (l.getD a yQ)with
  |true=>
   rw[cond_true,ok8 d4,cond_true];refine b _ ⟨k+1,?_,c⟩ dV;rw[zO8 (by rw[g k,h])]
  |false=>
   rw[cond_false];refine b _ ⟨k+1,?_,c⟩ dV;rw[zPa (by rw[g k,h])]
 .obtain rfl:k=l.length:=dM
  rw[show ilt (l.length:Int) (lenI l)=false from zUh eu,zUk]
def c28(x:db dy×Int×dc):da (db Int×dc):=if x.1.length<=500 then some (kP x.1 x.2.1,())else none
def ok28:CoX 28 ⟨as28,rs28,c28⟩:=(con28 1001).sub λx y h=>by
 obtain⟨l,i,u⟩:=x;unfold c28 at h;split at h
 .rename_i a;injection h with h
  subst h;exact zQC 1001 _ l i a dM
 .cases h
def eqI(a b:db Int):dd:=!ine (lenI a) (lenI b)&&(List.range a.length).all λi=>!ine (a.getD i 0) (b.getD i 0)
def zRT(a:db Int):eqI a a=true:=by
 have h:∀z:Int,ine z z=false:=λz=>by simp[ine]
 simp only[eqI,h,zWE,zUU,zUb,zUr]
def zTb(fu:Nat)(m:Nat->dd)(a b:db Int)(q:a.length<=500)(n:1000<fu):sh29 fu m a b=some (eqI a b,()):=by
 unfold sh29 eqI;cases e:ine (lenI a) (lenI b)with
 |true=>rfl
 |false=>
  have g:a.length=b.length:=by
   unfold ine at e;have:((a.length:Int)==(b.length:Int))=true:=by
    have o:(!((a.length:Int)==(b.length:Int)))=false:=e;simpa using o
   have:=eq_of_beq this;omega
  rw[cond_false,Bool.not_false,Bool.true_and];refine zHL (λs=>∃k:Nat,s=(((k:Int),()),())/\k<=a.length/\∀j,j<k->ine (a.getD j 0) (b.getD j 0)=false) (λs=>a.length-s.1.1.toNat) ?_ fu _ ⟨0,rfl,Nat.zero_le _,λj p=>dM⟩ d4;rintro rec s ⟨k,rfl,r,c⟩ f;dsimp only;by_cases d:k<a.length
  .rw[show ilt (k:Int) (lenI a)=true from zUg (by show(k:Int)<(a.length:Int);omega),zUi,zEg d,zUi,zEg dM,zUi];simp only[zU3];cases l:ine (a.getD k 0) (b.getD k 0)with
   |false=>
    rw[cond_false,inc dM];refine f _ ⟨k+1,rfl,d,λj p=>?_⟩ dV;rcases Nat.lt_or_ge j k with h|h
    .exact c j h
    .obtain rfl:j=k:=dM
     exact l
   |true=>
    rw[zUi];have:((List.range a.length).all λi=>!ine (a.getD i 0) (b.getD i 0))=false:=by
     rw[List.all_eq_false];exact⟨k,zVt.2 d,by rw[l];simp⟩
    rw[this]
  .obtain rfl:k=a.length:=dM
   rw[show ilt (a.length:Int) (lenI a)=false from zUh (by show ¬(a.length:Int)<(a.length:Int);omega),zUk];have:((List.range a.length).all λi=>!ine (a.getD i 0) (b.getD i 0))=true:=by
    rw[zUb];exact λi hi=>by rw[c i (zVt.1 hi)];rfl
   rw[this]
def c29(x:db Int×db Int×dc):da (dd×dc):=if x.1.length<=500 then some (eqI x.1 x.2.1,())else none
def ok29:CoX 29 ⟨as29,rs29,c29⟩:=(con29 1001).sub λx y h=>by
 obtain⟨a,b,u⟩:=x;unfold c29 at h;split at h
 .rename_i c;injection h with h
  subst h;exact zTb 1001 _ a b c dM
 .cases h
def kf1045:Nat->db Nat
 |0=>[0,3]
 |1=>[0,8,9,10]
 |2=>[0,8,9,10,11]
 |3=>[0,6,8,9,10]
 |4=>[0,6,8,9,10,16]
 |5=>[0,4]
 |6=>[0,6,8,9,10,28]
 |7=>[0,4]
 |8=>[0,8,9,10]
 |9=>[0,4]
 |_=>[]
def hd1045:db (Nat×Head UU):=[(2,⟨[0,8,9],[(10,.int .i64)],[(0,wk0)]⟩)]
noncomputable def zPL:FD UU:=mkfd kf1045 hd1045 [] [] Tryz.f45 32 [.tmp 4]
def kf1067:Nat->db Nat
 |0=>[0,1]
 |1=>[0,4]
 |_=>[]
noncomputable def zQA:FD UU:=mkfd kf1067 [] [] [] Tryz.f67 26 [.tmp 4]
noncomputable def run1067(fu:Nat)(c15:db UInt8×dc->da (dd×dc))(x:zA [wk0])(a:zA kI):da (da (zA [wk0]×zA kB)):=
 runP CC Tb fu 2 (zG []) (zG [(15,(⟨as15,rs15,c15⟩:Con UU))]) (zG []) (zG []) zQA [wk0] [wk0] kI kB x a
def zRU:FdX (hasN [15]) (hasN []) 67 zQA:=fdk Tryz.func67 Tryz.ntmps67 Tryz.results67
noncomputable def run1045(fu:Nat)(b:zA kN->WW (zA kI))(c:zA kI->WW (zA kB))(x:zA [wk0])(a:zA kN):da (da (zA [wk0]×zA kI)):=
 runP CC Tb fu 2 (zG []) (zG []) (zG []) (zG [(45,cW0 kN kI b),(67,cW0 kI kB c)]) zPL [wk0] [wk0] kN kI x a
def zQX:FdX (hasN []) (hasN []) 45 zPL:=fdk Tryz.func45 Tryz.ntmps45 Tryz.results45
def sh1067(fu:Nat)(c15:(Str×dc)->(da (dd×dc)))(x:(Wk0T×dc))(a:(Int×dc)):(da (da ((Wk0T×dc)×(dd×dc)))) :=  let b:=List.getD x.1.1 a.1.toNat tokD;let c:=(x.1.1,(x.1.2.1,((),(x.1.2.2.2.1,(x.1.2.2.2.2.1,((),()))))));cond (inB a.1 x.1.1.length) (cond (ieq b.kind 1) (cond (inB a.1 x.1.1.length) (Option.bind (c15 (b.text,())) λd=>cE x.1.2.1 (some (some ((c,()),((!d.1),()))))) (none)) (cE x.1.2.1 (some (some ((c,()),(false,())))))) (none)
def eq1067:@run1067=@sh1067:=dO
def sh1045(fu:Nat)(f:(Nd×dc)->WW (Int×dc))(g:(Int×dc)->WW (dd×dc))(x:(Wk0T×dc))(a:(Nd×dc)):(da (da ((Wk0T×dc)×(Int×dc)))):=cE x.1.2.1 (iter fu (λ(d:((Int×dc)×(Wk0T×dc))->da (da ((Wk0T×dc)×(Int×dc))))(b:((Int×dc)×(Wk0T×dc)))=>let h:=(b.2.1.2.2.2.1,b.2.1.2.2.2.2.1);let i:=(b.2.1.1,(b.2.1.2.1,((),(b.2.1.2.2.2.1,(b.2.1.2.2.2.2.1,((),()))))));let e:=List.getD (Nd.kids a.1) b.1.1.toNat xC;cond (ilt b.1.1 (lenI (Nd.kids a.1))) (cond (inB b.1.1 (List.length (Nd.kids a.1))) (cond (ieq (Nd.kind e) 10) (cE b.2.1.2.1 (Option.bind (f ((ndE e),()) (b.2.1.1,(b.2.1.2.1,([],h)))) λc=>cE c.2.2.1 (some (some (((c.2.1,(c.2.2.1,((),(c.2.2.2.2.1,(c.2.2.2.2.2,((),())))))),()),(c.1.1,())))))) (cond (ieq (Nd.kind e) 0) (cE b.2.1.2.1 (Option.bind (g ((Nd.tok e),()) (b.2.1.1,(b.2.1.2.1,([],h)))) λc=>let j:=(c.2.1,(c.2.2.1,((),(c.2.2.2.2.1,(c.2.2.2.2.2,((),()))))));cond c.1.1 (cE c.2.2.1 (some (some ((j,()),((Nd.tok e),()))))) (cE c.2.2.1 (d (((iadd .i64 b.1.1 1),()),(j,())))))) (cE b.2.1.2.1 (d (((iadd .i64 b.1.1 1),()),(i,())))))) (none)) (cE b.2.1.2.1 (some (some ((i,()),((Neg.neg 1),())))))) ((0,()),((x.1.1,(x.1.2.1,((),(x.1.2.2.2.1,(x.1.2.2.2.2.1,((),())))))),())))
def eq1045:@run1045=@sh1045:=dO
def con1067(fu:Nat)(c15:zj as15->da (zj rs15))(b:CoX 15 ⟨as15,rs15,c15⟩):CQ 67 (cW0 kI kB (mW0 (sh1067 fu c15))):=
 zPH (rpk zC (zD (OrcOk.of ⟨dO,b⟩ rfl) zC) zC zC zRU rfl (λx a=>by rw[<-eq1067];rfl))
def con1045(fu:Nat)(b:zA kN->WW (zA kI))(d:CQ 45 (cW0 kN kI b))(c:zA kI->WW (zA kB))(e:CQ 67 (cW0 kI kB c)):CQ 45 (cW0 kN kI (mW0 (sh1045 fu b c))):=
 zPH (rpk zC zC zC (zD ⟨dO,d⟩ (zD ⟨dO,e⟩ zC)) zQX rfl (λx a=>by rw[<-eq1045];rfl))
end
end Go.Proofs.YtnamdpbcpnnhaaaGreatDoor
section
namespace Go.Proofs
open Go.Shelf
def Tryz.lays212_ren:Go.Shelf.Ren:=⟨λ|212=>66|263=>96|264=>97|n=>n,λ|46=>109|51=>131|53=>134|146=>132|148=>135|n=>n,λ|n=>n⟩
def Tryz.lays212:Go.Proofs.Lays.n212 Tryz.prog Tryz.lays212_ren:={
 mixed:=dO
 f212:=Tryz.func66.trans (zU1 some dO)
 f263:=Tryz.func96.trans (zU1 some dO)
 f264:=Tryz.func97.trans (zU1 some dO)
 t46:=Tryz.underlying109
 a46:=Tryz.isAgg109
 z46:=Tryz.sizeOf109
 v46:=Tryz.zeroValue109
 t51:=Tryz.underlying131
 a51:=Tryz.isAgg131
 z51:=Tryz.sizeOf131
 v51:=Tryz.zeroValue131
 t53:=Tryz.underlying134
 a53:=Tryz.isAgg134
 z53:=Tryz.sizeOf134
 v53:=Tryz.zeroValue134
 t146:=Tryz.underlying132
 a146:=Tryz.isAgg132
 z146:=Tryz.sizeOf132
 v146:=Tryz.zeroValue132
 t148:=Tryz.underlying135
 a148:=Tryz.isAgg135
 z148:=Tryz.sizeOf135
 v148:=Tryz.zeroValue135 }
open Go.RowKit in
def Tryz.bits_Mul(x y:Nat)(a:x<18446744073709551616)(b:y<18446744073709551616)(w:World) :
 Calls Tryz.prog 66 #[.int .u64 x,.int .u64 y] w λe w'=>e=.returned (.tuple #[.int .u64 ((x*y / 18446744073709551616:Nat):Int),.int .u64 ((x*y % 18446744073709551616:Nat):Int)])/\w'=w:=Any.bits_Mul Tryz.lays212 x y a b w
end Go.Proofs
namespace Go.Proofs.YtnamdpbcpnnhaaaGreatDoor
open Go.Al Go.Den Go.RowKit Go.Shelf
attribute [local go_sem] Oper.semAt_some
def zJH{P:di}(w:de)(n q r b:dg)(g o dLen e:Nat)(a:Addr)(c f:Nat)(d:dv dh)(t:dg)(cs:db dh)
 (s:P.underlying n=some (.slice b)) (p:(P.info? b).map (·.size)=some 2)
 (u:w.heap[g]?=some (.cells d t (0,0))) (x:cs.length=Nat.min c dLen*2)
 (h:∀j v,cs[j]?=some v->w.cell? (a.add j)=some v) (k:o+cs.length<=d.size) (y:∀v∈cs,v.oneCell'=true) :
 (Builtin.copy_ #[n,q] r #[.slice (some ⟨g,o,none⟩) dLen e,.slice (some a) c f]).run P w =
  .ok (goInt (Nat.min c dLen)) (w.setRow g (d.toList.take o++cs++d.toList.drop (o+cs.length)).toArray):=by
 have z:=run_loadCells_list (P:=P) w a cs h;have l:=run_storeCells_at P g o t cs 0 d w u (by simpa using k) y;cases m:P.info? b with
 |none=>simp[m]at p
 |some i=>
  have hi:i.size=2:=by simpa [m]using p
  simp[Builtin.copy_,run_underlying s,Builtin.lenOf,Builtin.firstCells,sizeOf,typeInfo,m,hi,<-x,z,l]
def zGH{P:di}{w:de}{ops:dv dr}{i:db dr}{o:dr}{a:Act}{Q:dA->Act->de->Prop}(q:o.guard=none)(d s:dq)(r y:dg)
 (z:o.op=.call { callee:=.builtin .copy,args:=#[d,s],argTypes:=#[r,y] }) (c:dg) (A:P.underlying r=some (.slice c)) (u:(P.info? c).map (·.size)=some 2)
 (g e dLen k:Nat) (x:Addr) (b l:Nat) (B:a.eval d=.slice (some ⟨g,e,none⟩) dLen k) (C:a.eval s=.slice (some x) b l)
 (f:dv dh) (t:dg) (D:w.heap[g]?=some (.cells f t (0,0))) (cs:db dh) (E:cs.length=Nat.min b dLen*2)
 (m:∀j v,cs[j]?=some v->w.cell? (x.add j)=some v) (n:e+cs.length<=f.size) (F:∀v∈cs,v.oneCell'=true)
 (h:∀w',Hid (w'=w.setRow g (splice f.toList e cs).toArray)->wpList P ops Q i (a.put o.dst (goInt (Nat.min b dLen))) w'):wpList P ops Q (o::i) a w:=by
 refine wpList_plain q λK G=>?_;have p:=zJH (P:=P) w r y o.type c g e dLen k x b l f t cs A u D E m n F;unfold Oper.wp;simp[execOp,z,resolve,invoke,builtin,B,C,p,Result.andThen];simp only[splice]at h;refine G _ _ (h _ (show _=_ from ?_));simp
def zOm{P:di}{ops:dv dr}{o:dr}{a:Act}{w:de}{K:Act->de->Prop}{Q:dA->Act->de->Prop}{E:Prop}(p:o.guard=none)(d s:dq)(q x:dg)
 (y:o.op=.call { callee:=.builtin .copy,args:=#[d,s],argTypes:=#[q,x] }) (c:dg) (z:P.underlying q=some (.slice c)) (r:(P.info? c).map (·.size)=some 2)
 (g e dLen i:Nat) (u:Addr) (b k:Nat) (A:a.eval d=.slice (some ⟨g,e,none⟩) dLen i) (B:a.eval s=.slice (some u) b k)
 (f:dv dh) (t:dg) (C:w.heap[g]?=some (.cells f t (0,0))) (cs:db dh) (D:cs.length=Nat.min b dLen*2)
 (l:∀j v,cs[j]?=some v->w.cell? (u.add j)=some v) (m:e+cs.length<=f.size) (F:∀v∈cs,v.oneCell'=true)
 (h:∀w',Hid (w'=w.setRow g (splice f.toList e cs).toArray)->K (a.put o.dst (goInt (Nat.min b dLen))) w') :
 if Region.wanted o (yielded ops a.tmps)=true then Oper.wp P o a w K Q else E:=by
 have G:Region.wanted o (yielded ops a.tmps)=true:=by simp[Region.wanted,p]
 rw[if_pos G];have n:=zJH (P:=P) w q x o.type c g e dLen i u b k f t cs z r C D l m F;unfold Oper.wp;simp[execOp,y,resolve,invoke,builtin,A,B,n,Result.andThen];simp only[splice]at h;refine h _ (show _=_ from ?_);simp
def made2(v:dh)(m:Nat):madeCells #[v,v] m=Array.replicate m v:=by
 apply zVk;apply zWA;intro j;by_cases b:j<m
 .have a:j % 2=0\/j % 2=1:=dM
  rcases a with a|a<;>simp[madeCells,b,a]
 .simp[madeCells,b]
def zF0{P:di}(w:de){ops:dv dr}{b:db dr}{o:dr}{a:Act}{Q:dA->Act->de->Prop}
 (u:o.guard=none) (l c:dq) (t:dg) (j:o.op=Op.makeSlice t l c) (e:dg) (v:P.underlying t=some (.slice e)) (d:(P.info? e).map (·.size)=some 2) (g:∃m,(P.info? e).map (·.bytes)=some m/\m<=1000) (h:(P.info? e).map (·.zero)=some (some (.agg #[.int .i64 0,.int .i64 0])))
 (kl r:dm) (n:Nat) (x:a.eval l=.int kl (n:Int)) (y:a.eval c=.int r (n:Int)) (A:n<1000000)
 (z:wpList P ops Q b (a.put o.dst (.slice (some ⟨w.heap.size,0,none⟩) n n)) (w.alloc (.cells (Array.replicate (n*2) (Value.int .i64 0)) e))):wpList P ops Q (o::b) a w:=by
 refine wpList_plain u λK k=>?_;cases p:P.info? e with
 |none=>rw[p]at d;cases d
 |some i=>
  rw[p]at d g h;obtain⟨m,g,B⟩:=g;injection d with d
  injection g with g
  injection h with h
  replace g:i.bytes=m:=g;replace d:i.size=2:=d;replace h:i.zero=some (.agg #[.int .i64 0,.int .i64 0]):=h;have s:i.bytes*n<=1000*1000000:=Nat.mul_le_mul dM dM;have q:(i.bytes:Int)*(n:Int)<=281474976710656:=by
   have:((i.bytes*n:Nat):Int)<=281474976710656:=dM
   rwa [Int.natCast_mul]at this
  have f:=run_make (P:=P) w t e i _ v p h kl r n n dM (zVd _) q dM;rw[zU3,d,show(Value.agg #[.int .i64 0,.int .i64 0]).cells=#[Value.int .i64 0,.int .i64 0]from rfl,made2]at f;unfold Oper.wp;simp[execOp,j,x,y,f,Result.andThen];exact k _ _ z
def bd2(x y:Int):db dh:=[.int .i64 x,.int .i64 y]
def row2(x y:Int)(k m:Nat):db dh:=(List.replicate k (bd2 x y)).flatten++List.replicate (m*2) (.int .i64 0)
def zCJ(x y:Int):∀k,(List.replicate k (bd2 x y)).flatten.length=k*2
 |0=>rfl
 |k+1=>by rw[List.replicate_succ,List.flatten_cons,zUI,zCJ x y k];simp[bd2];omega
def zCY(x y:Int)(k m:Nat):(row2 x y k m).length=(k+m)*2:=by
 simp[row2,zCJ x y k];omega
def zJP(x y:Int)(k r m:Nat)(h:m<=k):(row2 x y k r).take (m*2)=(List.replicate m (bd2 x y)).flatten:=by
 obtain⟨d,rfl⟩:∃d,k=m+d:=⟨k-m,dM⟩;unfold row2;rw[<-List.replicate_append_replicate,List.flatten_append,zVB,zV9 (by rw[zCJ];exact zUB _),zU5 (by rw[zCJ];exact zUB _)]
def zOa(x y:Int)(k r m:Nat)(a:m<=k)(c:m<=r):splice (row2 x y k r) (k*2) ((row2 x y k r).take (m*2))=row2 x y (k+m) (r-m):=by
 rw[zJP x y k r m a];unfold splice;rw[zJP x y k r k (zUB _),zCJ];have b:(row2 x y k r).drop (k*2+m*2)=List.replicate ((r-m)*2) (.int .i64 0):=by
  unfold row2;rw[List.drop_append,zCJ,zWS (by rw[zCJ];omega),zUQ,List.drop_replicate];congr 1;omega
 rw[b,<-zVB,<-List.flatten_append,List.replicate_append_replicate];rfl
def zLr(x y:Int)(n:Nat)(a:1<=n):splice (List.replicate (n*2) (Value.int .i64 0)) 0 (bd2 x y)=row2 x y 1 (n-1):=by
 unfold splice row2;rw[zUl,zUQ,List.drop_replicate,show n*2-(0+(bd2 x y).length)=(n-1)*2 by simp[bd2];omega];rfl
def zRq(x y:Int)(k m:Nat):∀v∈row2 x y k m,v.oneCell'=true:=by
 intro v a;rcases zUa.1 a with a|a
 .obtain⟨l,b,a⟩:=List.mem_flatten.1 a;rw[(List.mem_replicate.1 b).2]at a;simp only[bd2,zUG,zU4,zVL]at a;rcases a with rfl|rfl<;>rfl
 .rw[(List.mem_replicate.1 a).2];rfl
set_option maxRecDepth 100000 in
def zSk(x y:Int)(n:Nat)(hn:1<=n)(hn2:n<1000000)(b o cap:Nat)(w:de)(c0:w.cell? ⟨b,o,none⟩=some (.int .i64 x))(c1:w.cell? ⟨b,o+1,none⟩=some (.int .i64 y))(hb:b<w.heap.size) :
 Calls Tryz.prog 44 #[.slice (some ⟨b,o,none⟩) 1 cap,.int .i64 (n:Int)] w λe w'=>e=.returned (.slice (some ⟨w.heap.size,0,none⟩) n n)/\dC w.heap.size w w'/\w'.heap[w.heap.size]?=some (.cells (row2 x y n 0).toArray 47 (0,0)):=by
 have hw1:IntKind.u64.wrap (1:Int)=1:=by rw[IntKind.wrap_u64];omega
 have hwn:IntKind.u64.wrap (n:Int)=n:=by rw[IntKind.wrap_u64];omega
 have hin:IntKind.i64.wrap (n:Int)=n:=IntWalk.i64_in _ dM;have hlt:¬((n:Int)<0):=dM
 have hd:1*n / 18446744073709551616=0:=dM
 have hm:1*n % 18446744073709551616=n:=dM
 have hmul:=λw=>Tryz.bits_Mul 1 n dM dM w;simp only[hd,hm]at hmul;have hG0:(w.alloc (.cells (Array.replicate (n*2) (Value.int .i64 0)) 47)).heap[w.heap.size]?=some (.cells (Array.replicate (n*2) (Value.int .i64 0)) 47 (0,0)):=World.alloc_heap_new w _;have hsrc:∀j v,(bd2 x y)[j]?=some v->(w.alloc (.cells (Array.replicate (n*2) (Value.int .i64 0)) 47)).cell? ((⟨b,o,none⟩:Addr).add j)=some v:=λj v hj=>by
  have hadd:(⟨b,o,none⟩:Addr).add j=⟨b,o+j,none⟩:=by unfold Addr.add;split<;>simp_all
  rw[hadd];refine(World.cell?_of_block (Below.heap_alloc _ _ _ hb)).trans ?_
  match j,hj with
  |0,hj=>simp[bd2]at hj;rw[<-hj];exact c0
  |1,hj=>simp[bd2]at hj;rw[<-hj];exact c1
 have hmin:Nat.min 1 n=1:=Nat.min_eq_left hn;have hcs:(bd2 x y).length=Nat.min 1 n*2:=by rw[hmin];rfl
 have hfit:0+(bd2 x y).length<=(Array.replicate (n*2) (Value.int .i64 0)).size:=by simp[bd2];omega
 have hone:∀v∈bd2 x y,v.oneCell'=true:=by simp[bd2,Value.oneCell']
 go_enter Tryz.func44,Tryz.ntmps44
 go_wp2_with (first|(go_at_call 66;refine(hmul _).mono ?_;rintro e w' ⟨rfl,hw'⟩;rw[hw'])|(at_make;refine zF0 _ rfl _ _ 44 rfl 47 Tryz.underlying44 dO ⟨16,dO,dP⟩ dO .i64 .i64 n rfl rfl hn2 ?_)|(refine zGH rfl (.tmp 31) (.tmp 32) 44 44 rfl 47 Tryz.underlying44 dO w.heap.size 0 n n ⟨b,o,none⟩ 1 cap rfl rfl (Array.replicate (n*2) (Value.int .i64 0)) 47 hG0 (bd2 x y) hcs hsrc hfit hone ?_;rw[hmin];intro W1 hW1)|go_in)
 have hB1:dC w.heap.size w W1:=by
  rw[hW1.out];exact below_setRow ((Below.refl _ w).alloc (zUB _) _) (zUB _) _
 have hH1:W1.heap[w.heap.size]?=some (.cells (row2 x y 1 (n-1)).toArray 47 (0,0)):=by
  rw[hW1.out,setRow_heap _ _ _ _ _ _ hG0,show(Array.replicate (n*2) (Value.int .i64 0)).toList=List.replicate (n*2) (Value.int .i64 0)from dQ,zLr x y n hn]
 go_loopw [8] (λi wr=>∃k:Nat,1<=k/\k<=n/\i=.int .i64 (k:Int)/\dC w.heap.size w wr/\wr.heap[w.heap.size]?=some (.cells (row2 x y k (n-k)).toArray 47 (0,0))) (λi _=>n-(intOf i).toNat)
 case atStart=>exact⟨1,zUB _,hn,rfl,hB1,hH1⟩
 case round=>
  obtain⟨k,hk1,hkn,rfl,hB,hH⟩:=hrel;by_cases hlt:k<n
  .have hlt':(k:Int)<(n:Int):=dM
   obtain⟨cs,hcs0⟩:∃cs,cs=(row2 x y k (n-k)).take (Nat.min k (n-k)*2):=⟨_,rfl⟩;have hcs2:cs.length=Nat.min k (n-k)*2:=by
    rw[hcs0,zVH,zCY];have:Nat.min k (n-k)<=k:=Nat.min_le_left _ _;omega
   have hmk:Nat.min k (n-k)<=n-k:=Nat.min_le_right _ _;have hsrc2:∀j v,cs[j]?=some v->wr.cell? ((⟨w.heap.size,0,none⟩:Addr).add j)=some v:=λj v hj=>by
    have hadd:(⟨w.heap.size,0,none⟩:Addr).add j=⟨w.heap.size,j,none⟩:=by unfold Addr.add;split<;>simp_all
    rw[hadd];rw[hcs0,zU6]at hj;split at hj
    .simp only[World.cell?,hH,zWW];exact hj
    .cases hj
   have hfit2:k*2+cs.length<=(row2 x y k (n-k)).toArray.size:=by
    rw[hcs2,zVO,zCY];omega
   have hone2:∀v∈cs,v.oneCell'=true:=λv hv=>zRq x y k (n-k) v (by rw[hcs0]at hv;exact zVG hv);have hspl:splice (row2 x y k (n-k)) (k*2) cs=row2 x y (k+Nat.min k (n-k)) (n-k-Nat.min k (n-k)):=by
    rw[hcs0];exact zOa x y k (n-k) _ (Nat.min_le_left _ _) hmk
   have hadd:IntKind.i64.wrap ((k:Int)+((Nat.min k (n-k):Nat):Int))=((k+Nat.min k (n-k):Nat):Int):=by
    rw[IntWalk.i64_in _ dM];omega
   have hmp:1<=Nat.min k (n-k):=Nat.le_min.2 ⟨hk1,dM⟩;clear hcs0;have hnk:¬n=k:=dM
   go_wp2
   go_region_law (refine zOm rfl (.tmp 41) (.tmp 44) 44 44 rfl 47 Tryz.underlying44 dO w.heap.size (k*2) (n-k) (n-k) ⟨w.heap.size,0,none⟩ k n (by simp[Act.eval,Act.put,hnk]) (by simp[Act.eval,Act.put]) (row2 x y k (n-k)).toArray 47 hH cs hcs2 hsrc2 hfit2 hone2 ?_;intro w4 hw4)
   have hB4:dC w.heap.size w w4:=by
    have hBd:dC w.heap.size w wr.drew:=hB.trans ⟨rfl,rfl,rfl,zUB _,λ_ _=>rfl⟩;rw[hw4.out];exact below_setRow hBd (zUB _) _
   have hH4:w4.heap[w.heap.size]?=some (.cells (row2 x y (k+Nat.min k (n-k)) (n-k-Nat.min k (n-k))).toArray 47 (0,0)):=by
    rw[hw4.out,setRow_heap _ _ _ _ _ _ (show wr.drew.heap[w.heap.size]?=_ from hH),show(row2 x y k (n-k)).toArray.toList=row2 x y k (n-k)from rfl,hspl]
   clear hw4 hspl hsrc2;simp only[List.getElem_toArray,List.getElem_cons_succ,List.getElem_cons_zero,Act.put,List.setIfInBounds_toArray,List.set_cons_succ,List.set_cons_zero];go_wp2;go_roundw
   case rel=>exact⟨k+Nat.min k (n-k),dM,dM,by congr 1,hB4,by rw[show n-(k+Nat.min k (n-k))=n-k-Nat.min k (n-k)by omega];exact hH4⟩
   case measure=>simp[intOf];omega
  .obtain rfl:k=n:=dM
   go_wp2;rw[Nat.sub_self]at hH;go_ret;exact⟨rfl,hB,hH⟩
set_option maxRecDepth 100000 in
def zQ8(x y:Int)(n:Nat)(hn:n<1)(b o cap:Nat)(w:de) :
 Calls Tryz.prog 44 #[.slice (some ⟨b,o,none⟩) 1 cap,.int .i64 (n:Int)] w λe w'=>e=.returned (.slice (some ⟨w.heap.size,0,none⟩) n n)/\dC w.heap.size w w'/\w'.heap[w.heap.size]?=some (.cells (row2 x y n 0).toArray 47 (0,0)):=by
 have hn2:n<1000000:=dM
 have hw1:IntKind.u64.wrap (1:Int)=1:=by rw[IntKind.wrap_u64];omega
 have hwn:IntKind.u64.wrap (n:Int)=n:=by rw[IntKind.wrap_u64];omega
 have hin:IntKind.i64.wrap (n:Int)=n:=IntWalk.i64_in _ dM;have hlt:¬((n:Int)<0):=dM
 have hd:1*n / 18446744073709551616=0:=dM
 have hm:1*n % 18446744073709551616=n:=dM
 have hmul:=λw=>Tryz.bits_Mul 1 n dM dM w;simp only[hd,hm]at hmul;have hG0:(w.alloc (.cells (Array.replicate (n*2) (Value.int .i64 0)) 47)).heap[w.heap.size]?=some (.cells (Array.replicate (n*2) (Value.int .i64 0)) 47 (0,0)):=World.alloc_heap_new w _;obtain⟨cs,hcs0⟩:∃cs:db dh,cs.length<1:=⟨[],Nat.zero_lt_one⟩;obtain⟨k0,hk0⟩:∃k:Nat,k<1:=⟨0,Nat.zero_lt_one⟩;have hsrc:∀j v,cs[j]?=some v->(w.alloc (.cells (Array.replicate (n*2) (Value.int .i64 0)) 47)).cell? ((⟨b,o,none⟩:Addr).add j)=some v:=λj v hj=>by cases cs with|nil=>cases hj|cons _ _=>simp at hcs0
 have hmin:Nat.min 1 n=k0:=(Nat.min_eq_right dM).trans dM;have hcs:cs.length=Nat.min 1 n*2:=by rw[hmin];omega
 have hfit:0+cs.length<=(Array.replicate (n*2) (Value.int .i64 0)).size:=by simp;omega
 have hone:∀v∈cs,v.oneCell'=true:=λv hv=>by cases cs with|nil=>cases hv|cons _ _=>simp at hcs0
 go_enter Tryz.func44,Tryz.ntmps44
 go_wp2_with (first|(go_at_call 66;refine(hmul _).mono ?_;rintro e w' ⟨rfl,hw'⟩;rw[hw'])|(at_make;refine zF0 _ rfl _ _ 44 rfl 47 Tryz.underlying44 dO ⟨16,dO,dP⟩ dO .i64 .i64 n rfl rfl hn2 ?_)|(refine zGH rfl (.tmp 31) (.tmp 32) 44 44 rfl 47 Tryz.underlying44 dO w.heap.size 0 n n ⟨b,o,none⟩ 1 cap rfl rfl (Array.replicate (n*2) (Value.int .i64 0)) 47 hG0 cs hcs hsrc hfit hone ?_;rw[hmin];intro W1 hW1)|go_in)
 have hB1:dC w.heap.size w W1:=by
  rw[hW1.out];exact below_setRow ((Below.refl _ w).alloc (zUB _) _) (zUB _) _
 have hH1:W1.heap[w.heap.size]?=some (.cells (row2 x y n 0).toArray 47 (0,0)):=by
  rw[hW1.out,setRow_heap _ _ _ _ _ _ hG0];obtain rfl:n=0:=dM
  cases cs with
  |nil=>rfl
  |cons _ _=>simp at hcs0
 go_loopw [8] (λi wr=>i=.int .i64 (k0:Int)/\dC w.heap.size w wr/\wr.heap[w.heap.size]?=some (.cells (row2 x y n 0).toArray 47 (0,0))) (λi _=>0)
 case atStart=>exact⟨rfl,hB1,hH1⟩
 case round=>
  obtain⟨rfl,hB,hH⟩:=hrel;have hnk:¬((k0:Int)<(n:Int)):=dM
  go_wp2;go_ret;exact⟨rfl,hB,hH⟩
def c44(a:db dy×Int×dc):da (db dy×dc):=match a.1 with
 |[x]=>if 0<=a.2.1/\a.2.1<1000000 then some (List.replicate a.2.1.toNat x,())else none
 |_=>none
def zNR(x:dy){g:Gh}{w:de}:∀n,RCs g w (bdC (List.replicate n x)) (List.replicate n (bd2 x.space x.fto)).flatten
 |0=>rfl
 |n+1=>by
  show RCs g w (V.at (.int .i64 x.space)::V.at (.int .i64 x.fto)::bdC (List.replicate n x)) (.int .i64 x.space::.int .i64 x.fto::(List.replicate n (bd2 x.space x.fto)).flatten);simp only[RCs,RC];exact⟨[_],_,rfl,⟨rfl,rfl⟩,[_],_,rfl,⟨rfl,rfl⟩,zNR x n⟩
def zQP(l:db dy):∀c∈bdC l,c.isOne=true:=by
 induction l with
 |nil=>intro c a;cases a
 |cons x r b=>
  intro c a;replace a:c∈V.at (.int .i64 x.space)::V.at (.int .i64 x.fto)::bdC r:=a;simp only[zUG]at a;rcases a with rfl|rfl|a
  .rfl
  .rfl
  .exact b c a
def ok44:CQ 44 (cFB c44):=by
 intro x a R P K r f;obtain⟨l,m,u⟩:=a;change db dy at l;change Int at m;replace f:Option.bind (c44 (l,m,())) (λy=>K () y)=some r:=f;unfold c44 at f;split at f
 rotate_left
 .cases f
 rename_i z E;replace E:l=[z]:=E;subst E;split at f
 rotate_left
 .cases f
 rename_i D;replace D:0<=m/\m<1000000:=D;obtain⟨n,rfl⟩:∃n:Nat,m=n:=⟨m.toNat,dM⟩;simp only[zU3]at f;refine⟨some ((),(List.replicate n z,())),f,λs vx va r1 r2 Q S hn=>?_⟩;obtain⟨rfl,rfl⟩:=Q;obtain⟨v1,w1,q1,q2,rfl,rfl,⟨rfl,rfl⟩,v2,w2,q3,q4,rfl,rfl,⟨rfl,rfl⟩,rfl,rfl⟩:=S;generalize subS s ([]++([]++([]++[])))=s0;intro B g w vs hi T i;obtain⟨F,G,rfl⟩:∃F G,vs=[F,G]:=by
  cases i with
  |cons _ i=>cases i with
   |cons _ i=>cases i;exact⟨_,_,rfl⟩
 have j:RC g w (.lst (zx ([z].map (CC.encV TI.bind))) ([z].map (CC.encV TI.bind))) [F]:=by cases i with|cons h _=>exact zBl h
 have H:G=.int .i64 (n:Int):=by cases i with|cons _ h=>cases h with|cons h _=>exact yG h
 subst H;simp only[RC]at j;rcases j with⟨h,_⟩|⟨b,o,cap,ds,I,e2,_,U,_,M⟩
 .cases h
 injection I with I
 subst I;have k:RCs g.bare w [.agg [.at (.int .i64 z.space),.at (.int .i64 z.fto)]] ds:=U;simp only[RCs,RC]at k;obtain⟨_,_,rfl,⟨_,_,rfl,⟨rfl,_⟩,_,_,rfl,⟨rfl,_⟩,rfl⟩,rfl⟩:=k;obtain⟨W,l0⟩:=M 0 _ rfl;obtain⟨X,_⟩:=M 1 _ rfl;have Y:b<w.heap.size:=by
  rcases zUx b w.heap.size with h|h
  .exact h
  .rw[hi.fresh b h]at l0;omega
 have J:Calls Tryz.prog 44 #[.slice (some ⟨b,o,none⟩) 1 cap,.int .i64 (n:Int)] w λe w'=>e=.returned (.slice (some ⟨w.heap.size,0,none⟩) n n)/\dC w.heap.size w w'/\w'.heap[w.heap.size]?=some (.cells (row2 z.space z.fto n 0).toArray 47 (0,0)):=by
  by_cases Z:n<1
  .exact zQ8 z.space z.fto n Z b o cap w
  .exact zSk z.space z.fto n dM dM b o cap w W X Y
 refine J.mono ?_;rintro e w' ⟨rfl,c,hG⟩;have N:dD g w g w':=⟨λ_=>zUB _,λ_ _ e=>e,λb o ho=>by
  refine World.cell?_of_block (c.block b ?_);rcases zUx b w.heap.size with p|p
  .exact p
  .rw[hi.fresh b p]at ho;omega⟩
 have L:Al.Inv B g s0 w':=hi.grow N c.size (λb h=>c.block b h) (λ_ _=>rfl) (λb h=>hi.fresh b (zU0 c.size h)) rfl rfl;have O:=hi.base;have lt:∀{b:Nat}{o:Obj},w.heap[b]?=some o->b<w.heap.size:=λp=>(zUH.1 p).1;have q:(row2 z.space z.fto n 0).toArray.size=n*2:=by rw[zVO,zCY,zVE]
 have v:row2 z.space z.fto n 0=(List.replicate n (bd2 z.space z.fto)).flatten:=by simp[row2]
 have A:(bdC (List.replicate n z)).length=n*2:=by rw[zE6,List.length_replicate]
 have C:=L.addBox (b:=w.heap.size) (arr:=(row2 z.space z.fto n 0).toArray) (el:=47) (cs:=bdC (List.replicate n z)) (us:=(List.replicate n (bd2 z.space z.fto)).flatten) O (hi.fresh _ (zUB _)) hG (by rw[q,A];exact zUB _) (zQP _) (zNR z n)
  (by rw[A,<-v];exact zU5 (by show(row2 z.space z.fto n 0).length<=_;rw[zCY];exact zUB _)) (λt ht d hd=>by
   obtain⟨d1,d2,d3⟩:=d;obtain⟨_,_,_,_,_,arr,el,h5,_⟩:=hi.own t ht _ d1 d2 d3 hd;have:=lt h5;omega) (by
   cases e:g.fr w.heap.size with
   |false=>rfl
   |true=>have:=(hi.ex.frz _ e).1;omega) (λb' o' fp h D=>by
   have:=((hi.ex.ob b' o' fp h).2.2 _ D).2.1;omega)
 rw[q]at C;refine⟨g,_,⟨N,Below.mono c O,λb h=>⟨c.block b (hi.ex.frz b h).1,rfl⟩,λ_ _=>rfl,rfl⟩,C,.at (.slice (some ⟨w.heap.size,0,none⟩) n n),yY rfl,[.at (.slice (some ⟨w.heap.size,0,none⟩) n n)],[],[.inr w.heap.size],⟨rfl,rfl⟩,⟨_,[],[.inr w.heap.size],[],rfl,rfl,⟨w.heap.size,n,by show V.at (.slice (some ⟨w.heap.size,0,none⟩) n n)=.at (.slice (some ⟨w.heap.size,0,none⟩) (List.replicate n z).length n);rw[List.length_replicate],by show(List.replicate n z).length<=n;rw[List.length_replicate];exact zUB _,?_,rfl⟩,rfl,rfl⟩,dQ,rfl⟩;show Al.look (lay s0.box w.heap.size _) w.heap.size=_;rw[zO,if_pos rfl];rfl
end Go.Proofs.YtnamdpbcpnnhaaaGreatDoor
end
namespace Go.Proofs.YtnamdpbcpnnhaaaGreatDoor
section
open Go.Al Go.Den
noncomputable def c67n(fu:Nat):zA ([.int .i64]:LK)->WW (zA ([.bool]:LK)):=mW0 (sh1067 fu c15)
def ok67n(fu:Nat):CQ 67 (cW0 ([.int .i64]:LK) ([.bool]:LK) (c67n fu)):=con1067 fu c15 ok15
noncomputable def c45n(fu:Nat):Nat->zA ([.st TI.node]:LK)->WW (zA ([.int .i64]:LK))
 |0=>λ_ _=>none
 |n+1=>mW0 (sh1045 fu (c45n fu n) (c67n fu))
def ok45n(fu:Nat):∀n,CQ 45 (cW0 ([.st TI.node]:LK) ([.int .i64]:LK) (c45n fu n))
 |0=>by intro x a R b K r h;cases h
 |n+1=>con1045 fu (c45n fu n) (ok45n fu n) (c67n fu) (ok67n fu)
noncomputable def c26(fu n:Nat)(x:db dw×Nd×dc):da (db dy×dc):=sh26 fu c32 c46 c44 (c45n fu n) c47 (wcs fu n).c48 (λ_=>false) x.1 x.2.1
noncomputable def c25(fu:Nat)(x:Str×dc):da (db dw×dc):=sh25 fu (c39 fu) (λ_=>false) x.1
def ok25(fu:Nat):CoX 25 ⟨as25,rs25,c25 fu⟩:=con25 fu (c39 fu) (ok39 fu)
noncomputable def c43(fu n m:Nat)(x:Str×Str×dc):da (db Int×dc):=sh43 fu (c17 fu m) (c25 fu) (c26 fu n) (λ_=>false) x.1 x.2.1
noncomputable def c24(fu n m:Nat)(_:dc):da (dd×dc):=sh24 fu c29 (c43 fu n m) (λ_=>false)
def zOt:∀(m:MT)(s:Str)(v:Int),mpP m s v=yd m s v
 |[],_,_=>rfl
 |(k,u)::r,s,v=>by
  show cond (seq s k) ((s,v)::r) ((k,u)::mpP r s v)=if s=k then(s,v)::r else(k,u)::yd r s v
  rw[zEh,zOt r s v];by_cases h:s=k
  .rw[zUg h,if_pos h];rfl
  .rw[zUh h,if_neg h];rfl
section
variable{A:db dw}{x z:Nd}
def zT3(m:x.kind=10)(d:SD A x.kids)(a:z∈x.kids)(c:z.kind=10):dnN A z=dnN A x:=by
 rcases d with h|⟨f,w,g,b,i,j,n⟩
 .exact absurd c (h z a).2.2
 .have e:dnN A x=if w.kind=10 then dnN A w else if w.kind=0/\zY A w.tok=true then w.tok else -1:=by
   obtain⟨k,t,l⟩:=x;replace b:l=f++w::g:=b;subst b;exact zDQ i j
  rw[b]at a;rcases zUa.1 a with a|a
  .exact absurd c (i z a).2.2
  .rcases zUG.1 a with rfl|a
   .rw[e,if_pos c]
   .exact absurd c (j z a).2.2
def src_lw(m:x.kind=10)(d:SD A x.kids)(a:z∈x.kids)(c:LW A z):z.tok=dnN A x:=by
 rcases d with h|⟨f,w,g,b,i,j,n⟩
 .have:=(h z a).1 c.1;rw[c.2]at this;cases this
 .have e:dnN A x=if w.kind=10 then dnN A w else if w.kind=0/\zY A w.tok=true then w.tok else -1:=by
   obtain⟨k,t,l⟩:=x;replace b:l=f++w::g:=b;subst b;exact zDQ i j
  rw[b]at a;rcases zUa.1 a with a|a
  .have:=(i z a).1 c.1;rw[c.2]at this;cases this
  .rcases zUG.1 a with rfl|a
   .rw[e,if_neg (by rw[c.1];decide),if_pos (show z.kind=0/\zY A z.tok=true from c)]
   .have:=(j z a).1 c.1;rw[c.2]at this;cases this
def zQW(i:x.kind=10)(h:∀z∈x.kids,z.kind≠10/\¬LW A z):dnN A x = -1:=by
 have b:∀(l:db Nd)(n:Int),(∀z∈l,z.kind≠10/\¬LW A z)->dnL A n l=n:=by
  intro l
  induction l with
  |nil=>intro n _;rfl
  |cons a r d=>
   intro n c;obtain⟨e,f⟩:=c a zUz;show dnL A (if a.kind=10 then _ else if _ then _ else n) r=n;rw[if_neg e,if_neg (show ¬(a.kind=0/\zY A a.tok=true)from f)];exact d n λz g=>c z (zUW _ g)
 obtain⟨k,t,l⟩:=x;exact b l (-1) h
end
def zOW{β:Type}{o:da (da ((Wk0T×dc)×β))}{q:WS}{v:β}(a:q.2.2.1=[])(h:o=some (some (wO0 q,v))):zII o=some (v,q):=by
 rw[h];obtain⟨c,d,b,e,f⟩:=q;obtain rfl:b=[]:=a;rfl
def named0(fu:Nat){A:db dw}{q:WS}(c:q.1=A)(d:q.2.2.1=[]){i:Int}(l:0<=i)(hi:i<(A.length:Int)):c67n fu (i,()) q=some ((zY A i,()),q):=by
 obtain⟨a,b,e,f,g⟩:=q;obtain rfl:a=A:=c;obtain rfl:e=[]:=d;show zII (sh1067 fu c15 (wO0 (a,b,[],f,g)) (i,()))=_;unfold sh1067;have h:inB i a.length=true:=by unfold inB;simp;omega
 have j:zY a i=(ieq (a.getD i.toNat tokD).kind 1&&!kwL.contains (a.getD i.toNat tokD).text):=by
  unfold zY tkA;rw[zUg hi,zUU,yr]
 show zII (cond (inB i a.length) (cond (ieq (a.getD i.toNat tokD).kind 1) (cond (inB i a.length) (Option.bind (some (kwL.contains (a.getD i.toNat tokD).text,())) λk=>cond (eqN b.length b.length) (some (some (_,(!k.1,())))) none) none) (cond (eqN b.length b.length) (some (some (_,(false,())))) none)) none)=_;rw[h,zJ,j];cases ieq (a.getD i.toNat tokD).kind 1<;>rfl
def zRn{A:db dw}{fu:Nat}(P:5000<fu):∀(n:Nat)(x:Nd)(q:WS),sz x<=n->Sp A x->okT x->x.kind=10->(∀i∈lvN x,0<=i/\i<(A.length:Int))->(lvN x).length<=4000->q.1=A->q.2.2.1=[] ->
 c45n fu n (x,()) q=some ((dnN A x,()),q):=by
 intro n
 induction n with
 |zero=>intro x q Q;have:=zA3 x;omega
 |succ n R=>
  intro x q Q S H u I v T J;have K:x.kind≠0:=by rw[u];decide
  obtain⟨C,D⟩:=jy S K;have w:=C.2.2.2.2.2.2.2.1 u;have U:=zA3 x;have el:=zAh K;have E:x.kids.length<=(lvL x.kids).length/\okL x.kids:=by
   cases x with
   |mk k p l=>exact⟨H.2.2.1,H.2.2.2.2⟩
  have L:x.kids.length<=4000:=by rw[el]at v;omega
  refine zOW J ?_
  suffices h:Ro (sh1045 fu (c45n fu n) (c67n fu) (wO0 q) (x,())) λo=>o=some (wO0 q,(dnN A x,()))by
   obtain⟨_,y,rfl⟩:=h;exact y
  unfold sh1045;refine Ro_t (zJ _) ?_;refine Ro_i (λst=>∃(k:Nat),st=(((k:Int),()),wO0 q)/\k<=x.kids.length/\∀z∈x.kids.take k,z.kind≠10/\¬LW A z) (λst=>x.kids.length-st.1.1.toNat) ?_ fu _ ⟨0,rfl,Nat.zero_le _,λz f=>by cases f⟩ ey;rintro rec st ⟨k,rfl,V,m⟩ g;obtain⟨t,M,W,N,O⟩:=q;obtain rfl:W=[]:=J;obtain rfl:t=A:=T;dsimp only[wO0];by_cases b:k<x.kids.length
  .rw[zAR b,zBs dM];have r:=zUv b;have X:=qi r;have j:x.kids.length-(k+1)<x.kids.length-k:=dM
   have c:(x.kids[k].kind≠10/\¬LW t x.kids[k])->∀z∈x.kids.take (k+1),z.kind≠10/\¬LW t z:=λh z f=>by
    rw[zVT b]at f;rcases zUa.1 f with f|f
    .exact m z f
    .obtain rfl:=zUJ.1 f;exact h
   refine Ro_t (zAe ej) (Ro_t (jc b) ?_);simp only[z8,qy];refine Ro_c (λF=>?_) λF=>?_
   .have a:x.kids[k].kind=10:=zUw (by rw[<-yr];exact F);have G:(lvN x.kids[k]).length<=4000:=by
     rw[el,zF7 b,zUI,zUI]at v;omega
    have y:=R x.kids[k] (t,M,[],N,O) dM (D _ r) (zGn r E.2) a (λi hi=>I i (by rw[el];exact qX r hi)) G rfl rfl;refine Ro_t (zJ _) (Ro_b y (Ro_t (zJ _) ⟨_,rfl,?_⟩));rw[zT3 u w r a]
   .have a:x.kids[k].kind≠10:=zVj (by rw[<-yr];exact F);refine Ro_c (λs=>?_) λs=>?_
    .have d:x.kids[k].kind=0:=zUw (by rw[<-yr];exact s);obtain⟨g0,Y⟩:=I _ (by rw[el];exact qX r (xz d));have y:=named0 fu (A:=t) (q:=(t,M,[],N,O)) rfl rfl g0 Y;refine Ro_t (zJ _) (Ro_b y (Ro_c (λB=>Ro_t (zJ _) ⟨_,rfl,?_⟩) λB=>Ro_t (zJ _) ?_))
     .rw[<-src_lw u w r ⟨d,B⟩]
     .exact g _ ⟨k+1,rfl,b,c ⟨a,λh=>by rw[h.2]at B;cases B⟩⟩ j
    .have d:x.kids[k].kind≠0:=zVj (by rw[<-yr];exact s);exact Ro_t (zJ _) (g _ ⟨k+1,rfl,b,c ⟨a,λh=>d h.1⟩⟩ j)
  .have e:k=x.kids.length:=dM
   subst e;rw[zVb]at m;refine Ro_f (zAc (zVd _)) (Ro_t (zJ _) ⟨_,rfl,?_⟩);rw[zQW u m]
mutual
/-- A Member in a tree: what it writes,the tree writes. -/
theorem mem_N{A:List TokT}:∀{nd x:Nd}(c:Bool){i s:Int},Sp A nd->okT nd->x∈allT nd->x.kind=7->nd.kind≠0->PlN A x false i s->PlN A nd c i s
 |.mk k p ps,x,c,i,s,hs,ho,hx,hk,h0,hp=>by
  rcases zUG.1 hx with rfl|hx
  .replace hk:k=7:=hk;subst hk;have e:∀(l:List Nd) ,PlL A l 7 false i s↔PlL A l 7 c i s:=by
    intro l
    induction l with
    |nil=>exact zVD
    |cons a r ih=>
     show(PlE A 7 false a i s\/PlL A r 7 false i s)↔(PlE A 7 c a i s\/PlL A r 7 c i s);rw[ih];refine or_congr ?_ zVD;unfold PlE ckd spk;simp
   exact(e ps).1 hp
  .exact zOB k c (jy hs h0).2 ho.2.2.2.2 hx hk hp
theorem zOB{A:List TokT}:∀{ps:List Nd}{x:Nd}(k:Int)(c:Bool){i s:Int},(∀y∈ps,Sp A y)->okL ps->x∈allK ps->x.kind=7->PlN A x false i s->PlL A ps k c i s
 |[],x,k,c,_,_,_,_,hx,_,_=>by cases hx
 |y::r,x,k,c,i,s,hs,ho,hx,hk,hp=>by
  have hx2:x∈allT y++allK r:=hx;rcases zUa.1 hx2 with hx|hx
  .by_cases hy0:y.kind=0
   .exfalso;cases y with
    |mk kk pp l=>
     obtain rfl:kk=0:=hy0;obtain rfl:l=[]:=ho.1.1.1 rfl;obtain rfl:=zUJ.1 hx;cases hk
   .exact .inl (.inr ⟨hy0,mem_N _ (hs y zUz) ho.1.1 hx hk hy0 hp⟩)
  .exact .inr (zOB k c (λz hz=>hs z (zUW _ hz)) ho.2 hx hk hp)
end
end
section
open Go.Al Go.Den
abbrev as11:db (AK UU):=[.str,.int .i64]
abbrev rs11:db (AK UU):=[.bool]
abbrev zKb:db (AK UU):=[.dl TI.tok,.st TI.node]
abbrev zCU:db (AK UU):=[.bl TI.bind]
def kf11:Nat->db Nat
 |0=>[0,1]
 |1=>[0,1,5]
 |2=>[0,1,5,6]
 |3=>[0,1,5,6,7,8]
 |4=>[1,5,6,7,28]
 |5=>[4]
 |6=>[1,5,6,9]
 |7=>[1,5,6,9,10]
 |8=>[1,5,6,9,10,51]
 |9=>[4]
 |10=>[1,5,6,9,10,11]
 |11=>[1,5,6,9,10,11,12]
 |12=>[1,5,6,9,10,11,12,61]
 |13=>[1,5,6,9,10,11,12]
 |14=>[1,5,6,9,10,11,12,13]
 |15=>[1,5,6,9,10,11,12,13]
 |16=>[1,5,6,9,10,11,12,114]
 |17=>[4]
 |18=>[4]
 |_=>[]
def hd11:db (Nat×Head UU):=[(12,⟨[1,5,6,9,10],[(11,.bool),(12,.int .i64)],[]⟩)]
noncomputable def fd11:FD UU:=mkfd kf11 hd11 [] [] Tryz.f11 119 [.tmp 4]
noncomputable def zPh(fu:Nat)(c32:Nd×Int×dc->da (db Nd×dc))(c46:zA kI->db dw->da (zA kS))(c44:zA ([.dl TI.bind,.int .i64]:LK)->da (zA ([.ar1 TI.bind]:LK)))(a:zA kN->WW (zA kI))(c47:zA k0->WW (zA k0))(b:zA kN->WW (zA k0))(c:Nat->dd)(d:db dw)(e:Nd):da (zj zCU):=
 zAD CC Tb fu 2 (zG []) (zG [(32,(⟨as32,rs32,c32⟩:Con UU))]) (zG [(46,cRW kI kS c46)]) (zG [(44,cFB c44),(45,cW0 kN kI a),(47,cW1 k0 k0 c47),(48,cW kN k0 b)]) fd26 zKb zCU c (d,e,())
def zSz:FdX (hasN [32]) (hasN [46]) 26 fd26:=fdk Tryz.func26 Tryz.ntmps26 Tryz.results26
noncomputable def zPb(fu:Nat)(c17:db dw×dc->da (Nd×Int×dc))(c25:db UInt8×dc->da (db dw×dc))(c26b:db dw×Nd×dc->da ((dd×db dy)×dc))(a:Nat->dd)(b:db UInt8)(c:db UInt8):da (zj rs43):=
 zAD CC Tb fu 2 (zG []) (zG [(17,(⟨as17,rs17,c17⟩:Con UU)),(25,(⟨as25,rs25,c25⟩:Con UU)),(26,(⟨zKb,zCU,c26b⟩:Con UU))]) (zG []) (zG []) fd43 as43 rs43 a (b,c,())
def zSL:FdX (hasN [17,25,26]) (hasN []) 43 fd43:=fdk Tryz.func43 Tryz.ntmps43 Tryz.results43
noncomputable def run11(fu:Nat)(c17:db dw×dc->da (Nd×Int×dc))(c24:dc->da (dd×dc))(c25:db UInt8×dc->da (db dw×dc))(c26b:db dw×Nd×dc->da ((dd×db dy)×dc))(c28:db dy×Int×dc->da (db Int×dc))(c29:db Int×db Int×dc->da (dd×dc))(a:Nat->dd)(b:db UInt8)(c:Int):da (zj rs11):=
 zAD CC Tb fu 2 (zG []) (zG [(17,(⟨as17,rs17,c17⟩:Con UU)),(24,(⟨as24,rs24,c24⟩:Con UU)),(25,(⟨as25,rs25,c25⟩:Con UU)),(26,(⟨zKb,zCU,c26b⟩:Con UU)),(28,(⟨as28,rs28,c28⟩:Con UU)),(29,(⟨as29,rs29,c29⟩:Con UU))]) (zG []) (zG []) fd11 as11 rs11 a (b,c,())
def fdok11:FdX (hasN [17,24,25,26,28,29]) (hasN []) 11 fd11:=fdk Tryz.func11 Tryz.ntmps11 Tryz.results11
def zId(fu:Nat)(c32:(Nd×(Int×dc))->(da NdsT))(c46:(Int×dc)->LT->(da (Str×dc)))(c44:((db dy)×(Int×dc))->(da ((db dy)×dc)))(j:(Nd×dc)->(LT×((db dy)×((db (MT×MT))×(MT×MT))))->(da ((Int×dc)×(LT×((db dy)×((db (MT×MT))×(MT×MT)))))))(c47:dc->(LT×((db dy)×((db (MT×MT))×(MT×MT))))->(da (dc×(LT×((db dy)×((db (MT×MT))×(MT×MT)))))))(k:(Nd×dc)->(LT×((db dy)×((db (MT×MT))×(MT×MT))))->(da (dc×(LT×((db dy)×((db (MT×MT))×(MT×MT)))))))(w:Nat->dd)(q:LT)(g:Nd):(da ((dd×(db dy))×dc)):=Option.bind (c44 ([(BindT.mk 0 (Neg.neg 1))],((lenI q),()))) λl=>Option.bind (c32 ((ndE g),(7,()))) λm=>cond (eqN l.1.length l.1.length) (iter fu (λ(f:((Int×dc)×(JT×((LT×((db dy)×(dc×(MT×(MT×(dc×dc))))))×dc)))->da ((dd×(db dy))×dc))(b:((Int×dc)×(JT×((LT×((db dy)×(dc×(MT×(MT×(dc×dc))))))×dc))))=>let r:=eqN b.2.2.1.2.1.length b.2.2.1.2.1.length;let n:=Nd.kids (List.getD m.1 b.1.1.toNat xC);cond (ilt b.1.1 (lenI m.1)) (cond (inB b.1.1 m.1.length) (cond r (iter fu (λ(d:((Int×dc)×(JT×((LT×((db dy)×(dc×(MT×(MT×(dc×dc))))))×dc)))->da ((dd×(db dy))×dc))(c:((Int×dc)×(JT×((LT×((db dy)×(dc×(MT×(MT×(dc×dc))))))×dc))))=>let o:=iadd .i64 c.1.1 1;let s:=(c.2.2.1.1,(c.2.2.1.2.1,((),(c.2.2.1.2.2.2.1,(c.2.2.1.2.2.2.2.1,((),()))))));let p:=eqN c.2.2.1.2.1.length c.2.2.1.2.1.length;let h:=List.getD n c.1.1.toNat xC;cond (ilt c.1.1 (lenI n)) (cond (inB c.1.1 (List.length n)) (cond (ine (Nd.kind h) 10) (cond p (d ((o,()),(c.2.1,(s,())))) (none)) (cond p (Option.bind (j ((Nd.mk (Nd.kind h) (Nd.tok h) (Nd.kids h)),()) (c.2.2.1.1,(c.2.2.1.2.1,([],(c.2.2.1.2.2.2.1,c.2.2.1.2.2.2.2.1))))) λa=>let t:=(a.2.2.2.2.2,((),()));let i:=eqN a.2.2.1.length a.2.2.1.length;let u:=cond i (Option.bind (c46 (a.1.1,()) a.2.1) λv=>cond i (d ((o,()),(c.2.1,((a.2.1,(a.2.2.1,((),((mpP a.2.2.2.2.1 v.1 (iadd .i64 a.1.1 1)),t)))),())))) (none)) (none);cond i (Option.bind (c46 (a.1.1,()) a.2.1) λe=>let u9:=mpG a.2.2.2.2.1 e.1;cond (ieq u9 0) u (cond (ilt a.1.1 u9) u (cond i (d ((o,()),(c.2.1,((a.2.1,(a.2.2.1,((),(a.2.2.2.2.1,t)))),())))) (none)))) (none)) (none))) (none)) (cond p (f (((iadd .i64 b.1.1 1),()),(c.2.1,(s,())))) (none))) ((0,()),(b.2.1,((b.2.2.1.1,(b.2.2.1.2.1,((),(b.2.2.1.2.2.2.1,(b.2.2.1.2.2.2.2.1,((),())))))),())))) (none)) (none)) (cond r (Option.bind (c47 () (b.2.2.1.1,(b.2.2.1.2.1,([],(b.2.2.1.2.2.2.1,b.2.2.1.2.2.2.2.1))))) λa=>cond (eqN a.2.2.1.length a.2.2.1.length) (Option.bind (k ((Nd.mk b.2.1.1 b.2.1.2.1 b.2.1.2.2.1),()) (a.2.1,(a.2.2.1,(a.2.2.2.1,(a.2.2.2.2.1,a.2.2.2.2.2))))) λe=>cond (Nat.ble e.2.2.1.length e.2.2.1.length) (some ((false,(qq e.2.2.1.length e.2.2.1)),())) (none)) (none)) (none))) ((0,()),(((Nd.kind g),((Nd.tok g),((Nd.kids g),()))),((q,(l.1,((),([],([],((),())))))),())))) (none)
def eq26b:@zPh=@zId:=dO
def zOd(fu:Nat)(c17:(LT×dc)->(da (Nd×(Int×dc))))(c25:(Str×dc)->(da (LT×dc)))(c26b:(LT×(Nd×dc))->(da ((dd×(db dy))×dc)))(i:Nat->dd)(g:Str)(h:Str):(da ((db Int)×dc)):=Option.bind (c25 (g,())) λc=>Option.bind (c17 (c.1,())) λe=>cond (ine e.2.1 0) (some ([],())) (Option.bind (c26b (c.1,((ndE e.1),()))) λd=>iter fu (λ(b:(((db Int)×(Int×dc))×dc)->da ((db Int)×dc))(a:(((db Int)×(Int×dc))×dc))=>let f:=List.getD d.1.2 a.1.2.1.toNat yQ;cond (ilt a.1.2.1 (lenI c.1)) (cond (ilt a.1.2.1 (lenI d.1.2)) (cond (inB a.1.2.1 c.1.length) (cond (seq (List.getD c.1 a.1.2.1.toNat tokD).text h) (cond (inB a.1.2.1 d.1.2.length) (cond (okN 8 (a.1.1.length+(List.length [f.fto]))) (b (((a.1.1++[f.fto]),((iadd .i64 a.1.2.1 1),())),())) (none)) (none)) (b ((a.1.1,((iadd .i64 a.1.2.1 1),())),()))) (none)) (some (a.1.1,()))) (some (a.1.1,()))) (([],(0,())),()))
def eq43b:@zPb=@zOd:=dO
def sh11(fu:Nat)(c17:(LT×dc)->(da (Nd×(Int×dc))))(c24:dc->(da (dd×dc)))(c25:(Str×dc)->(da (LT×dc)))(c26b:(LT×(Nd×dc))->(da ((dd×(db dy))×dc)))(c28:((db dy)×(Int×dc))->(da ((db Int)×dc)))(c29:((db Int)×((db Int)×dc))->(da (dd×dc)))(q:Nat->dd)(l:Str)(b:Int):(da (dd×dc)):=Option.bind (c24 ()) λi=>Option.bind (c25 (l,())) λa=>let m:=List.getD a.1 b.toNat tokD;Option.bind (c17 (a.1,())) λn=>cond (ilt 400 (lenI l)) (some (i.1,())) (cond (ine n.2.1 0) (some (i.1,())) (Option.bind (c26b (a.1,((ndE n.1),()))) λh=>Option.bind (c28 (h.1.2,(b,()))) λg=>let j:=cond i.1 (some ((ieq (lenI g.1) 0),())) (some (false,()));cond (ilt b 0) j (cond (ile (lenI h.1.2) b) j (cond (inB b h.1.2.length) (cond (ilt (List.getD h.1.2 b.toNat yQ).fto 0) j (iter fu (λ(d:((dd×(Int×dc))×dc)->da (dd×dc))(f:((dd×(Int×dc))×dc))=>let e:=inB f.1.2.1 g.1.length;let c:=List.getD g.1 f.1.2.1.toNat 0;let o:=List.getD a.1 (Int.toNat c) tokD;cond (ilt f.1.2.1 (lenI g.1)) (cond e (Option.bind (c28 (h.1.2,(c,()))) λp=>cond f.1.1 (cond e (cond (ilt c 0) (some (false,())) (cond e (cond (ile (lenI a.1) c) (some (false,())) (cond e (cond (inB c a.1.length) (cond (inB b a.1.length) (cond (!(seq (TokT.text o) m.text)) (some (false,())) (Option.bind (c29 (g.1,(p.1,()))) λk=>cond (!k.1) (some (false,())) (d ((true,((iadd .i64 f.1.2.1 1),())),())))) (none)) (none)) (none))) (none))) (none)) (cond e (cond e (cond (ilt c 0) (some (false,())) (cond e (cond (ile (lenI a.1) c) (some (false,())) (cond e (cond (inB c a.1.length) (cond (inB b a.1.length) (cond (!(seq (TokT.text o) m.text)) (some (false,())) (Option.bind (c29 (g.1,(p.1,()))) λk=>cond (!k.1) (some (false,())) (d (((ieq c b),((iadd .i64 f.1.2.1 1),())),())))) (none)) (none)) (none))) (none))) (none)) (none))) (none)) (cond i.1 (some (f.1.1,())) (some (false,())))) ((false,(0,())),()))) (none)))))
def eq11:@run11=@sh11:=dO
def con26b(fu:Nat)(c32:zj as32->da (zj rs32))(c:CoX 32 ⟨as32,rs32,c32⟩)(c46:zA kI->db dw->da (zA kS))(d:CrX 46 (cRW kI kS c46))(c44:zA ([.dl TI.bind,.int .i64]:LK)->da (zA ([.ar1 TI.bind]:LK)))(e:CQ 44 (cFB c44))(a:zA kN->WW (zA kI))(f:CQ 45 (cW0 kN kI a))(c47:zA k0->WW (zA k0))(g:CQ 47 (cW1 k0 k0 c47))(b:zA kN->WW (zA k0))(h:CQ 48 (cW kN k0 b)):CoX 26 ⟨as26,zCU,λx=>zId fu c32 c46 c44 a c47 b (λ_=>false) x.1 x.2.1⟩:=
 rfk zC (zD (OrcOk.of ⟨dO,c⟩ rfl) zC) (zD ⟨dO,d⟩ zC) (zD ⟨dO,e⟩ (zD ⟨dO,f⟩ (zD ⟨dO,g⟩ (zD ⟨dO,h⟩ zC)))) zSz rfl (qj rfl) (λi x=>by show zPh fu c32 c46 c44 a c47 b i x.1 x.2.1=_;rw[eq26b];rfl)
def con43b(fu:Nat)(c17:zj as17->da (zj rs17))(b:CoX 17 ⟨as17,rs17,c17⟩)(c25:zj as25->da (zj rs25))(c:CoX 25 ⟨as25,rs25,c25⟩)(c26b:zj as26->da (zj zCU))(a:CoX 26 ⟨as26,zCU,c26b⟩):CoX 43 ⟨as43,rs43,λx=>zOd fu c17 c25 c26b (λ_=>false) x.1 x.2.1⟩:=
 rfk zC (zD (OrcOk.of ⟨dO,b⟩ rfl) (zD (OrcOk.of ⟨dO,c⟩ rfl) (zD (OrcOk.of ⟨dO,a⟩ rfl) zC))) zC zC zSL rfl (qj rfl) (λd x=>by show zPb fu c17 c25 c26b d x.1 x.2.1=_;rw[eq43b];rfl)
def con11(fu:Nat)(c17:zj as17->da (zj rs17))(b:CoX 17 ⟨as17,rs17,c17⟩)(c24:zj as24->da (zj rs24))(c:CoX 24 ⟨as24,rs24,c24⟩)(c25:zj as25->da (zj rs25))(d:CoX 25 ⟨as25,rs25,c25⟩)(c26b:zj as26->da (zj zCU))(a:CoX 26 ⟨as26,zCU,c26b⟩)(c28:zj as28->da (zj rs28))(h28:CoX 28 ⟨as28,rs28,c28⟩)(c29:zj as29->da (zj rs29))(e:CoX 29 ⟨as29,rs29,c29⟩):CoX 11 ⟨as11,rs11,λx=>sh11 fu c17 c24 c25 c26b c28 c29 (λ_=>false) x.1 x.2.1⟩:=
 rfk zC (zD (OrcOk.of ⟨dO,b⟩ rfl) (zD (OrcOk.of ⟨dO,c⟩ rfl) (zD (OrcOk.of ⟨dO,d⟩ rfl) (zD (OrcOk.of ⟨dO,a⟩ rfl) (zD (OrcOk.of ⟨dO,h28⟩ rfl) (zD (OrcOk.of ⟨dO,e⟩ rfl) zC)))))) zC zC fdok11 rfl (qj rfl) (λf x=>by show run11 fu c17 c24 c25 c26b c28 c29 f x.1 x.2.1=_;rw[eq11];rfl)
end
end Go.Proofs.YtnamdpbcpnnhaaaGreatDoor
