/-
  Who speaks of one thing speaks of it together: for every text and every number, where they and what the listed variables hold are of bulk at most 1048576, the law ScopeGroups answers true, and leaves its arguments as they were. No condition, but that the listed package-level variables hold what the program's text lays (the card ties them).
-/
import Derived.Test.YtnamdpbcpnnhaaaGreatDoorZJ6
import Derived.Test.YtnamdpbcpnnhaaaGreatDoorCards
set_option linter.unusedVariables false
set_option linter.unusedSimpArgs false
set_option linter.unusedSectionVars false
set_option linter.defProp false
set_option maxHeartbeats 4000000
theorem fk{P:Prop}(h:P:=by simpa using g.n):P:=h
theorem eB{P:Prop}(h:P:=by show Option.bind (m a q) _=_;rw[j];rfl):P:=h
theorem eC{P:Prop}(h:P:=by simp only[zUC,zUL,zUd,zUs,cQ,zUM,zUK,Nat.reduceEqDiff,zUP]):P:=h
theorem ed{P:Prop}(h:P:=by first|(obtain⟨_,_,_,f,_⟩:=f;cases f;done)|(obtain⟨_,_,f,_⟩:=f;cases f;done)):P:=h
theorem ep{P:Prop}(h:P:=by simp only[zUC,zUL,ct,zUM,zUK,Nat.reduceEqDiff];exact .keep (.keep .nil)):P:=h
theorem eA{P:Prop}(h:P:=by simp only[zUC,zUL,ct,zUM,zUK,Nat.reduceEqDiff];exact .keep .nil):P:=h
theorem em{P:Prop}(h:P:=by first|(obtain⟨_,_,_,E,_⟩:=E;cases E;done)|(obtain⟨_,_,E,_⟩:=E;cases E;done)):P:=h
namespace Go.Proofs.YtnamdpbcpnnhaaaGreatDoor
section
open Go.Al Go.Den
def slkB(k:Int):Nat:=if k=0 then 15 else if k=11 then 14 else if k=4 then 12 else if k=10 then 12 else if k=9 then 11 else if k=12 then 11 else if k=14 then 11 else 13
def zMt(k:Int):10<=slkB k/\slkB k<=15:=by unfold slkB;(repeat' split)<;>omega
def zQ0{k kk:Int}(b:k≠0)(h:prK k kk=true):1+slkB k<=slkB kk:=by
 unfold prK at h;simp only[zVv,zUE,zU7,zVU,zWO]at h;unfold slkB;rw[if_neg b];rcases h with h|⟨h,a⟩|⟨h,a⟩|⟨h,a⟩|⟨h,a⟩
 .rw[if_pos h];(repeat' split)<;>omega
 .rw[if_neg a,h];simp only[if_neg (show ¬(11:Int)=0 by decide),zUM];(repeat' split)<;>omega
 .subst h;rcases a with rfl|rfl<;>decide
 .subst h;subst a;decide
 .subst a;rcases h with rfl|rfl<;>decide
mutual
theorem zPj:∀{nd:Nd},okT nd->lvN nd≠[]->(allT nd).length+slkB nd.kind<=16*(lvN nd).length
 |.mk k p l,h,hne=>by
  obtain⟨h1,h2,h3,h4,h5⟩:=h;show(allK l).length+1+slkB k<=16*(lvN (.mk k p l)).length;by_cases hk:k=0
  .rw[h1 hk];subst hk;show 0+1+15<=16*1;omega
  .have e:lvN (.mk k p l)=lvL l:=by show(if k=0 then[p]else lvL l)=_;rw[if_neg hk]
   rw[e]at hne ⊢
   match l,h4,h5,hne with
   |[],_,_,hne=>exact absurd rfl hne
   |[x],h4,h5,_=>
    have h6:=zPj h5.1.1 h5.1.2;have h7:=zQ0 hk (h4 x rfl);show(allT x++[]).length+1+slkB k<=16*(lvN x++[]).length;rw[zUR,zUR];omega
   |x::y::r,_,h5,_=>
    have h6:=zLZ h5;have h7:=(zMt k).2;simp only[zUD]at h6;omega
theorem zLZ:∀{l:List Nd},okL l->(allK l).length+10*l.length<=16*(lvL l).length
 |[],_=>by simp[allK,lvL]
 |x::r,h=>by
  have h6:=zPj h.1.1 h.1.2;have h7:=zLZ h.2;have h8:=(zMt x.kind).1;show(allT x++allK r).length+10*(r.length+1)<=16*(lvN x++lvL r).length;rw[zUI,zUI];omega
end
def zOi{a b i:Int}(h:i∈jG a b):a<=i/\i<b:=by
 unfold jG at h;obtain⟨k,c,rfl⟩:=zVA.1 h;have:=zVt.1 c;omega
def zOD{a b i:Int}(c:a<=i)(d:i<b):i∈jG a b:=zVA.2 ⟨(i-a).toNat,zVt.2 dM,dM⟩
def zLY(a b:Int):(jG a b).Nodup:=by
 unfold jG;refine List.Pairwise.map _ (λx y c=>?_) List.nodup_range;intro e;exact c dM
section
variable{A:db dw}{ps:db Nd}
def Tp.kind{x:Nd}{t:dd}(h:Tp A t x):x.kind≠0/\x.kind≠10/\Sp A x:=by
 rcases h with h|⟨_,h,a⟩
 .exact⟨h.2.1,h.2.2.2.2,h.1⟩
 .exact⟨by rw[h];decide,by rw[h];decide,a⟩
def zSd(a:Pt 0 A.length ps)(b:Tps A ps)(f:A.length<=4000)(V:PV)(c:∀i s,¬V i s):NwK A V ps:=by
 have e:=a.2.1;refine⟨λx d=>(b x d).kind.2.2,a.2.2.1,e▸zLY _ _,λi hi=>?_,?_,λ_ _ _ i _ s=>c i s⟩
 .rw[e]at hi;exact zOi hi
 .rw[e,zAJ];omega
def zI9:∀{ps:db Nd},Tps A ps->∀(i s:Int),PlL A ps 1 false i s↔PlK A ps i s
 |[],_,i,s=>⟨λh=>h.elim,λ⟨_,h,_⟩=>dU⟩
 |x::r,h,i,s=>by
  show(PlE A 1 false x i s\/PlL A r 1 false i s)↔_;have b:=(h x zUz).kind;rw[zDe b.1 b.2.1,zI9 λy a=>h y (zUW _ a)];constructor
  .rintro(h|⟨y,a,h⟩)
   .exact⟨x,zUz,h⟩
   .exact⟨y,zUW _ a,h⟩
  .rintro⟨y,a,c⟩;rcases zUG.1 a with e|a
   .exact .inl (e▸c)
   .exact .inr ⟨y,a,c⟩
end
mutual
/-- What lies in a tree. -/
theorem sub_N{A:List TokT}:∀{nd x:Nd},okT nd->Sp A nd->x∈allT nd->okT x/\Sp A x/\(∀i∈lvN x,i∈lvN nd)/\(lvN x).length<=(lvN nd).length/\sz x<=sz nd
 |.mk k p ps,x,ho,hs,hx=>by
  rcases zUG.1 hx with rfl|hx
  .exact⟨ho,hs,λ_ h=>h,zUB _,zUB _⟩
  .by_cases hk:k=0
   .rw[ho.1 hk]at hx;cases hx
   .obtain⟨h1,h2,h3,h4,h5⟩:=zKM ho.2.2.2.2 (jy hs hk).2 hx;have e:lvN (Nd.mk k p ps)=lvL ps:=zAh (show(Nd.mk k p ps).kind≠0 from hk);rw[e];exact⟨h1,h2,h3,h4,by show sz x<=(allK ps).length+1;omega⟩
theorem zKM{A:List TokT}:∀{ps:List Nd}{x:Nd},okL ps->(∀y∈ps,Sp A y)->x∈allK ps->okT x/\Sp A x/\(∀i∈lvN x,i∈lvL ps)/\(lvN x).length<=(lvL ps).length/\sz x<=(allK ps).length
 |[],x,_,_,hx=>by cases hx
 |y::r,x,ho,hs,hx=>by
  have hx2:x∈allT y++allK r:=hx;have e1:(lvL (y::r)).length=(lvN y).length+(lvL r).length:=by show(lvN y++lvL r).length=_;rw[zUI]
  have e2:(allK (y::r)).length=sz y+(allK r).length:=by show(allT y++allK r).length=_;rw[zUI];rfl
  rcases zUa.1 hx2 with hx|hx
  .obtain⟨h1,h2,h3,h4,h5⟩:=sub_N ho.1.1 (hs y zUz) hx;exact⟨h1,h2,λi hi=>zUu _ (h3 i hi),dM,dM⟩
  .obtain⟨h1,h2,h3,h4,h5⟩:=zKM ho.2 (λz hz=>hs z (zUW _ hz)) hx;exact⟨h1,h2,λi hi=>zU8 _ (h3 i hi),dM,dM⟩
end
section
variable{A:db dw}{ps:db Nd}
def FcOk.rng{V:PV}{F:MT}(h:FcOk A V F)(t:Str):0<=mgZ F t/\mgZ F t<=A.length:=by
 rcases h t with e|⟨d,e,a,b,_⟩<;>omega
def FcOk.put{V:PV}{F:MT}(h:FcOk A V F){d:Int}(a:0<=d)(b:d<(A.length:Int))(c:V d 3):FcOk A V (yd F (tx A d) (d+1)):=λt=>by
 rw[zEb];by_cases e:t=tx A d
 .rw[if_pos e];exact .inr ⟨d,rfl,a,b,e.symm,c⟩
 .rw[if_neg e];exact h t
def zLu:∀{l:db Nd}{x:Nd},x∈l->x∈allK l
 |y::r,x,h=>by
  show x∈allT y++allK r;rcases zUG.1 h with rfl|h
  .refine zUu _ ?_;cases x;exact zUz
  .exact zU8 _ (zLu h)
mutual
theorem nd_N:∀{nd x:Nd},(lvN nd).Nodup->okT nd->x∈allT nd->(lvN x).Nodup
 |.mk k p l,x,hn,ho,hx=>by
  rcases zUG.1 hx with rfl|hx
  .exact hn
  .by_cases hk:k=0
   .rw[ho.1 hk]at hx;cases hx
   .rw[zAh (show(Nd.mk k p l).kind≠0 from hk)]at hn;exact nd_L hn ho.2.2.2.2 hx
theorem nd_L:∀{l:List Nd}{x:Nd},(lvL l).Nodup->okL l->x∈allK l->(lvN x).Nodup
 |[],x,_,_,hx=>by cases hx
 |y::r,x,hn,ho,hx=>by
  have hn2:(lvN y++lvL r).Nodup:=hn;have hx2:x∈allT y++allK r:=hx;rcases zUa.1 hx2 with hx|hx
  .exact nd_N (zUe.1 hn2).1 ho.1.1 hx
  .exact nd_L (zUe.1 hn2).2.1 ho.2 hx
end
def zPk{x z:Nd}(a:(lvL ps).Nodup)(b:x∈allK ps)(c:okL ps)(d:x.kind≠0)(e:z∈x.kids):(lvN z).Nodup:=by
 have h:=nd_L a c b;rw[zAh d]at h;obtain⟨j,f,rfl⟩:=List.getElem_of_mem e;rw[zF7 f]at h;exact(zUe.1 (zUe.1 h).2.1).1
noncomputable def c26b(fu n:Nat)(x:db dw×Nd×dc):da ((dd×db dy)×dc):=zId fu c32 c46 c44 (c45n fu n) c47 (wcs fu n).c48 (λ_=>false) x.1 x.2.1
def zN5{fu m:Nat}(aq:80000<fu)(hA:dJ A)(D:Pt 0 A.length ps)(Z:Tps A ps)(hm:400000<m) :
 ∃B,c26b fu (m+3) (A,Nd.mk 1 0 ps,())=some ((false,B),())/\FinB A B:=by
 have L:=hA.len;have hs:=zLZ D.2.2.1;have M:(lvL ps).length=A.length:=by rw[D.2.1,zAJ];omega
 have ar:sz (Nd.mk 1 0 ps)=(allK ps).length+1:=rfl;have E:(allT (Nd.mk 1 0 ps)).length<=1000000:=by show(allK ps).length+1<=_;omega
 have hu:NwK A (λ_ _=>False) ps:=zSd D Z L _ λ_ _ h=>h;have N:∀y∈ps,Sp A y:=hu.sp;have G:∀x∈fdT (Nd.mk 1 0 ps) 7,x∈allK ps/\x.kind=7:=λx hx=>by
  have h:=zWL.1 hx;have hk:x.kind=7:=by simpa using h.2
  rcases zUG.1 h.1 with rfl|h
  .exact absurd hk (by show(1:Int)≠7;decide)
  .exact⟨h,hk⟩
 suffices h:Ro (c26b fu (m+3) (A,Nd.mk 1 0 ps,())) λo=>∃B,o=((false,B),())/\FinB A B by
  obtain⟨v,h1,B,rfl,h2⟩:=h;exact⟨B,h1,h2⟩
 show Ro (zId fu c32 c46 c44 (c45n fu (m+3)) c47 (wcs fu (m+3)).c48 (λ_=>false) A (Nd.mk 1 0 ps)) _;unfold zId;have aa:c44 ([BindT.mk 0 (Neg.neg 1)],(lenI A,()))=some (List.replicate A.length ⟨0,-1⟩,()):=by
  have O:0<=lenI A/\lenI A<1000000:=⟨Int.natCast_nonneg _,by show(A.length:Int)<1000000;omega⟩;have this:(if 0<=lenI A/\lenI A<1000000 then some (List.replicate (lenI A).toNat (BindT.mk 0 (Neg.neg 1)),())else none)=some (List.replicate A.length ⟨0,-1⟩,()):=if_pos O;exact this
 first|rw[z8]|rw[qy]
 refine Ro_b aa (Ro_b (v:=(fdT (Nd.mk 1 0 ps) 7,())) (if_pos E) (Ro_t (zJ _) ?_));have ab:(fdT (Nd.mk 1 0 ps) 7).length<=70000:=by
  have h:(fdT (Nd.mk 1 0 ps) 7).length<=(allT (Nd.mk 1 0 ps)).length:=zWG _ _;replace E:(allT (Nd.mk 1 0 ps)).length=(allK ps).length+1:=rfl;omega
 generalize fdT (Nd.mk 1 0 ps) 7=ms at G ab;refine Ro_i (λst=>∃(i:Nat)(F:MT),st=(((i:Int),()),((1,(0,(ps,()))),((A,(List.replicate A.length ⟨0,-1⟩,((),(F,([],((),())))))),())))/\i<=ms.length/\FcOk A (PlK A ps) F) (λst=>ms.length-st.1.1.toNat) ?_ fu _ ⟨0,[],rfl,Nat.zero_le _,λt=>.inl rfl⟩ (by show ms.length-0<fu;omega);rintro rec st ⟨i,F,rfl,au,hF⟩ P;dsimp only;by_cases w:i<ms.length
 .rw[zAR w,zBs dM];obtain⟨C,q⟩:=G _ (zUv w);have Q:ms.length-(i+1)<ms.length-i:=dM
  generalize ms[i]=x at C q;obtain⟨R,ac,ad,S,av⟩:=zKM D.2.2.1 N C;have x0:x.kind≠0:=by rw[q];decide
  have el:=zAh x0;obtain⟨ae,I⟩:=jy ac x0;have T:x.kids.length<=(lvL x.kids).length/\okL x.kids:=by
   cases x with
   |mk k p l=>exact⟨R.2.2.1,R.2.2.2.2⟩
  have af:x.kids.length<=4000:=by rw[el]at S;omega
  refine Ro_t (zAe (by show(i:Int)<(ms.length:Int);omega)) (Ro_t (jc w) (Ro_t (zJ _) ?_));refine Ro_i (λst=>∃(j:Nat)(F:MT),st=(((j:Int),()),((1,(0,(ps,()))),((A,(List.replicate A.length ⟨0,-1⟩,((),(F,([],((),())))))),())))/\j<=x.kids.length/\FcOk A (PlK A ps) F) (λst=>x.kids.length-st.1.1.toNat) ?_ fu _ ⟨0,F,rfl,Nat.zero_le _,hF⟩ ey;rintro ao aw ⟨j,F2,rfl,ax,u⟩ d;dsimp only;by_cases n:j<x.kids.length
  .rw[zAR n,zBs dM];have c:=zUv n;have f:x.kids.length-(j+1)<x.kids.length-j:=dM
   refine Ro_t (zAe (by show(j:Int)<(x.kids.length:Int);omega)) (Ro_t (jc n) ?_);simp only[z8,qy,zIR,zOt];have h7:=ae.2.2.2.2.1 q _ c;have ap:=af;have hz:sz x.kids[j]<=(allK x.kids).length:=qi c;have ay:=zA3 x;generalize x.kids[j]=z at c h7 hz;refine Ro_c (λO=>Ro_t (zJ _) (d _ ⟨j+1,F2,rfl,n,u⟩ f)) λO=>?_;have g:z.kind=10:=by
    by_cases e:z.kind=10
    .exact e
    .rw[zHC e]at O;cases O
   have ag:Nm A z:=h7.resolve_left λh=>h.2.2 g;have z0:z.kind≠0:=by rw[g];decide
   have ah:=zGn c T.2;have ai:∀i∈lvN z,i∈lvL ps:=λi hi=>ad i (by rw[el];exact qX c hi);have U:(lvN z).length<=4000:=by
    have:=(zKM T.2 I (show z∈allK x.kids from ?_)).2.2.2.1
    .rw[el]at S;omega
    .exact zLu c
   have J:∀i∈lvN z,0<=i/\i<(A.length:Int):=λi hi=>hu.rg i (ai i hi);have aj:=zRn (A:=A) (fu:=fu) dM (m+3) z (A,List.replicate A.length ⟨0,-1⟩,[],F2,[]) dM (I z c) ah g J U rfl rfl;have W:(lvN z).Nodup:=zPk hu.nd C D.2.2.1 x0 c;have ak:=zNn _ z (zUB _) (I z c) g W λi hi=>(J i hi).1;obtain⟨m1,m2,m3⟩:=ak.at_ ag.2.1;obtain⟨g0,g1⟩:=J _ m1;have hv:PlK A ps (dnN A z) 3:=by
    refine(zI9 Z _ _).1 (zOB 1 false N D.2.2.1 C q ?_);rw[qf,q];obtain⟨a,b,al⟩:=List.append_of_mem c;rw[al,zEV];refine .inr (.inl (.inr ⟨z0,?_⟩));rw[g,show ckd 7 false 10=true from rfl];exact(m3 true 3).2 rfl
   have K:c46 (dnN A z,()) A=some (tx A (dnN A z),()):=if_pos ⟨g0,g1⟩;have X:iadd .i64 (dnN A z) 1=dnN A z+1:=by unfold iadd;rw[IntWalk.i64_in _ dM]
   refine Ro_t (zJ _) (Ro_b aj (Ro_t (zJ _) (Ro_b K ?_)));refine Ro_c (λ_=>?_) λ_=>Ro_c (λ_=>?_) λ_=>?_
   .refine Ro_t (zJ _) (Ro_b K (Ro_t (zJ _) ?_));dsimp only;rw[X];exact d _ ⟨j+1,_,rfl,n,u.put g0 g1 hv⟩ f
   .refine Ro_t (zJ _) (Ro_b K (Ro_t (zJ _) ?_));dsimp only;rw[X];exact d _ ⟨j+1,_,rfl,n,u.put g0 g1 hv⟩ f
   .exact Ro_t (zJ _) (d _ ⟨j+1,F2,rfl,n,u⟩ f)
  .have e:j=x.kids.length:=dM
   subst e;exact Ro_f (zAc (zVd _)) (Ro_t (zJ _) (P _ ⟨i+1,F2,rfl,w,u⟩ Q))
 .have e:i=ms.length:=dM
  subst e;refine Ro_f (zAc (zVd _)) (Ro_t (zJ _) (Ro_b (v:=((),(A,List.replicate A.length ⟨0,-1⟩,[([],[])],F,[]))) rfl (Ro_t (zJ _) ?_)));have H:=λt=>hF.rng t;have am:Inw A F [] (λ_ _=>False) (λ_ _=>False) (A,List.replicate A.length ⟨0,-1⟩,[([],[])],F,[]):=by
   refine⟨rfl,List.length_replicate,L,rfl,rfl,λt=>⟨(H t).1,by have:=(H t).2;omega⟩,λt=>⟨zVd _,by show(0:Int)<=100000;omega⟩,λ_ _ h=>h.elim,λ_ _ h=>h,λi i0 hi _=>?_,λ_ _ h=>h.elim,λlv M=>?_⟩
   .show(List.replicate A.length (⟨0,-1⟩:dy)).getD i.toNat yQ=_;rw[zUV,List.getElem?_replicate,if_pos dM];rfl
   .obtain rfl:=zUJ.1 M;exact⟨λ_=>.inl rfl,λ_=>.inl rfl⟩
  obtain⟨q',h2,h3⟩:=u48 (A:=A) (F:=F) (V:=λ_ _=>False) (fu:=fu) (m:=m) dM (x:=Nd.mk 1 0 ps) (y:=([],[])) (r:=[]) ⟨[],am,λt=>.inl rfl⟩ rfl hu (λk hk=>(Z k hk).kind.2.1) (by have:=D.len;show ps.length<=4000;omega) dM dM;have hV:VU (λ_ _=>False) (PlK A (Nd.mk 1 0 ps).kids)=PlK A ps:=PV.ext λi s=>⟨λh=>h.elim False.elim id,.inr⟩;rw[hV]at h3;have Y:=h3.fin hF λi i0 hi hn=>by
   obtain⟨s,hs⟩:=zIy (ps:=ps) 1 false (i:=i) (by rw[D.2.1];exact zOD i0 hi) hn;exact⟨s,(zI9 Z _ _).1 hs⟩
  have an:qq q'.2.1.length q'.2.1=q'.2.1:=List.take_length;refine Ro_b h2 ?_;dsimp only;rw[an];exact Ro_t (Nat.ble_eq_true_of_le (Nat.le_refl _)) ⟨_,rfl,_,rfl,Y⟩
end
end
section
open Go.Al Go.Den
def zPA{fu:Nat}(x:Str)(e:x.length+200<fu)(h:x.length<=1090000):∃l,c25 fu (x,())=some (l,())/\l.length<=x.length/\∀t∈l,TokG t:=by
 obtain⟨l,i,n,j⟩:=zPP 0 x e h;show∃l,sh25 fu (c39 fu) (λ_=>false) x=some (l,())/\_;unfold sh25;rw[i,Option.bind_some];dsimp only;refine zCp (P:=λo=>∃l:db dw,o=some (l,())/\l.length<=x.length/\∀t∈l,TokG t)
  (I:=λst:(db dw×(Int×dc))×dc=>∃toks k,st=((toks,(((k:Nat):Int),())),())/\k<=l.length/\toks.length<=k/\∀t∈toks,TokG t) (μ:=λst=>l.length-st.1.2.1.toNat) ?_ fu _ ⟨[],0,rfl,dM,dQ,λt a=>eZ⟩ dV
 rintro rec st ⟨toks,k,rfl,p,q,f⟩ b;dsimp only;have m:iadd .i64 (k:Int) 1=((k+1:Nat):Int):=by rw[qa _ _ dM dM];omega
 by_cases c:k<l.length
 .rw[show ilt (k:Int) (lenI l)=true from zUg et,zUi,zCi dM dM,zUi,zUi,m];have d:List.getD l (Int.toNat (k:Int)) tokD=l[k]:=by rw[zU3,zUV,zUj c];rfl
  rw[d];have g:∀t:dw,TokT.mk t.kind t.text t.file t.ffrom t.fto t.blank=t:=λt=>rfl;simp only[g];cases r:ine l[k].kind 7
  .rw[cond_false];exact b _ ⟨toks,k+1,rfl,c,dM,f⟩ dV
  .rw[cond_true];rw[show okN 56 (toks.length+[l[k]].length)=true from zCn eH eD,cond_true];refine b _ ⟨toks++[l[k]],k+1,rfl,c,by rw[List.length_append];simp only[List.length_cons,List.length_nil];omega,λt a=>?_⟩ dV;rcases List.mem_append.1 a with a|a
   .exact f t a
   .rw[zUJ]at a;subst a;exact j _ (zUv _)
 .obtain rfl:k=l.length:=dM
  rw[show ilt (l.length:Int) (lenI l)=false from zUh eu,zUk];exact⟨toks,rfl,dM,f⟩
def zR1{fu m n:Nat}(d:DeepB fu m)(a:80000<fu)(f:400000<n){l:db dw}(g:∀t∈l,TokG t) :
 (∃i e,c17 fu m (l,())=some (i,e,())/\e≠0)\/(l.length<=4000/\∃ps B,c17 fu m (l,())=some (Nd.mk 1 0 ps,0,())/\c26b fu (n+3) (l,Nd.mk 1 0 ps,())=some ((false,B),())/\FinB l B):=by
 by_cases b:l.length<=4000
 .have c:=zSZ b g;rcases zMk d c with h|⟨ps,j,k,o⟩
  .exact .inl ⟨_,_,h,dP⟩
  .obtain⟨B,p,q⟩:=zN5 a c j k f;exact .inr ⟨b,ps,B,o,p,q⟩
 .exact .inl ⟨_,_,if_neg b,dP⟩
def upto_mem{p:Nat->dd}{j:Int}:∀{k:Nat},j∈upto p k↔∃i:Nat,j=(i:Int)/\i<k/\p i=true
 |0=>⟨λh=>dU,λ⟨i,_,h,_⟩=>dM⟩
 |k+1=>by
  cases c:p k
  .rw[zPa c,upto_mem];refine⟨λ⟨i,b,d,a⟩=>⟨i,b,dM,a⟩,λ⟨i,b,d,a⟩=>⟨i,b,?_,a⟩⟩;rcases zUx i k with h|h
   .exact h
   .obtain rfl:i=k:=dM
    rw[c]at a;cases a
  .rw[zO8 c,zUa,upto_mem,zUJ];refine⟨λh=>?_,λ⟨i,b,d,a⟩=>?_⟩
   .rcases h with⟨i,b,d,a⟩|h
    .exact⟨i,b,dM,a⟩
    .exact⟨k,h,dM,c⟩
   .rcases zUx i k with h|h
    .exact .inl ⟨i,b,h,a⟩
    .obtain rfl:i=k:=dM
     exact .inr b
def zS1{a b:dy}(h:eqBd a b=true):a=b:=by
 unfold eqBd at h;cases c:ieq a.space b.space<;>rw[c]at h
 .cases h
 cases d:ieq a.fto b.fto<;>rw[d]at h
 .cases h
 unfold ieq at c d;show BindT.mk a.space a.fto=BindT.mk b.space b.fto;rw[eq_of_beq c,eq_of_beq d]
def zFo{l:db dy}{at_:Int}(h:at_<0\/(l.length:Int)<=at_\/(l.getD at_.toNat yQ).fto<0):kP l at_=[]:=
 zBd _ (λk=>by
  unfold useP;rcases h with h|h|h
  .rw[show decide (0<=at_)=false from zUh dM];rfl
  .rw[show decide (at_<(l.length:Int))=false from zUh dM,Bool.and_false];rfl
  .rw[show decide (0<=(l.getD at_.toNat yQ).fto)=false from zUh dM,Bool.and_false];rfl) _
def zNL{l:db dy}{at_:Int}(a:0<=at_)(b:at_<(l.length:Int))(c:0<=(l.getD at_.toNat yQ).fto)(k:Nat):useP l at_ k=eqBd (l.getD k yQ) (l.getD at_.toNat yQ):=by
 unfold useP;rw[zUg a,zUg b,zUg c];rfl
def zTY{A:db dw}{B:db dy}(b:FinB A B){at_:Int}(f:0<=at_)(l:at_<(A.length:Int))(c:0<=(B.getD at_.toNat yQ).fto) :
 at_∈kP B at_/\∀j∈kP B at_,0<=j/\j<(A.length:Int)/\tx A j=tx A at_/\kP B j=kP B at_:=by
 have o:=b.len;have d:=zNL f dM c;refine⟨upto_mem.2 ⟨at_.toNat,dM,dM,by rw[d,zP3]⟩,λj m=>?_⟩;obtain⟨i,rfl,hi,a⟩:=upto_mem.1 m;rw[d]at a;have e:=zS1 a;have g:0<=(B.getD (i:Int).toNat yQ).fto:=by rw[zU3,e];exact c
 refine⟨dM,dM,?_,?_⟩
 .have h:=(b.eq i dM dM g).1;have n:=(b.eq at_ f l c).1;rw[zU3,e]at h;rw[<-h,n]
 .unfold kP;congr 1
  funext k
  rw[zNL dM dM g,d,zU3,e]
def zPT{fu f2 m n:Nat}(J:DeepB fu m)(j:80000<fu)(K:400000<n)(L:Nat->dd)(x:Str)(at_:Int)(M:x.length<=1090000)(p:x.length+200<f2) :
 sh11 fu (c17 fu m) (λ_=>some (true,())) (c25 f2) (c26b fu (n+3)) c28 c29 L x at_=some (true,()):=by
 obtain⟨l,N,S,O⟩:=zPA x p M;unfold sh11;rw[Option.bind_some,N,Option.bind_some];dsimp only;rcases zR1 J j K O with⟨T,e,q,r⟩|⟨U,ps,B,q,r,A⟩
 .rw[q,Option.bind_some];dsimp only;rw[zHC r];cases ilt 400 (lenI x)<;>rfl
 rw[q,Option.bind_some];dsimp only;by_cases f:400<(x.length:Int)
 .rw[show ilt 400 (lenI x)=true from zUg f,zUi]
 rw[show ilt 400 (lenI x)=false from decide_eq_false f,cond_false,zJu rfl,cond_false,z8,r,Option.bind_some];dsimp only;have C:=A.len;have hlB:B.length<=500:=dM
 have D:∀a,c28 (B,a,())=some (kP B a,()):=λa=>if_pos hlB;rw[D,Option.bind_some];dsimp only;by_cases s:at_<0
 .rw[show ilt at_ 0=true from zUg s,zFo (.inl s)];rfl
 rw[show ilt at_ 0=false from zUh s,zUk];by_cases t:(B.length:Int)<=at_
 .rw[show ile (lenI B) at_=true from zUg t,zFo (.inr (.inl t))];rfl
 rw[show ile (lenI B) at_=false from zUh t,zUk,zCi dM dM,zUi];by_cases y:(B.getD at_.toNat yQ).fto<0
 .rw[show ilt (B.getD at_.toNat yQ).fto 0=true from zUg y,zFo (.inr (.inr y))];rfl
 rw[show ilt (B.getD at_.toNat yQ).fto 0=false from zUh y,zUk];obtain⟨E,F⟩:=zTY A (show 0<=at_ by omega) (show at_<(l.length:Int)by omega) (show 0<=(B.getD at_.toNat yQ).fto by omega);have ul:(kP B at_).length<=500:=zU0 (zHP _ _) hlB;have G:c29 (kP B at_,kP B at_,())=some (true,()):=by
  show(if(kP B at_).length<=500 then some (eqI (kP B at_) (kP B at_),())else none)=_;rw[if_pos ul,zRT]
 have hA2:inB at_ l.length=true:=zCi dM dM;generalize V:kP B at_=u at E F ul G ⊢
 suffices h:Ro (iter fu _ _) λo=>o=(true,())by
  obtain⟨v,P,rfl⟩:=h;exact P
 refine Ro_i (λst=>∃(k:Nat)(w:dd),st=((w,((k:Int),())),())/\k<=u.length/\(w=true↔at_∈u.take k)) (λst=>u.length-st.1.2.1.toNat) ?_ fu _ ⟨0,false,rfl,Nat.zero_le _,dQ⟩ dV;rintro rec st ⟨k,w,rfl,W,i⟩ c;dsimp only;by_cases b:k<u.length
 .have d:inB (k:Int) u.length=true:=jc b;have z:u.getD (k:Int).toNat 0=u[k]:=by rw[zU3,zUV,zUj b];rfl
  obtain⟨Q,X,jt,ju⟩:=F u[k] (zUv _);rw[z];have jA:inB u[k] l.length=true:=zCi Q dM;have js:seq (l.getD u[k].toNat tokD).text (l.getD at_.toNat tokD).text=true:=by
   unfold tx at jt;rw[jt];unfold seq;simp
  have g:u.take (k+1)=u.take k++[u[k]]:=by rw[List.take_add_one,zUj b];rfl
  refine Ro_t (zAe (by show(k:Int)<(u.length:Int);omega)) (Ro_t d (Ro_b (D _) ?_));dsimp only;rw[zBs dM,ju,G];have H:ilt u[k] 0=false:=decide_eq_false dM;have I:ile (lenI l) u[k]=false:=decide_eq_false (by show ¬(l.length:Int)<=u[k];omega);cases w
  .refine Ro_f rfl (Ro_t d (Ro_t d (Ro_f H (Ro_t d (Ro_f I (Ro_t d (Ro_t jA (Ro_t hA2 (Ro_f (by rw[js];rfl) ?_)))))))));rw[Option.bind_some];refine Ro_f rfl (c _ ⟨k+1,_,rfl,b,?_⟩ dV);rw[g,List.mem_append,List.mem_singleton];have R:¬at_∈u.take k:=λh=>by have:=i.2 h;cases this
   unfold ieq;rw[zWN];exact⟨λh=>.inr h.symm,λh=>h.elim (λh=>absurd h R) (λh=>h.symm)⟩
  .refine Ro_t rfl (Ro_t d (Ro_f H (Ro_t d (Ro_f I (Ro_t d (Ro_t jA (Ro_t hA2 (Ro_f (by rw[js];rfl) ?_))))))));rw[Option.bind_some];refine Ro_f rfl (c _ ⟨k+1,_,rfl,b,?_⟩ dV);rw[g,List.mem_append];exact⟨λ_=>.inl (i.1 rfl),λ_=>rfl⟩
 .obtain rfl:k=u.length:=dM
  rw[zVb]at i;exact Ro_f (zAc (by show(u.length:Int)<=(u.length:Int);omega)) (Ro_t rfl ⟨_,rfl,by rw[i.2 E]⟩)
end
section
open Go.Al Go.Den Go.RowKit Go.Shelf
attribute [local congr] xP xi x7 qP yX xL yN yO xQ xn xE xx xN xG yI yT xD x9 xy yh xj xO yi yo xH xF yn xI xM yl qR qB qA xh xg xm xK ym yk
attribute [local go_sem] Oper.semAt_some
def zLI{P:di}{L:Pol}{ds:db (da Nat)}{KP:db dj->S->Prop}{b:db dr}{K:Env->S->Prop}{e:Env}{st:S}{d:da Nat}{f:dg}{a:String}{g:dv Edge}(c:Fn)(xs:db dq) :
 AL P L ds KP (⟨d,.makeFunc c #[] xs.toArray,f,a,g,none⟩::b) K e st=zIO c [] (xs.map e.ev) λv=>AL P L ds KP b K (e.putO d v) st:=propext zVD
set_option maxRecDepth 100000 in
def ok124x{es:db V}{tg:Tag}{s:S}(a:xB (.lst tg es)=.lst tg es):FnC Tryz.prog 124 [.lst tg es] s λoc s'=>∃b,Al.look s.box b=none/\oc=.ret (.clo (.func 137) [ptV b])/\s'=⟨lay s.box b ([.lst tg es],1),s.tg,s.nx,s.ob⟩:=by
 refine xS Tryz.func124 rfl Tryz.ntmps124 Tryz.results124 (by show 1<=4;decide) λB=>?_;simp only[zUO,zUQ,zUR,qJ,Nat.reduceAdd]
 (repeat (first|refine zh ?_|(refine zd rfl ?_;try simp only[cx,reduceIte])|refine zT ?_|((first|refine zf polN zDu _ rfl rfl ?_|refine zZ polN mixed zDu _ rfl rfl dO dO ?_);simp only[↓zk,↓yb,↓zK1,cC,zm,V.flat,zUM,zUK,Nat.reduceEqDiff,reduceCtorEq,zDu])))
 refine⟨rfl,λb c=>?_⟩
 (repeat (first|refine zh ?_|(refine zd rfl ?_;try simp only[cx,reduceIte])|refine zT ?_|((first|refine zf polN zDu _ rfl rfl ?_|refine zZ polN mixed zDu _ rfl rfl dO dO ?_);simp only[↓zk,↓yb,cC,yy,zUC,zUL,zUD,zUF,zUM,zUK,Nat.reduceEqDiff,zUY,zDu,zLI])))
 refine⟨rfl,?_⟩
 (repeat (first|refine zh ?_|(refine zd rfl ?_;try simp only[cx,reduceIte])|refine zT ?_|((first|refine zf polN zDu _ rfl rfl ?_|refine zZ polN mixed zDu _ rfl rfl dO dO ?_);simp only[])))
 simp only[yx];refine⟨rfl,b,c,rfl,rfl⟩
def KpN(c:Nat)(a:da Addr)(n:Nat)(A B:de):Prop:=(∀v,A.cell? ⟨c,0,none⟩=some v->B.cell? ⟨c,0,none⟩=some v)/\∀b o,a=some ⟨b,o,none⟩->∀j v,j<n*3->A.cell? ⟨b,o+j,none⟩=some v->B.cell? ⟨b,o+j,none⟩=some v
def KpN.refl(b:Nat)(a:da Addr)(n:Nat)(A:de):KpN b a n A A:=⟨λ_ h=>h,λ_ _ _ _ _ _ h=>h⟩
def KpN.trans{c n:Nat}{a:da Addr}{A B C:de}(h:KpN c a n A B)(k:KpN c a n B C):KpN c a n A C:=⟨λv e=>k.1 v (h.1 v e),λb o q j v d e=>k.2 b o q j v d (h.2 b o q j v d e)⟩
def KpN.put{f n:Nat}{a:da Addr}(W:de)(l:Nat)(o o':Obj)(g:W.heap[l]?=some o)(h:o.isCells=false):KpN f a n W (W.putObj l o'):=by
 have c:∀b j v,W.cell? ⟨b,j,none⟩=some v->(W.putObj l o').cell? ⟨b,j,none⟩=some v:=λb j v e=>by
  refine(World.cell?_of_block (World.putObj_heap_other ?_)).trans e;intro d;have d:b=l:=d;subst d;unfold World.cell? at e;simp only[g]at e;cases o<;>first|(cases h;done)|(cases e;done)|(simp at e;done)
 exact⟨λv e=>c _ _ _ e,λb o _ j v _ e=>c _ _ _ e⟩
structure NdC where
 k:Value
 t:Value
 l:Value
def NdC.enc(x:NdC):dh:=.agg #[x.k,x.t,x.l]
set_option maxRecDepth 100000 in
def zOZ(F:dH)(n:Nat)(h8:F.fn 137)(hro:F.round=none)(hn:1<=n)(l Bs cap b o:Nat)(a:da Addr)(xs:db NdC)(hab:xs≠[]->a=some ⟨b,o,none⟩)(hreach:xs.length<1000000)(J Jx:db (Fin xs.length)->de->Prop)
 (hY:∀pre x W,J pre W->pre.length<xs.length->YieldAt F (n-1) Tryz.prog l #[.int .i64 (x.1:Int),(xs[x.1]'x.2).enc] W λe W'=>
  (e=.returned (.bool true)/\J (pre++[x]) W'/\KpN Bs a xs.length W W')\/(e=.returned (.bool false)/\Jx (pre++[x]) W'))
 (W:de) (hBs:W.cell? ⟨Bs,0,none⟩=some (.slice a xs.length cap)) (hc:∀j (hj:j<xs.length),W.cell? ⟨b,o+j*3,none⟩=some (xs[j]'hj).k/\W.cell? ⟨b,o+(j*3+1),none⟩=some (xs[j]'hj).t/\W.cell? ⟨b,o+(j*3+2),none⟩=some (xs[j]'hj).l) (h0:J [] W) :
 CallsIn F n Tryz.prog 137 #[.func (.yield l) #[] #[],.pointer (some ⟨Bs,0,none⟩)] W λe W'=>(∃v,e=.returned v) /\
  ((∃ys,ys=jk xs.length xs.length/\J ys W')\/(∃pre,(∃k,k<=xs.length/\pre=jk xs.length k)/\Jx pre W')):=by
 refine callsIn_of_wp Tryz.func137 rfl h8 ?_ hro;simp only[Tryz.ntmps137,zVO,zUD,zUF,Nat.reduceAdd,Nat.reduceSub,zVM,zVN,zVZ,zVR,zUQ,zUO];have hsub:IntKind.i64.wrap ((xs.length:Int)-1)=(xs.length:Int)-1:=IntWalk.i64_in _ dM;gi_wp2
 gi_loopw [3] (λi wr=>∃k:Nat,k<=xs.length/\i=.int .i64 ((xs.length:Int)-1-k)/\J (jk xs.length k) wr/\KpN Bs a xs.length W wr)
  (λi _=>(intOf i+1).toNat)
 case atStart=>exact⟨0,zVI _,dQ,h0,KpN.refl _ _ _ _⟩
 case round=>
  obtain⟨k,hk,rfl,hJs,hnx⟩:=hrel;have hBs':=hnx.1 _ hBs;by_cases hlt:k<xs.length
  .obtain rfl:=hab (by rintro rfl;simp at hlt);obtain⟨m,hm⟩:∃m:Nat,m+k+1=xs.length:=⟨xs.length-1-k,dM⟩;have hml:m<xs.length:=dM
   obtain⟨c1,c2,c3⟩:=hc m hml;have hcx1:=hnx.2 b o rfl (m*3) _ dM c1;have hcx2:wr.cell? ⟨b,o+m*3+1,none⟩=some (xs[m]'hml).t:=hnx.2 b o rfl (m*3+1) _ dM c2;have hcx3:wr.cell? ⟨b,o+m*3+2,none⟩=some (xs[m]'hml).l:=hnx.2 b o rfl (m*3+2) _ dM c3;have ei:(xs.length:Int)-1-(k:Int)=(m:Int):=dM
   rw[ei];obtain⟨fn,tmps,assign,body,hy,hR⟩:=hY _ ⟨m,hml⟩ wr hJs (by rw[zFj _ _ hk];exact hlt);dsimp only[NdC.enc]at hy;clear c1 c2 c3 hc;generalize(xs[m]'hml).k=xk at hcx1 hy;generalize(xs[m]'hml).t=xt at hcx2 hy;generalize(xs[m]'hml).l=xl at hcx3 hy;have hlt2:(m:Int)<(xs.length:Int):=dM
   have hge2:¬((m:Int)<0):=dM
   gi_wp2;refine hR.mono ?_;have hm':m=xs.length-1-k:=dM
   rintro e W3 (⟨rfl,hJ3,hk3⟩|⟨rfl,hJx3⟩)
   .have hsub3:IntKind.i64.wrap ((m:Int)-1)=(m:Int)-1:=IntWalk.i64_in _ dM;gi_wp2;go_roundw
    case rel=>exact⟨k+1,dM,by congr 1;omega,by rw[zC4 _ _ _ hm];exact hJ3,hnx.trans hk3⟩
    case measure=>simp[intOf];omega
   .gi_wp2;refine bodyPost_ret (results_none rfl _ _ _) rfl ?_;exact⟨⟨_,rfl⟩,.inr ⟨_,⟨k+1,dM,(zC4 _ _ _ hm).symm⟩,hJx3⟩⟩
  .obtain rfl:k=xs.length:=dM
   gi_wp2;go_end0;exact⟨⟨_,rfl⟩,.inl ⟨_,rfl,hJs⟩⟩
def zKD(F:dH)(n:Nat)(r:F.fn 137)(h:F.round=none)(s:1<=n)(e cap b o:Nat)(a:da Addr)(xs:db NdC)(i:xs≠[]->a=some ⟨b,o,none⟩)(c:xs.length<1000000)(w:de)(u:e<w.heap.size)(v:xs≠[]->b<w.heap.size)
 (m:w.cell? ⟨e,0,none⟩=some (.slice a xs.length cap)) (y:∀j (f:j<xs.length),w.cell? ⟨b,o+j*3,none⟩=some (xs[j]'f).k/\w.cell? ⟨b,o+(j*3+1),none⟩=some (xs[j]'f).t/\w.cell? ⟨b,o+(j*3+2),none⟩=some (xs[j]'f).l) :
 SeqStopsK F n Tryz.prog 137 #[.pointer (some ⟨e,0,none⟩)] (λx:Fin xs.length=>#[Value.int .i64 (x.1:Int),(xs[x.1]'x.2).enc]) (KpN e a xs.length) (λys=>ys=jk xs.length xs.length)
  (λq=>∃k,k<=xs.length/\q=jk xs.length k) xs.length w:=λl J z W g _ _ A B=>
 zOZ F n r h s l e cap b o a xs i c J z A W ((g.cell (p:=⟨e,0,none⟩) u).trans m) (λj f=>by
  have d:=v (by rintro rfl;simp at f);obtain⟨C,D,E⟩:=y j f;exact⟨(g.cell (p:=⟨b,o+j*3,none⟩) d).trans C,(g.cell (p:=⟨b,o+(j*3+1),none⟩) d).trans D,(g.cell (p:=⟨b,o+(j*3+2),none⟩) d).trans E⟩) B
end
end Go.Proofs.YtnamdpbcpnnhaaaGreatDoor
section
namespace Go.Al
open Go.RowKit
def awpG(P:di)(X:Cx)(n:Nat)(c:dE)(Q:dA->Act->de->Prop)(g0:Gh)(w0:de)(e:Env)(st:S):Prop:=
 ∀g a w,dB X.B g0 w0 g w->Rel X g e st a w->c.wpIn Fence.wide n P Q a w
def zJh{P:di}{B n:Nat}{N:NF}{d:db Deferred}{c:dE}{Q:dA->Env->S->Prop}{e:Env}{st:S}(h:awp P ⟨B,N,none,d⟩ c Q e st){g:Gh}{a:Act}{w:de}(f:Rel ⟨B,N,none,d⟩ g e st a w) :
 c.wpIn Fence.wide n P (λi j w'=>∃g' e' b,dB B g w g' w'/\Rel ⟨B,N,none,d⟩ g' e' b j w'/\Q i e' b) a w:=wpIn_wide.2 (wpIn_wide.1 (h g a w f))
def kW{P:di}{B n:Nat}{N:NF}{c:db Deferred}{x y:dE}{Q:dA->Act->de->Prop}{g0:Gh}{w0:de}{e:Env}{st:S}
 (h:awp P ⟨B,N,none,c⟩ x (zC2 (λe st=>awpG P ⟨B,N,none,c⟩ n y Q g0 w0 e st) (λ_ _ _=>False)) e st):awpG P ⟨B,N,none,c⟩ n (.seq x y) Q g0 w0 e st:=λg a w d f=>by
 refine wpIn_seq (wpIn_mono (zJh h f) ?_);rintro i j w' ⟨g',e',k,k1,k2,b⟩;cases i with
 |normal=>exact b g' j w' (d.trans k1) k2
 |ret=>exact b.elim
 |exit _=>exact b.elim
 |panic _=>exact b.elim
 |goto _=>exact b.elim
 |outgrown=>exact b.elim
def zQM{P:di}{X:Cx}{n:Nat}{x y:dE}{Q:dA->Act->de->Prop}{g0:Gh}{w0:de}{e:Env}{st:S}
 (h:awpG P X n x (Exit.then (y.wpIn Fence.wide n P Q) Q) g0 w0 e st):awpG P X n (.seq x y) Q g0 w0 e st:=λg a w b c=>wpIn_seq (h g a w b c)
def zRp{P:di}{B n:Nat}{N:NF}{c:db Deferred}{x:dE}{Q:dA->Act->de->Prop}{g0:Gh}{w0:de}{e:Env}{st:S}{K:Env->S->Prop}
 (h:awp P ⟨B,N,none,c⟩ x (zC2 K (λ_ _ _=>False)) e st) (f:∀g e' s a w,dB B g0 w0 g w->Rel ⟨B,N,none,c⟩ g e' s a w->K e' s->Q .normal a w):awpG P ⟨B,N,none,c⟩ n x Q g0 w0 e st:=λg a w i j=>by
 refine wpIn_mono (zJh h j) ?_;rintro k l w' ⟨g',e',d,k1,k2,b⟩;cases k with
 |normal=>exact f g' e' d l w' (i.trans k1) k2 b
 |ret=>exact b.elim
 |exit _=>exact b.elim
 |panic _=>exact b.elim
 |goto _=>exact b.elim
 |outgrown=>exact b.elim
def zJr{P:di}{X:Cx}{n:Nat}{c:dE}{Q:dA->Act->de->Prop}{g0:Gh}{w0:de}{e:Env}{st:S}
 (h:∀g w,Inv X.B g st w->∃b,Inv X.B g b w/\awpG P X n c Q g0 w0 e b):awpG P X n c Q g0 w0 e st:=λg a w f d=>by
 obtain⟨b,i,j⟩:=h g w d.inv;exact j g a w f ⟨i,d.env,d.size,d.df,d.gl⟩
def zHX{P:di}{X:Cx}{n:Nat}{c:dE}{Q:dA->Act->de->Prop}{g0:Gh}{w0:de}{e:Env}{st:S}(φ:S->Prop)(a:φ st)(h:∀st,φ st->awpG P X n c Q g0 w0 e st):awpG P X n c Q g0 w0 e st:=h st a
end Go.Al
namespace Go.Den
open Go.Al
structure RestOk(s s':S)(rs rs':List Res):Prop where
 box:∀b c,.inr b∉rs->Al.look s.box b=some c->Al.look s'.box b=some c/\.inr b∉rs'
 ob:∀b c,.ob b∉rs->zE s.ob b=some c->zE s'.ob b=some c/\.ob b∉rs'
def zOq{P:di}{f:dt}{d:db V}{Q i:Outc->S->Prop}{s:S}(h:FnC P f d s Q)(j:∀oc s',Q oc s'->i oc s'):FnC P f d s i:=λB g w vs hi a k=>
 (h B g w vs hi a k).mono λe w' ⟨g',s',k1,k2,b⟩=>by
  refine⟨g',s',k1,k2,?_⟩;cases e with
  |outgrown=>exact b.elim
  |panicked c=>exact j _ _ b
  |returned v=>obtain⟨r,l,m⟩:=b;exact⟨r,l,j _ _ m⟩
section
variable{U:TyU}{C:Cod U}
def zIp{P:di}{syn:db dj}{f:Nat}{c:CP U}(h:dI C P syn f c){x:zA c.io}{a:zA c.as}{y:zA c.oo×zA c.rs}(O:c.fn x a (none:da (zA c.oo×zA c.rs)) (λu v=>some (u,v))=some y)
 {s:S} {r va:db V} {l m:db Res} (I:VKs C s c.io x r l) (J:VKs C s c.as a va m) (K:(l++m).Nodup) :
 FnC P f (r++va) s λoc s'=>∃t j k,oc=.ret (finV t)/\VKs C s' c.oo y.1 r j/\VKs C s' c.rs y.2 t k/\(j++k).Nodup/\RestOk s s' (l++m) (j++k):=by
 obtain⟨oc,k1,k2⟩:=h x a none (λu v=>some (u,v)) y O;cases oc with
 |none=>cases k1
 |some A=>
  injection k1 with k1
  subst k1;have B:∀z∈l++m,InS s z:=λz g=>by
   rcases zUa.1 g with g|g
   .exact zAH c.io x I z g
   .exact zAH c.as a J z g
  refine zOq (zFu (k2 s r va l m I J K) (zED K B)) ?_;rintro oc s' ⟨Q,L,rfl,n⟩;cases oc with
  |pan e=>exact L.elim
  |ret w=>
   obtain⟨t,j,k,M,N,R,rfl⟩:=L;have o:=zAH c.oo A.1 M;have p:=zAH c.rs A.2 N;have i:∀z∈j++k,InS Q z:=λz g=>by
    rcases zUa.1 g with g|g
    .exact o z g
    .exact p z g
   refine⟨t,j,k,rfl,jU c.oo A.1 M (zCy _ _ _ _),jU c.rs A.2 N (zCy _ _ _ _),R,λb c D E=>?_,λb c D E=>?_⟩
   .obtain⟨F,G⟩:=zDz n D E;refine⟨F,λH=>?_⟩;obtain⟨d,q⟩:=i _ H;rw[G]at q;cases q
   .obtain⟨F,G⟩:=zE7 n D E;refine⟨F,λH=>?_⟩;obtain⟨d,q⟩:=i _ H;rw[G]at q;cases q
end
end Go.Den
end
namespace Go.Proofs.YtnamdpbcpnnhaaaGreatDoor
section
open Go.Al Go.Den Go.RowKit Go.Shelf
attribute [local congr] xP xi x7 qP yX xL yN yO xQ xn xE xx xN xG yI yT xD x9 xy yh xj xO yi yo xH xF yn xI xM yl qR qB qA xh xg xm xK ym yk
def spRF:dE->dE×dE
 |.seq (.seq _ (.block i (.rangeFunc s p a b))) r=>(.block i (.rangeFunc s p a b),r)
 |.seq _ b=>spRF b
 |_=>(.skip,.skip)
abbrev wkLV(y:WS)(o:da (da LT1)):WkLT×dc:=((y.1,y.2.1,y.2.2.1,y.2.2.2.1,y.2.2.2.2,o,()),())
structure WkAt(s:S)(q:WS)(b0 bo cap b bf bm:Nat)(o6:Option Nat)(fp ff fm:List Nat):Prop where
 w:Al.look s.box b0=some ([tkV q.1,.at (.slice (some ⟨bo,0,none⟩) q.2.1.length cap),ptV b,.at (.map (some bf)),.at (.map (some bm)),.at (pO o6)],6)
 cp:q.2.1.length<=cap
 o:Al.look s.box bo=some (bdC q.2.1,cap*2)
 l:zE s.ob b=some (.lv (q.2.2.1.map trL),fp)
 f:zE s.ob bf=some (.mp (trMC q.2.2.2.1),ff)
 m:zE s.ob bm=some (.mp (trMC q.2.2.2.2),fm)
 n:[Res.inr b0,.inr bo,.ob b,.ob bf,.ob bm].Nodup
def zGj{s:S}{q:WS}{a:Nat}{r:db Res}(h:VKs CC s [wkK] (wkV q) [ptV a] r)(c:r.Nodup):∃bo cap b bf bm o6 fp ff fm,WkAt s q a bo cap b bf bm o6 fp ff fm/\r=[.inr a,.inr bo,.ob b,.ob bf,.ob bm]:=by
 obtain⟨d,bo,cap,b,fp,bf,ff,bm,fm,o6,e,k1,k2,f,g,i,j,rfl⟩:=zCK h;injection e with e _
 injection e with e
 injection e with e
 injection e with e
 injection e with e _ _
 subst e;exact⟨bo,cap,b,bf,bm,o6,fp,ff,fm,⟨k1,k2,f,g,i,j,c⟩,rfl⟩
def WkAt.shut{s:S}{q:WS}{a bo cap b bf bm:Nat}{o6:da Nat}{fp ff fm:db Nat}(h:WkAt s q a bo cap b bf bm o6 fp ff fm):VKs CC s [wkK] (wkV q) [ptV a] [.inr a,.inr bo,.ob b,.ob bf,.ob bm]:=
 zE4 rfl h.w h.cp h.o h.l h.f h.m
def zRR{s:S}{q:WS}{pp:LT1}{c:Nat}{r:db Res}(h:VKs CC s [wkL] (wkLV q (some (some pp))) [ptV c] r)(o:r.Nodup):∃bo cap b bf bm a fp ff fm f,WkAt s q c bo cap b bf bm (some a) fp ff fm/\zE s.ob a=some (.l1 (trL pp),f)/\a≠b/\a≠bf/\a≠bm/\r=[.inr c,.inr bo,.ob b,.ob bf,.ob bm,.ob a]:=by
 obtain⟨F,G,H,I,J⟩:=q;simp only[VKs,VK]at h;obtain⟨K,p,L,M,e0,rfl,⟨t,cs,N,rfl,u,v,rfl⟩,rfl,rfl⟩:=h;obtain⟨O,P,Q,R,rfl,rfl,⟨rfl,rfl⟩,T,U,V,W,rfl,rfl,⟨g,cap,rfl,w,x,rfl⟩,X,Y,Z,a6,rfl,rfl,⟨i,j,rfl,y,rfl⟩,v4,w4,a7,a8,rfl,rfl,⟨k,l,rfl,z,rfl⟩,v5,w5,a9,A,rfl,rfl,⟨m,n,rfl,B,rfl⟩,v6,w6,C,D,rfl,rfl,⟨a,f,rfl,E,rfl⟩,rfl,rfl⟩:=v;injection e0 with e _
 injection e with e
 injection e with e
 injection e with e
 injection e with e _ _
 subst e;have d:[Res.inr c,.inr g,.ob i,.ob k,.ob m,.ob a].Nodup:=o;refine⟨g,cap,i,k,m,a,j,l,n,f,⟨u,w,x,y,z,B,(zUe.1 (show([Res.inr c,.inr g,.ob i,.ob k,.ob m]++[Res.ob a]).Nodup from d)).1⟩,E,?_,?_,?_,rfl⟩<;>(rintro rfl;simp at d)
def zIx{P:di}{f:Nat}{aa rs:LK}{m:zA aa->WW (zA rs)}(h:dI CC P syn f (cW aa rs m)){a:zA aa}{q:WS}{y:zA rs×WS}(j:m a q=some y){s:S}{c bo cap b bf bm:Nat}{o6:da Nat}{fp ff fm:db Nat}(g:WkAt s q c bo cap b bf bm o6 fp ff fm)
 {va:db V} (k:VKs CC s aa a va []):FnC P f ([ptV c]++va) s λoc s'=>∃i d e,oc=.ret (finV i)/\VKs CC s' [wkK] (wkV y.2) [ptV c] d/\VKs CC s' rs y.1 i e/\(d++e).Nodup/\RestOk s s' [.inr c,.inr bo,.ob b,.ob bf,.ob bm] (d++e):=by
 have:=zIp (y:=(wkV y.2,y.1)) h (x:=wkV q) (a:=a) eB g.shut k fk;simpa using this
def zRe{P:di}{f:Nat}{aa rs:LK}{m:zA aa->WW (zA rs×da (da LT1))}(h:dI CC P syn f (cWt aa rs m)){a:zA aa}{q:WS}{y:(zA rs×da (da LT1))×WS}(j:m a q=some y){s:S}{c bo cap b bf bm:Nat}{o6:da Nat}{fp ff fm:db Nat}(g:WkAt s q c bo cap b bf bm o6 fp ff fm)
 {va:db V} (k:VKs CC s aa a va []):FnC P f ([ptV c]++va) s λoc s'=>∃i d e,oc=.ret (finV i)/\VKs CC s' [wkL] (wkLV y.2 y.1.2) [ptV c] d/\VKs CC s' rs y.1.1 i e/\(d++e).Nodup/\RestOk s s' [.inr c,.inr bo,.ob b,.ob bf,.ob bm] (d++e):=by
 have:=zIp (y:=(wkLV y.2 y.1.2,y.1.1)) h (x:=wkV q) (a:=a) eB g.shut k fk;simpa using this
def zQh{P:di}{f:Nat}{aa rs:LK}{m:zA aa->WW (zA rs×da (da LT1))}(h:dI CC P syn f (cWt aa rs m)){a:zA aa}{q:WS}{y:(zA rs×da (da LT1))×WS}(j:m a q=some y){s:S}{c bo cap b bf bm:Nat}{o6:da Nat}{fp ff fm:db Nat}(g:WkAt s q c bo cap b bf bm o6 fp ff fm)
 {va:db V} (k:VKs CC s aa a va []):FnC P f ([ptV c]++va) s λoc s'=>∃i d e,oc=.ret (finV i)/\VKs CC s' [wkK] (wkV y.2) [ptV c] d/\VKs CC s' rs y.1.1 i e/\(d++e).Nodup/\RestOk s s' [.inr c,.inr bo,.ob b,.ob bf,.ob bm] (d++e):=by
 have:=zIp (y:=(wkV y.2,y.1.1)) (zBm h) (x:=wkV q) (a:=a) eB g.shut k fk;simpa using this
def zCW(x:Nd):(match za x with|V.agg _=>true|_=>false)=true:=by
 cases x;rw[qv]
def zDt(x:Nd):(za x).flat.all V.isOne=true:=by
 cases x;rw[qv];rfl
def zMq(x:Nd):(za x).untag=za x:=CCok.untag TI.node x
def nd2(x y z:V)(l:db V):(x::y::z::l).getD (Int.toNat 2) .any=z:=rfl
abbrev polQ:Pol:=⟨λf=>f==32,λ_=>false,λ_=>false,λ_=>false,[],λ_=>[]⟩
def zOf:Nat->db Nat:=λ_=>[2,3,5,36]
def zL6(s:S)(x:Nd):VKs CC s ([.st TI.node]:LK) (x,()) [za x] []:=⟨_,[],[],[],rfl,rfl,⟨rfl,rfl⟩,rfl,rfl⟩
def WkAt.lay{s:S}{q:WS}{a bo cap b bf bm:Nat}{o6:da Nat}{fp ff fm:db Nat}(h:WkAt s q a bo cap b bf bm o6 fp ff fm){k:Nat}(c:db V×Nat)(d:Al.look s.box k=none):WkAt ⟨Al.lay s.box k c,s.tg,s.nx,s.ob⟩ q a bo cap b bf bm o6 fp ff fm/\k≠a/\k≠bo:=by
 have g:k≠a:=λe=>by rw[e,h.w]at d;cases d
 have i:k≠bo:=λe=>by rw[e,h.o]at d;cases d
 exact⟨⟨by show Al.look (Al.lay s.box k c) a=_;rw[zO,if_neg g];exact h.w,h.cp,by show Al.look (Al.lay s.box k c) bo=_;rw[zO,if_neg i];exact h.o,h.l,h.f,h.m,h.n⟩,g,i⟩
def WkAt.marks{s:S}{q:WS}{a bo cap b bf bm:Nat}{o6:da Nat}{fp ff fm:db Nat}(h:WkAt s q a bo cap b bf bm o6 fp ff fm){k:Nat}(c:zE s.ob k=none):WkAt ⟨Al.lay s.box a ([tkV q.1,.at (.slice (some ⟨bo,0,none⟩) q.2.1.length cap),ptV b,.at (.map (some bf)),.at (.map (some k)),.at (pO o6)],6),s.tg,s.nx,(k,.mp [],[k])::s.ob⟩ (q.1,q.2.1,q.2.2.1,q.2.2.2.1,[]) a bo cap b bf k o6 fp ff [k]:=by
 have i:k≠b:=λe=>by rw[e,h.l]at c;cases c
 have j:k≠bf:=λe=>by rw[e,h.f]at c;cases c
 have d:a≠bo:=λe=>by have:=h.n;subst e;simp at this
 have g:=h.n;refine⟨by show Al.look (Al.lay s.box a _) a=_;rw[zO,if_pos rfl],h.cp,by show Al.look (Al.lay s.box a _) bo=_;rw[zO,if_neg d];exact h.o,?_,?_,?_,?_⟩
 .show zE (_::s.ob) b=_;rw[zK,if_neg i];exact h.l
 .show zE (_::s.ob) bf=_;rw[zK,if_neg j];exact h.f
 .show zE (_::s.ob) k=_;rw[zK,if_pos rfl];rfl
 .simp only[zUm,zUG,zU4,zVL,not_or,not_false_eq_true,zVx,zUp]at g ⊢;exact⟨⟨g.1.1,dQ,dQ,dQ⟩,⟨dQ,dQ,dQ⟩,⟨g.2.2.1.1,λe=>by injection e with e;exact i e.symm⟩,λe=>by injection e with e;exact j e.symm⟩
def _root_.cq:=c9 @zBD (c9 @zA9 @zAV)
set_option maxRecDepth 100000 in
def pre98{p:WC}(hp:WOk p){B n:Nat}{q:WS}{kd tk:Int}{k0 k1 k2:Nd}{ks:db Nd}{y0:(zA ([]:LK)×da (da LT1))×WS}{W:(zA ([.int .i64]:LK)×da (da LT1))×WS}{H:zA ([]:LK)×WS}{pp:LT1}
 (e0:p.c68 (k0,()) q=some y0) (e1:p.c103 (k1,()) y0.2=some W) (aq:W.1.2=some (some pp)) (e2:c102 ((show Int×dc from W.1.1).1,()) W.2=some H) (X:(allT k2).length<=1000000)
 {Q:dA->Act->de->Prop} {g0:Gh} {w0:de} {m:S} {i bo cap b bf bm:Nat} {o6:da Nat} {fp ff fm:db Nat} (hw:WkAt m q i bo cap b bf bm o6 fp ff fm)
 (HK:∀(s:S)(a d bs bo cap b bf bm o:Nat)(o6:da Nat)(fp ff f6:db Nat),WkAt s (H.2.1,H.2.2.1,H.2.2.2.1,H.2.2.2.2.1,[]) i bo cap b bf bm o6 fp ff [bm]->zE s.ob o=some (.l1 (trL pp),f6)->o≠b->o≠bf->o≠bm ->
  Al.look s.box a=some ([ptV i],1)->Al.look s.box d=some ([vi kd,vi tk,sl ((k0::k1::k2::ks).map za)],3)->Al.look s.box bs=some ([.lst (zx ((fdT k2 29).map za)) ((fdT k2 29).map za)],1) ->
  a≠i->a≠bo->d≠i->d≠bo->a≠d ->
  awpG Tryz.prog ⟨B,⟨75,[]⟩,none,[]⟩ n (spRF (jV Tryz.f98)).1 (Exit.then ((spRF (jV Tryz.f98)).2.wpIn Fence.wide n Tryz.prog Q) Q) g0 w0 [(2,ptV a),(3,ptV d),(5,ptV o),(36,.clo (.func 137) [ptV bs])] s) :
 awpG Tryz.prog ⟨B,⟨75,[]⟩,none,[]⟩ n (jV Tryz.f98) Q g0 w0 (qJ 0 [ptV i,za (.mk kd tk (k0::k1::k2::ks))]) m:=by
 simp only[jV,Tryz.f98,zVl,spRF]at HK ⊢;rw[qv];simp only[qJ,Nat.reduceAdd];refine kW ?_
 (repeat (first|refine zh ?_|(refine zd rfl ?_;try simp only[cx,reduceIte])|refine zT ?_|((first|refine zf polN ks98 _ rfl rfl ?_|refine zZ polN mixed ks98 _ rfl rfl dO dO ?_);simp only[↓zk,↓zK1,cC,zUC,V.flat,zUM,zUK,Nat.reduceEqDiff,reduceCtorEq,ks98,sl])))
 refine⟨rfl,λa Y=>⟨rfl,λd t=>?_⟩⟩;obtain⟨Z,A,aa⟩:=hw.lay ([ptV i],1) Y;obtain⟨u,C,ab⟩:=Z.lay ([vi kd,vi tk,sl ((k0::k1::k2::ks).map za)],3) t;have ac:a≠d:=λe=>by
  replace t:Al.look (Al.lay m.box a ([ptV i],1)) d=none:=t;rw[zO,if_pos e]at t;cases t
 have z2:Al.look (Al.lay (Al.lay m.box a ([ptV i],1)) d ([vi kd,vi tk,sl ((k0::k1::k2::ks).map za)],3)) a=some ([ptV i],1):=by rw[zO,if_neg (λe=>ac e.symm),zO,if_pos rfl]
 have z3:Al.look (Al.lay (Al.lay m.box a ([ptV i],1)) d ([vi kd,vi tk,sl ((k0::k1::k2::ks).map za)],3)) d=some ([vi kd,vi tk,sl ((k0::k1::k2::ks).map za)],3):=by rw[zO,if_pos rfl]
 replace u:WkAt ⟨Al.lay (Al.lay m.box a ([ptV i],1)) d ([vi kd,vi tk,sl ((k0::k1::k2::ks).map za)],3),m.tg,m.nx,m.ob⟩ q i bo cap b bf bm o6 fp ff fm:=u;simp only[sl,zUC]at u z2 z3;generalize P:(⟨Al.lay (Al.lay m.box a ([ptV i],1)) d ([vi kd,vi tk,V.lst (zx (za k0::za k1::za k2::List.map za ks)) (za k0::za k1::za k2::List.map za ks)],3),m.tg,m.nx,m.ob⟩:S)=s1 at u;have v:Al.look s1.box a=some ([ptV i],1):=by rw[<-P];exact z2
 have x:Al.look s1.box d=some ([vi kd,vi tk,V.lst (zx (za k0::za k1::za k2::List.map za ks)) (za k0::za k1::za k2::List.map za ks)],3):=by rw[<-P];exact z3
 clear z2 z3 P;clear Y t Z hw;refine kW ?_
 (repeat (first|refine zh ?_|(refine zd rfl ?_;try simp only[cx,reduceIte])|refine zT ?_|((first|refine zf polN ks98 _ rfl rfl ?_|refine zZ polN mixed ks98 _ rfl rfl dO dO ?_);simp only[↓cz,↓xe,cO,yy,cF,jl,qY,jM,zUr,zUC,zUL,zU2,fits,z7,yA,V.isAgg,zUD,zUF,zUf,zUX,zUS,zVC,zUT,zUc,zUZ,zUU,zUP,zUM,zUK,zUt,Nat.reduceAdd,Nat.reduceEqDiff,zUN,zUY,zUB,zUq,cU,kh,zD8,ku,zBk,jr,zDD,cq,ks98,v,x])))
 refine⟨⟨dM,dM⟩,jO _,⟨jO _,zCW _⟩,?_⟩;refine jZ [ptV i,za k0] rfl rfl rfl dO (by simp only[zUC,zUL,zUd,zUs,cQ,zUM,zUK,Nat.reduceEqDiff,zUP,Int.toNat_zero,zUT,zDt]) (by simp only[zUC,zUL,ct,zUM,zUK,Nat.reduceEqDiff,Int.toNat_zero,zUT];exact .keep (.keep .nil)) ((zQh hp.h68 e0 u (zL6 _ k0))) (λr s f=>?_) (λc s f=>ed);obtain⟨ws,r1,r2,h,j,D,k,g⟩:=f;have y:=g.box a _ (by simp[A,aa]) v;have z:=g.box d _ (by simp[C,ab]) x;obtain⟨ad,aw,b',ay,az,aA,aB,aC,aD,ae,rfl⟩:=zGj j (zUe.1 k).1;have J:a≠ad:=λe=>y.2 d5;have K:d≠ad:=λe=>z.2 d5;replace y:=y.1;replace z:=z.1;clear h j D k g u v x aa ab;simp only[↓zk,cr,zUM,zUK,Nat.reduceEqDiff];refine kW ?_
 (repeat (first|refine zh ?_|(refine zd rfl ?_;try simp only[cx,reduceIte])|refine zT ?_|((first|refine zf polN ks98 _ rfl rfl ?_|refine zZ polN mixed ks98 _ rfl rfl dO dO ?_);simp only[↓cz,↓xe,cO,yy,cF,jl,qY,jM,zUr,zUC,zUL,zU2,fits,z7,yA,V.isAgg,zUD,zUF,zUf,zUX,zUS,zVC,zUT,zUc,zUZ,zUU,zUP,zUM,zUK,zUt,Nat.reduceAdd,Nat.reduceEqDiff,zUN,zUY,zUB,zUq,cU,kh,zD8,ku,zBk,jr,zDD,cq,ks98,y,z])))
 refine⟨⟨dM,dM⟩,jO _,⟨jO _,zCW _⟩,?_⟩;refine jZ [ptV i,za k1] rfl rfl rfl dO (by simp only[zUC,zUL,zUd,zUs,cQ,zUM,zUK,Nat.reduceEqDiff,zUP,Int.toNat_one,zUT,zUc,zDt]) (by simp only[zUC,zUL,ct,zUM,zUK,Nat.reduceEqDiff,Int.toNat_one,zUT,zUc];exact .keep (.keep .nil)) ((zRe hp.h103 e1 ae (zL6 _ k1))) (λr s f=>?_) (λc s f=>ed);obtain⟨ws,r1,r2,h,j,D,k,g⟩:=f;have l:=g.box a _ (by simp[A,J]) y;have E:=g.box d _ (by simp[C,K]) z;obtain⟨aE,aF,aG,aH,rfl,rfl,⟨rfl,rfl⟩,rfl,rfl⟩:=D;injection h with h
 subst h;rw[aq]at j;obtain⟨af,ax,b2,aI,aJ,o,aK,aL,aM,f6,R,L,ag,ah,ai,rfl⟩:=zRR j (zUe.1 k).1;have M:a≠af:=λe=>l.2 d5;have N:d≠af:=λe=>E.2 d5;replace l:=l.1;replace E:=E.1;clear j k g ae y z J K;simp only[finV];simp only[↓zk,↓yb,ct,zUM,zUK,Nat.reduceEqDiff];refine kW ?_
 (repeat (first|refine zh ?_|(refine zd rfl ?_;try simp only[cx,reduceIte])|refine zT ?_|((first|refine zf polN ks98 _ rfl rfl ?_|refine zZ polN mixed ks98 _ rfl rfl dO dO ?_);simp only[↓zk,↓yb,↓cB,cR,zUr,zU2,z7,yA,zUD,zUF,zUf,zUX,zUS,zVC,zUT,zUc,zUU,zUP,zUM,zUK,zUt,Nat.reduceAdd,Nat.reduceEqDiff,zUN,zUY,zUB,zUq,cq,cY,jv,zSs,ks98,l,R.w])))
 refine kW ?_
 (repeat (first|refine zh ?_|(refine zd rfl ?_;try simp only[cx,reduceIte])|refine zT ?_|((first|refine zf polN ks98 _ rfl rfl ?_|refine zZ polN mixed ks98 _ rfl rfl dO dO ?_);simp only[↓zu,↓yL,cC,yy,ci,zUr,zUC,zUL,zU2,z7,yA,zUD,zUF,zUf,zUS,zVC,zUT,zUU,zUP,zUM,zUK,zUt,Nat.reduceEqDiff,zUN,zUY,zUB,cq,ks98,l])))
 refine jZ [ptV i,.at (.int .i64 (show Int×dc from W.1.1).1)] rfl rfl rfl dO eC ep ((zIx ok102 e2 R (va:=[.at (.int .i64 (show Int×dc from W.1.1).1)]) ⟨_,[],[],[],rfl,rfl,⟨rfl,rfl⟩,rfl,rfl⟩)) (λr s f=>?_) (λc s f=>ed);obtain⟨ws,r1,r2,h,j,D,k,g⟩:=f;have v:=g.box a _ (by simp[A,M]) l;have x:=g.box d _ (by simp[C,N]) E;have G:=g.ob o _ (by simp[ag,ah,ai]) L;obtain⟨I,O,b3,T,aN,aj,ak,al,aO,U,rfl⟩:=zGj j (zUe.1 k).1;have am:a≠I:=λe=>v.2 d5;have an:d≠I:=λe=>x.2 d5;have ao:o≠b3:=λe=>G.2 d5;have ap:o≠T:=λe=>G.2 d5;replace v:=v.1;replace x:=x.1;replace G:=G.1;clear h j D k g R l E M N ag ah ai L;simp only[↓zk,cr,zUM,zUK,Nat.reduceEqDiff];refine kW ?_;refine zf polN ks98 _ rfl rfl ?_;simp only[↓cZ,↓cB,cR,yy,c6,zUr,zUC,zUL,zU2,z7,yA,zUD,zUF,zUf,zUS,zVC,zUT,zUU,zUP,zUM,zUK,zUt,Nat.reduceEqDiff,zUN,zUY,zUB,zUq,c5,cq,zNX,ks98,v,zG2];refine λbm4 hbm4=>?_;simp only[xo,spl,zUO,zUQ,zU2,zM,V.isOne,V.flat,zUd,zUs,zUD,zUF,zUf,zUX,zUS,zUl,zUU,zUP,zUt,Nat.reduceAdd,Nat.reduceLeDiff,zUY,c5,U.w];refine zHX (λs=>WkAt s (H.2.1,H.2.2.1,H.2.2.2.1,H.2.2.2.2.1,[]) i I O b3 T bm4 aj ak al [bm4]/\Al.look s.box a=some ([ptV i],1)/\Al.look s.box d=some ([vi kd,vi tk,V.lst (zx (za k0::za k1::za k2::List.map za ks)) (za k0::za k1::za k2::List.map za ks)],3)/\zE s.ob o=some (.l1 (trL pp),f6))
  ⟨U.marks hbm4,by show Al.look (Al.lay s.box i _) a=_;rw[zO,if_neg (λe=>A e.symm)];exact v,by show Al.look (Al.lay s.box i _) d=_;rw[zO,if_neg (λe=>C e.symm)];exact x,by show zE (_::s.ob) o=_;rw[zK,if_neg (λe=>by rw[e,G]at hbm4;cases hbm4)];exact G⟩ ?_
 have ar:o≠bm4:=λe=>by rw[<-e,G]at hbm4;cases hbm4
 clear U v x G hbm4;rintro s6 ⟨au,v,x,G⟩;refine zQM (kW ?_)
 (repeat (first|refine zh ?_|(refine zd rfl ?_;try simp only[cx,reduceIte])|refine zT ?_|((first|refine zf polQ zOf _ rfl rfl ?_|refine zZ polQ mixed zOf _ rfl rfl dO dO ?_);simp only[↓cz,↓xe,cO,yy,cF,jl,qY,jM,zUr,zUC,zUL,zU2,fits,z7,yA,V.isAgg,zUD,zUF,zUf,zUX,zUS,zVC,zUT,zUc,zUZ,zUU,zUP,zUM,zUK,zUt,Nat.reduceAdd,Nat.reduceEqDiff,zUN,zUY,zUB,zUq,cU,kh,zD8,ku,zBk,jr,zDD,zOf,x])))
 refine⟨⟨dM,dM⟩,jO _,⟨jO _,zCW _⟩,?_⟩
 (refine zK5 (zPz k2 29 X) rfl dO (by simp only[zUC,zUL,ct,cF,zUM,zUK,Nat.reduceEqDiff,Go.Al.untag_at,nd2,zMq]) (by simp only[zUC,zUL,zUd,zUs,cQ,cF,zUM,zUK,Nat.reduceEqDiff,zUP,nd2,zDt]) ?_;simp only[nd2])
 refine jZ [.lst (zx ((fdT k2 29).map za)) ((fdT k2 29).map za)] rfl rfl rfl dO (by simp only[zUC,zUL,zUd,zUs,ct,zUM,zUK,Nat.reduceEqDiff,zGB,zUP]) eA ((ok124x (by simp only[zDb]))) (λr s f=>?_) (λc s f=>ed);obtain⟨bs,F,h,rfl⟩:=f;injection h with h
 subst h;simp only[↓zk,cr,zUM,zUK,Nat.reduceEqDiff];obtain⟨av,aP,aQ⟩:=au.lay ([.lst (zx ((fdT k2 29).map za)) ((fdT k2 29).map za)],1) F;refine HK _ a d bs I O b3 T bm4 o aj ak al f6 av G ao ap ar ?_ ?_ ?_ A am C an ac
 .show Al.look (Al.lay s6.box bs _) a=_;rw[zO,if_neg (λe=>by rw[e,v]at F;cases F)];exact v
 .show Al.look (Al.lay s6.box bs _) d=_;rw[zO,if_neg (λe=>by rw[e,x]at F;cases F)];exact x
 .show Al.look (Al.lay s6.box bs _) bs=_;rw[zO,if_pos rfl]
end
section
open Go.Al Go.Den Go.RowKit Go.Shelf
attribute [local go_sem] Oper.semAt_some
attribute [local congr] xP xi x7 qP yX xL yN yO xQ xn xE xx xN xG yI yT xD x9 xy yh xj xO yi yo xH xF yn xI xM yl qR qB qA xh xg xm xK ym yk
def frzG(g:Gh)(W:de)(bm:Nat):Gh:=⟨λb=>if b=bm then 0 else if b<W.heap.size then max (g.wm b) (match W.heap[b]? with|some (.cells arr _ _)=>arr.size|_=>0)else 0,g.tb,⟨λb=>decide (b<W.heap.size)&&decide (b≠bm),λ_=>false⟩⟩
structure Keep1(bm:Nat)(w W:World):Prop where
 below:Below 0 w W
 blk:∀b,b<w.heap.size->b≠bm->W.heap[b]?=w.heap[b]?
def Keep1.refl(bm:Nat)(w:de):Keep1 bm w w:=⟨Below.refl _ _,λ_ _ _=>rfl⟩
def Keep1.trans{bm:Nat}{A B C:de}(h:Keep1 bm A B)(k:Keep1 bm B C):Keep1 bm A C:=⟨h.below.trans k.below,λb a d=>(k.blk b (zUo a h.below.size) d).trans (h.blk b a d)⟩
structure IsM(bm:Nat)(c:MT)(w W:World):Prop where
 keep:Keep1 bm w W
 mp:∃(arr:Array MapEntry)(clock:Nat),W.heap[bm]?=some (Obj.map arr clock)/\∀g w,MapR g w (trMC c) arr.toList
def IsM.grown{bm:Nat}{c:MT}{w A C:de}(h:IsM bm c w A)(j:bm<w.heap.size){a:da Nat}(i:A.grownBy C a)(l:∀k,a=some k->w.heap.size<=k/\∃o:Obj,A.heap[k]?=some o/\o.isCells=false):IsM bm c w C:=by
 have m:=h.keep.below.size;have d:∀b,b<w.heap.size->C.heap[b]?=A.heap[b]?:=λb f=>i.block b dM (λe=>by have:=(l b e.symm).1;omega);refine⟨⟨h.keep.below.trans (Below.grown (Below.refl 0 A) i (zVI _) (λk e=>zVI _)),λb f n=>(d b f).trans (h.keep.blk b f n)⟩,?_⟩;obtain⟨arr,ck,p,q⟩:=h.mp;exact⟨arr,ck,(d bm j).trans p,q⟩
def zLt{W:de}{b o:Nat}{v:dh}(h:W.cell? ⟨b,o,none⟩=some v):∃arr el m,W.heap[b]?=some (.cells arr el m)/\o<arr.size:=by
 unfold World.cell? at h;simp only at h;cases e:W.heap[b]? with
 |none=>rw[e]at h;cases h
 |some x=>
  rw[e]at h;cases x with
  |cells arr el m=>
   simp only at h;refine⟨arr,el,m,rfl,?_⟩;rcases zUx o arr.size with a|a
   .exact a
   .rw[zVW a]at h;cases h
  |_=>simp at h
section
variable{B:Nat}{g:Gh}{s:S}{w W:de}{bm:Nat}{c:MT}
def zJS(hi:Al.Inv B g s w)(a:g.wm bm=0)(d:Keep1 bm w W):dD g w (frzG g W bm) W:=by
 refine⟨λb=>?_,λ_ _ e=>e,λb o f=>?_⟩
 .show g.wm b<=(if b=bm then 0 else if b<W.heap.size then max (g.wm b) _ else 0);split
  .rename_i e;rw[e,a];exact zUB _
  .split
   .exact zWZ _ _
   .rename_i h;rw[hi.fresh b (by have:=d.below.size;omega)];exact zUB _
 .have i:b<w.heap.size:=by
   rcases zUx b w.heap.size with h|h
   .exact h
   .rw[hi.fresh b h]at f;omega
  exact World.cell?_of_block (d.blk b i (λe=>by rw[e,a]at f;omega))
def frz_at{b o:Nat}{ds:db dh}(a:b≠bm)(h:∀(k:Nat) u,ds[k]?=some u->W.cell? ⟨b,o+k,none⟩=some u):Al.At (frzG g W bm) W b o ds:=λk u i=>by
 have e:=h k u i;refine⟨e,?_⟩;obtain⟨arr,el,m,f,j⟩:=zLt e;have d:=(zUH.1 f).1;show _<(if b=bm then 0 else if b<W.heap.size then max (g.wm b) _ else 0);rw[if_neg a,if_pos d,f];exact zUo j (Nat.le_max_right _ _)
def zIh{b:Nat}{arr:dv dh}{el:dg}{m:Nat×Nat}(a:b≠bm)(h:W.heap[b]?=some (.cells arr el m)):Al.At (frzG g W bm) W b 0 arr.toList:=frz_at a λk u d=>by
 rw[zVJ]at d;simp[World.cell?,h,d]
def zNU(hi:Al.Inv B g s w)(p:B<=bm)(r:bm<w.heap.size)(m:IsM bm c w W):Al.Inv B (frzG g W bm) ⟨[],[],s.nx,[(bm,.mp (trMC c),[bm])]⟩ W:=by
 have f:=hi.base;have u:=m.keep.below.size;have d:∀b o fp,zE [(bm,OV.mp (trMC c),[bm])] b=some (o,fp)->b=bm/\o=.mp (trMC c)/\fp=[bm]:=λb o fp h=>by
  rw[zK]at h;split at h
  .rename_i e;injection h with h;obtain⟨rfl,rfl⟩:=zVf h;exact⟨e.symm,rfl,rfl⟩
  .cases h
 refine⟨dM,λb cs k h=>dU,λt a=>eZ,λt a=>eZ,λt a=>eZ,zUp,λb f=>?_,λt a=>hi.names t a,λb f=>?_,λb o fp h=>?_,λb o fp v x q j i l _ _=>(d _ _ _ i).1.trans (d _ _ _ l).1.symm,λt a=>eZ⟩
 .show(if b=bm then 0 else if b<W.heap.size then max (g.wm b) _ else 0)=0;split
  .rfl
  .rw[if_neg dM]
 .have:b<W.heap.size/\b≠bm:=by simpa [frzG]using f
  exact⟨this.1,rfl,λt a=>eZ⟩
 .obtain⟨rfl,rfl,rfl⟩:=d b o fp h;obtain⟨arr,ck,i,l⟩:=m.mp;refine⟨⟨rfl,arr,ck,i,l _ _⟩,dQ,λj n=>?_⟩;simp only[zUJ]at n;subst n;exact⟨p,dM,if_pos rfl,rfl,λt a=>eZ,by simp[frzG]⟩
def zKf(hi:Al.Inv B g s w)(b:GlobOk B g.wm w)(d:g.wm bm=0)(f:B<=bm)(a:Keep1 bm w W):GlobOk B (frzG g W bm).wm W:=by
 have h:=hi.base;refine b.below ⟨a.below.os,a.below.tape,a.below.output,a.below.size,λk e=>a.blk k dM dM⟩ (zJS hi d a).wm
def zLk{g':Gh}{s':S}{e:de}{j:MT}(h:IsM bm c w W)(q:bm<w.heap.size)(i:dB B (frzG g W bm) W g' e)(l:Al.Inv B g' s' e)(m:zE s'.ob bm=some (.mp (trMC j),[bm])) :
 IsM bm j w e/\(∀b,b<W.heap.size->b≠bm->e.heap[b]?=W.heap[b]?)/\KeepsFrom w.heap.size W e:=by
 have a:∀b,b<W.heap.size->b≠bm->e.heap[b]?=W.heap[b]?:=λb f d=>(i.fz b (by simp[frzG,f,d])).1;have r:=h.keep.below.size;obtain⟨⟨_,arr,ck,n,p⟩,_⟩:=l.ex.ob _ _ _ m;refine⟨⟨⟨h.keep.below.trans (i.below.mono (zVI _)),λb f d=>(a b dM d).trans (h.keep.blk b f d)⟩,arr,ck,n,zCI p⟩,a,i.below.size,λk o f d _=>?_⟩;exact(a k (zUH.1 d).1 dM).trans d
end
def Inv.butMp{B:Nat}{g:Gh}{s:S}{w W:de}{bm:Nat}{c:MT}{o:OV}(hi:Al.Inv B g s w)(v:zE s.ob bm=some (o,[bm]))(p:IsM bm c w W):Al.Inv B g ⟨s.box,s.tg,s.nx,(bm,.mp (trMC c),[bm])::s.ob⟩ W/\dD g w g W:=by
 obtain⟨_,_,L⟩:=hi.ex.ob bm _ _ v;obtain⟨M,Z,E,F,G,N⟩:=L bm dQ;have H:=p.keep.below.size;have I:∀{b:Nat}{o:Obj},w.heap[b]?=some o->b<w.heap.size:=λu=>(zUH.1 u).1;have A:dD g w g W:=⟨λ_=>zUB _,λ_ _ e=>e,λb o J=>by
  refine World.cell?_of_block (p.keep.blk b ?_ ?_)
  .rcases zUx b w.heap.size with u|u
   .exact u
   .rw[hi.fresh b u]at J;omega
  .intro e;rw[e,E]at J;omega⟩
 have d:∀{b o' fp},zE ((bm,OV.mp (trMC c),[bm])::s.ob) b=some (o',fp)->(b=bm/\o'=.mp (trMC c)/\fp=[bm])\/(b≠bm/\zE s.ob b=some (o',fp)):=λ{b o' fp} h=>by
  rw[zK]at h;split at h
  .rename_i e;injection h with h;obtain⟨rfl,rfl⟩:=zVf h;exact .inl ⟨e.symm,rfl,rfl⟩
  .rename_i e;exact .inr ⟨λq=>e q.symm,h⟩
 refine⟨⟨zU0 hi.base H,λb cs k a=>?_,hi.tag,λt K b cap n sz a=>?_,hi.dist,hi.nodup,λb a=>hi.fresh b (zU0 H a),hi.names,λb a=>?_,λb o' fp a=>?_,λb1 o1 f1 b2 o2 f2 j (x:zE ((bm,OV.mp (trMC c),[bm])::s.ob) b1=some (o1,f1)) (q:zE ((bm,OV.mp (trMC c),[bm])::s.ob) b2=some (o2,f2)) m1 m2=>?_,hi.ex.ft⟩,A⟩
 .obtain⟨r,l,i,C,arr,el,us,y,z,D,O⟩:=hi.box b cs k a;have f:b≠bm:=λe=>by rw[e]at a;rw[F]at a;cases a
  exact⟨r,l,i,C,arr,el,us,(p.keep.blk b (I y) f).trans y,z,yE A _ _ D,O⟩
 .obtain⟨r,l,i,C,y,arr,el,z,D⟩:=hi.own t K b cap n sz a;have f:b≠bm:=λe=>by rw[e]at a;exact G t K _ a
  exact⟨r,l,i,C,y,arr,el,(p.keep.blk b (I z) f).trans z,D⟩
 .obtain⟨r,l,i⟩:=hi.ex.frz b a;exact⟨dM,l,i⟩
 .rcases d a with⟨rfl,rfl,rfl⟩|⟨f,a⟩
  .obtain⟨arr,ck,P,Q⟩:=p.mp;refine⟨⟨rfl,arr,ck,P,Q _ _⟩,dQ,λj m=>?_⟩;simp only[zUJ]at m;subst m;exact⟨M,dM,E,F,G,N⟩
  .obtain⟨r,l,i⟩:=hi.ex.ob b o' fp a;refine⟨r.local A (λj m=>p.keep.blk j (i j m).2.1 (λe=>f (hi.ex.obd b _ _ bm _ _ bm a v (by rw[<-e];exact m) dQ))),l,λj m=>?_⟩;obtain⟨R,r2,T⟩:=i j m;exact⟨R,dM,T⟩
 .rcases d x with⟨U,_,rfl⟩|⟨V,x⟩<;>rcases d q with⟨X,_,rfl⟩|⟨Y,q⟩
  .rw[U,X]
  .exact(Y (hi.ex.obd b2 _ _ bm _ _ j q v m2 m1)).elim
  .exact(V (hi.ex.obd b1 _ _ bm _ _ j x v m1 m2)).elim
  .exact hi.ex.obd b1 o1 f1 b2 o2 f2 j x q m1 m2
abbrev wkA(l:db dw)(bo n cap b bf bm:Nat)(o6:da Nat):V:=.agg [tkV l,.at (.slice (some ⟨bo,0,none⟩) n cap),ptV b,.at (.map (some bf)),.at (.map (some bm)),.at (pO o6)]
set_option maxRecDepth 100000 in
def ok46r{l:db dw}{bo n cap b bf bm:Nat}{o6:da Nat}{i:Int}{s:S}(e:0<=i)(f:i<l.length) :
 FnC Tryz.prog 46 [.rptr (wkA l bo n cap b bf bm o6),.at (.int .i64 i)] s λoc s'=>oc=.ret (.at (.string ⟨(l.getD i.toNat tokD).text.toArray⟩))/\s'=s:=by
 have a:=tk_at e f;have d:(l.map (CC.encV TI.tok)).length=l.length:=zUZ _;generalize l.getD i.toNat tokD=tk at a ⊢;refine xS Tryz.func46 rfl Tryz.ntmps46 Tryz.results46 (by show 2<=13;decide) λB=>?_;simp only[zUO,zUQ,zUR,qJ,Nat.reduceAdd]
 (repeat (first|refine zh ?_|(refine zd rfl ?_;try simp only[cx,reduceIte])|refine zT ?_|((first|refine zf polN ks46 _ rfl rfl ?_|refine zZ polN mixed ks46 _ rfl rfl dO dO ?_);simp only[↓cH,↓xe,cC,zm,zEE,zCH,jl,kQ,zAs,qY,jM,zUr,zU2,fits,z7,yA,zM,V.isOne,V.isAgg,V.size,jh,zUd,zUs,zUD,zUF,zUf,zUX,zUS,zUl,zUT,zUc,zUU,zUP,zUM,zUK,zUt,Nat.reduceAdd,Nat.reduceEqDiff,Nat.reduceLeDiff,reduceCtorEq,zUN,zUY,zVE,zUq,zIJ,zIN,zF9,zLa,zLV,zIm,zNp,zMI,zJA,zJD,zNZ,ks46,a])))
 refine⟨⟨e,by rw[d];exact f⟩,?_⟩
 (repeat (first|refine zh ?_|(refine zd rfl ?_;try simp only[cx,reduceIte])|refine zT ?_|((first|refine zf polN ks46 _ rfl rfl ?_|refine zZ polN mixed ks46 _ rfl rfl dO dO ?_);simp only[])))
 simp only[yx];exact⟨rfl,rfl,trivial⟩
def rfA:dE->dE
 |.block _ (.rangeFunc _ _ a _)=>a
 |_=>.skip
def rfB:dE->dE
 |.block _ (.rangeFunc _ _ _ b)=>b
 |_=>.skip
def zOS:Nat->db Nat:=λ_=>[2,7]
set_option maxRecDepth 100000 in
def zRk{B a k2 bm:Nat}{nk nt:Int}{aa:da Addr}{nn cc:Nat}{st:S} :
 awp Tryz.prog ⟨B,⟨75,[]⟩,some a,[]⟩ (rfA (spRF (jV Tryz.f98)).1) (λb e' s'=>b=.normal/\∃k,Al.look st.box k=none/\e'=[(2,ptV k2),(7,ptV k)]/\Al.look s'.box k=some ([vi nk,vi nt,.at (.slice aa nn cc)],3)/\s'.ob=st.ob)
  [(2,ptV k2),(38,.agg [vi nk,vi nt,.at (.slice aa nn cc)])] st:=by
 simp only[jV,Tryz.f98,zVl,spRF,rfA];unfold vi
 (repeat (first|refine zh ?_|(refine zd rfl ?_;try simp only[cx,reduceIte])|refine zT ?_|((first|refine zf polN zOS _ rfl rfl ?_|refine zZ polN mixed zOS _ rfl rfl dO dO ?_);simp only[↓cZ,↓zLp,cA,qM,zJd,zG1,zUU,zUM,zUK,zUt,Nat.reduceEqDiff,zHf,zOS])))
 refine⟨rfl,λk d=>?_⟩;simp only[qU,xo,spl,zUQ,zUR,zU2,zM,V.isOne,V.flat,zUd,zUs,zUD,zUF,zUf,zUX,zUl,zWH,zUU,zUP,zUM,zVx,zUt,Nat.reduceAdd,zUY,zUB,zO,ku,jr,ku];exact⟨k,d,rfl,if_pos rfl⟩
abbrev polR:Pol:=⟨λ_=>false,λ_=>false,λ_=>false,λf=>f==46,[(49,2),(49,41)],λ_=>[]⟩
def nd0(x:V)(l:db V):(x::l).getD (Int.toNat 0) .any=x:=rfl
def zKk(L:Pol)(x:dq)(y:V):ldK L x (.rptr y)=True:=eq_true (by cases x<;>first|trivial|(unfold ldK;intro p _ _ b o h;cases h))
set_option maxRecDepth 100000 in
def zSr{B e:Nat}{l:db dw}{bo n cap b bf bm nx:Nat}{o6:da Nat}{nk nt:Int}{kk a:Int}{kl:db Nd}{kids:db Nd}{c:MT}(f:0<=a)(h:a<l.length)(i:l.length<1000000) :
 awp Tryz.prog ⟨B,⟨75,[]⟩,some e,[]⟩ (rfB (spRF (jV Tryz.f98)).1) (λj e' s'=>j=.normal/\zE s'.ob bm=some (.mp (trMC (yd c (l.getD a.toNat tokD).text (a+1))),[bm]))
  [(2,.rptr (.rptr (wkA l bo n cap b bf bm o6))),(7,.rptr (.agg [vi nk,vi nt,sl ((Nd.mk kk a kl::kids).map za)]))] ⟨[],[],nx,[(bm,.mp (trMC c),[bm])]⟩:=by
 simp only[jV,Tryz.f98,zVl,spRF,rfB,zUC,qv];unfold vi sl;have d:IntKind.i64.wrap (a+1)=a+1:=IntWalk.i64_in _ dM
 (repeat (first|refine zh ?_|(refine zd rfl ?_;try simp only[cx,reduceIte])|refine zT ?_|((first|refine zf polR ks98 _ rfl rfl ?_|refine zZ polR mixed ks98 _ rfl rfl dO dO ?_);simp only[↓zl,↓xe,↓yB,zI,zBv,cy,cF,zCH,jl,kQ,zAs,qY,jM,zUr,zUC,zUL,zU2,fits,z7,yA,zM,V.isOne,V.isAgg,V.size,jh,zUd,zUs,zUD,zUF,zUf,zUX,zUS,zUl,zVC,zUT,zUc,zUZ,zUU,zUP,zUM,zUK,zUt,Nat.reduceAdd,Nat.reduceEqDiff,Nat.reduceLeDiff,reduceCtorEq,zUN,zUY,zVE,zUB,zUq,cm,cU,kh,zD8,ku,jr,zM7,zDD,c7,cq,zNX,ks98,zHA,zKk,nd0])))
 refine⟨⟨dM,dM⟩,?_⟩;refine zBN [.rptr (wkA l bo n cap b bf bm o6),.at (.int .i64 a)] (.at (.string ⟨(l.getD a.toNat tokD).text.toArray⟩)) rfl rfl dO (by simp only[zUC,zUL,zUd,zUs,cQ,zUM,zUK,Nat.reduceEqDiff,zJ0,zUP]) ep (ok46r f h) ?_;simp only[↓qK,↓zl,↓xe,ct,cF,jl,kQ,zAs,qY,jM,zUr,zU2,fits,z7,yA,zM,V.isOne,V.isAgg,V.size,jh,zUd,zUs,zUD,zUF,zUf,zUX,zUS,zUl,zVC,zUT,zUc,zUZ,zUU,zUP,zUM,zUK,zUt,Nat.reduceAdd,Nat.reduceEqDiff,Nat.reduceLeDiff,zUN,zUY,zVE,zUB,zUq,cm,cU,kh,zD8,ku,jr,zM7,zDD,zHA,zKk,nd0];refine⟨⟨dM,dM⟩,?_⟩;simp only[↓zk,ct,cl,zB5,zUM,zUK,Nat.reduceEqDiff,zCv,d];refine zK0 (fp:=[bm]) (c:=c) (by rw[zK,if_pos rfl]) ?_;show zE (_::_) bm=_;rw[zK,if_pos rfl]
abbrev ndZ:Nd:=.mk 0 0 []
def zLf{g:Gh}{w:de}{x:Nd}{a b c:dh}(h:RC g w (za x) [a,b,c]):a=.int .i64 (Nd.kind x)/\b=.int .i64 (Nd.tok x)/\∃aa nn cc,c=.slice aa nn cc:=by
 obtain⟨k,t,ks⟩:=x;rw[qv]at h;simp only[RC,RCs,vi,sl]at h;obtain⟨f,i,e,⟨rfl,_⟩,j,l,rfl,⟨rfl,_⟩,m,n,rfl,d,rfl⟩:=h;simp only[zUO,zUQ,zUR,zVq]at e;obtain⟨rfl,rfl,rfl⟩:=e;refine⟨rfl,rfl,?_⟩;rcases d with⟨_,d,_⟩|⟨_,_,_,_,d,_⟩
 .injection d with d;exact⟨_,_,_,d⟩
 .injection d with d;exact⟨_,_,_,d⟩
def zF5{g:Gh}{w:de}:∀(ms:db Nd)(ds:db dh),RCs g w (ms.map za) ds->ds.length=ms.length*3/\∀j,j<ms.length->RC g w (za (ms.getD j ndZ)) [ds.getD (j*3) undef,ds.getD (j*3+1) undef,ds.getD (j*3+2) undef]
 |[],ds,h=>by
  simp only[zUL,RCs]at h;subst h;exact⟨rfl,λj d=>by simp at d⟩
 |x::ms,ds,h=>by
  simp only[zUC,RCs]at h;obtain⟨e,k,rfl,f,l⟩:=h;have i:=qh _ _ _ _ f;rw[jO]at i;obtain⟨a,b,c,rfl⟩:∃a b c,e=[a,b,c]:=by
   match e,i with
   |[a,b,c],_=>exact⟨a,b,c,rfl⟩
  obtain⟨m,n⟩:=zF5 ms k l;refine⟨by simp[m];omega,λj d=>?_⟩;cases j with
  |zero=>simpa using f
  |succ j=>
   have:=n j (by simpa using d);have o:(j+1)*3=j*3+1+1+1:=dM
   rw[show(j+1)*3+1=(j*3+1)+1+1+1 by omega,show(j+1)*3+2=(j*3+2)+1+1+1 by omega,o];simpa using this
def zSH(ms:db Nd)(n:Nat)(h:n=ms.length):ms.reverse=(jk n n).map λx=>ms.getD x.1 ndZ:=by
 subst h;rw[jk,zU5 dQ,List.map_reverse];congr 1;apply List.ext_getElem
 .simp
 .intro i a b;simp
abbrev mkF(l:db dw):MT->Nd->MT:=λc x=>yd c (l.getD (lbAt x).toNat tokD).text (lbAt x+1)
def zQo:∀args w,(callFunc 137 args).run Tryz.prog w=.ok (.enter 137 args) w:=enters_of Tryz.func137 dO rfl
def tmps2(t:dv dh)(u v:dh)(k:Nat)(h:t.size=75)(a:k≠37)(b:k≠38):((t.setIfInBounds 37 u).setIfInBounds 38 v).getD k undef=t.getD k undef:=by
 simp only[zVX,zVy,a,b,zU9 a,zU9 b,zUK]
def tmps38(t:dv dh)(u v:dh)(h:t.size=75):((t.setIfInBounds 37 u).setIfInBounds 38 v).getD 38 undef=v:=by
 simp[zVX,zVy,h]
end
section
open Go.Al Go.Den Go.RowKit Go.Shelf
attribute [local go_sem] Oper.semAt_some
def zQq{F:dH}{n:Nat}{P:di}{c:dE}{Q:dA->Act->de->Prop}{W:de}(t:dv dh)(u v:dh)(h:c.wpIn F n P Q { tmps:=(t.setIfInBounds 37 u).setIfInBounds 38 v,defers:=[] } W) :
 c.wpIn F n P Q { tmps:=((#[37,38]:dv Tmp).zip #[u,v]).foldl (λt (p,v)=>t.setIfInBounds p v) t,defers:=[] } W:=by
 rw[show((#[37,38]:dv Tmp).zip #[u,v]).foldl (λt (p,v)=>t.setIfInBounds p v) t=(t.setIfInBounds 37 u).setIfInBounds 38 v from dQ];exact h
set_option maxRecDepth 100000 in
def loop98{B:Nat}{q:WS}{ms:db Nd}{s:S}{v3:V}{b0 bo cap b bf bm k2 b6 bs:Nat}{o6:da Nat}{fp ff:db Nat}{g0:Gh}{w0:de}{Q:dA->Act->de->Prop}{N:dE}
 (hw:WkAt s q b0 bo cap b bf bm o6 fp ff [bm]) (aM:q.2.2.2.2=[]) (x2:Al.look s.box k2=some ([ptV b0],1)) (xb:Al.look s.box bs=some ([.lst (zx (ms.map za)) (ms.map za)],1))
 (aN:∀x∈ms,0<=lbAt x/\lbAt x<q.1.length) (aO:q.1.length<1000000) (bc:ms.length<1000000)
 (HR:∀g w D W a,dB B g0 w0 g w->Al.Inv B g s w->GlobOk B g.wm w->w.heap.size<=D->IsM bm (ql q.1 ms) w W->W.heap[D]?=some (.deferred (some [])) ->
  Rel ⟨B,⟨75,[]⟩,none,[{ target:=.collected D,args:=#[] }]⟩ g [(2,ptV k2),(3,v3),(5,ptV b6)] ⟨s.box,s.tg,s.nx,(bm,.mp (trMC (ql q.1 ms)),[bm])::s.ob⟩ a W->N.wpIn Fence.wide 6 Tryz.prog Q a W) :
 awpG Tryz.prog ⟨B,⟨75,[]⟩,none,[]⟩ 6 (spRF (jV Tryz.f98)).1 (Exit.then (N.wpIn Fence.wide 6 Tryz.prog Q) Q) g0 w0 [(2,ptV k2),(3,v3),(5,ptV b6),(36,.clo (.func 137) [ptV bs])] s:=by
 intro g a w ac d;have hF:∀f,Fence.wide.fn f:=λ_=>trivial;obtain⟨bd,O,aP⟩:=zQB (d.env 36);simp only[RCs,RC]at O;obtain⟨_,_,rfl,⟨rfl,_⟩,rfl⟩:=O;obtain⟨t1,t2,t3,t4,ar,be,bg,t5,t6,t7,t8⟩:=d.inv.box _ _ _ xb;simp only[RCs]at t7;obtain⟨ub,_,rfl,ad,rfl⟩:=t7;have au:=qh _ _ _ _ ad;obtain⟨vb,rfl⟩:∃vb,ub=[vb]:=by
  match ub,au with
  |[vb],_=>exact⟨vb,rfl⟩
 have ae:ar=#[vb]:=by
  apply zVk;rw[zU5 e9]at t8;simpa using t8
 subst ae;have af:bs<w.heap.size:=(zUH.1 t5).1;obtain⟨av,z,br,orr,ds,aQ,aw,ax,ag,ah⟩:∃(av:da Addr)(z br orr:Nat)(ds:db dh),vb=.slice av ms.length z/\(ms≠[]->av=some ⟨br,orr,none⟩)/\RCs g.bare w (ms.map za) ds /\
  (∀k u,ds[k]?=some u->w.cell? ⟨br,orr+k,none⟩=some u)/\(ms≠[]->br<w.heap.size/\g.wm br≠0):=by
  simp only[RC]at ad;rcases ad with⟨H,M,_⟩|⟨br,orr,z,ds,H,M,_,P,_,e4⟩
  .obtain rfl:ms=[]:=by simpa using H
   injection M with M
   exact⟨none,0,0,0,[],M,λh=>absurd rfl h,by simp[RCs],λk u h=>by simp at h,λh=>absurd rfl h⟩
  .injection H with H
   rw[zUZ]at H;refine⟨_,z,br,orr,ds,H,λ_=>rfl,P,λk u h=>(e4 k u h).1,λr=>?_⟩;obtain⟨q1,I⟩:=zF5 ms ds P;have ba:0<ms.length:=List.length_pos_iff.2 r;have h0:ds[0]?=some ds[0]:=zUj dM;obtain⟨R,E⟩:=e4 0 _ h0;exact⟨(zUH.1 (zLt R).choose_spec.choose_spec.choose_spec.1).1,dM⟩
 subst aQ;obtain⟨bh,ay⟩:=zF5 ms ds ax;obtain⟨xs,az⟩:∃xs:db NdC,xs=(List.range ms.length).map λj=>⟨ds.getD (j*3) undef,ds.getD (j*3+1) undef,ds.getD (j*3+2) undef⟩:=⟨_,rfl⟩;have ai:xs.length=ms.length:=by rw[az];simp
 have aj:∀j (T:j<xs.length),(xs[j]'T).k=ds.getD (j*3) undef/\(xs[j]'T).t=ds.getD (j*3+1) undef/\(xs[j]'T).l=ds.getD (j*3+2) undef:=λj T=>by subst az;simp
 have J:xs≠[]->ms≠[]:=λh e=>h (zWP.1 (by rw[ai,e];rfl));have U:=d.inv.ex.ob _ _ _ hw.m;obtain⟨m1,m2,m3,m4,m5,m6⟩:=U.2.2 bm dQ;replace m1:B<=bm:=m1;have hB:B<=w.heap.size:=d.inv.base;have aA:bs≠bm:=λe=>by rw[e]at xb;rw[m4]at xb;cases xb
 have aB:ms≠[]->br≠bm:=λh e=>(ah h).2 (by rw[e];exact m3);have aR:IsM bm [] w w:=by
  refine⟨Keep1.refl _ _,?_⟩;obtain⟨_,arr,ck,R,E⟩:=U.1;rw[aM]at E;exact⟨arr,ck,R,zCI E⟩
 have aC:∀A C:de,w.heap.size<=A.heap.size->(∀b,b<A.heap.size->b≠bm->C.heap[b]?=A.heap[b]?)->KpN bs av xs.length A C:=λA C R E=>by
  refine⟨λv hv=>(World.cell?_of_block (E bs dM aA)).trans hv,λb' o' e j v T hv=>?_⟩;have r:ms≠[]:=J (by rintro rfl;simp at T);rw[aw r]at e;injection e with e
  injection e with e _ _
  subst e;exact(World.cell?_of_block (E br (by have:=(ah r).1;omega) (aB r))).trans hv
 have aD:=zKD Fence.wide 5 (hF _) rfl dM bs z br orr av xs (λh=>aw (J h)) dM w af (λh=>(ah (J h)).1) (by rw[ai];simp[World.cell?,t5]) (λj T=>by
  obtain⟨H,M,P⟩:=aj j T;have bi:j<ms.length:=dM
  have X:∀k,k<ms.length*3->w.cell? ⟨br,orr+k,none⟩=some (ds.getD k undef):=λk hk=>ag k _ (by rw[zUV,zUj dM];rfl);rw[H,M,P];exact⟨X _ dM,X _ dM,X _ dM⟩)
 simp only[jV,Tryz.f98,zVl,spRF];refine wpIn_block ?_;refine wpIn_rangeFunc_ownH rfl dM (gf:=137) (lb:=#[.pointer (some ⟨bs,0,none⟩)]) aP (hF 137) zQo aD (λh k=>h.trans k) (λW l o o' _ hl R _=>KpN.put W l o o' hl R) (Below.refl _ _) (λ_=>rfl)
  (λ(i:db (Fin xs.length)) W=>IsM bm ((i.map λx:Fin xs.length=>ms.getD x.1 ndZ).foldl (mkF q.1) []) w W) (λ_ _ _=>False)
  (λi A C aE h X d=>h.grown m2 X d) (λc i A C aE h X d=>h.elim) aR
  (λx a' W=>∃k,w.heap.size<=k/\(∃el,W.heap[k]?=some (.cells #[(xs[x.1]'x.2).k,(xs[x.1]'x.2).t,(xs[x.1]'x.2).l] el (0,0)))/\a'.tmps.getD 2 undef=.pointer (some ⟨k2,0,none⟩)/\a'.tmps.getD 7 undef=.pointer (some ⟨k,0,none⟩)/\a'.tmps.size=75/\a'.defers=[])
  (λx a' _ A C aE h X d=>?own) ?assign ?body ?done ?stop
 case own=>
  obtain⟨k,R,⟨el,E⟩,h3⟩:=h;refine⟨k,R,⟨el,(X.block k (zUH.1 E).1 (λe=>?_)).trans E⟩,h3⟩;obtain⟨_,o,ho,hc⟩:=d k e.symm;rw[E]at ho;injection ho with ho
  subst ho;cases hc
 case stop=>
  intro D c i W _ _ h;exact h.elim
 case assign=>
  intro l i x W K p hK;have hx:x.1<ms.length:=by have:=x.2;omega
  obtain⟨H,M,P⟩:=aj x.1 x.2;have F:=ay x.1 hx;rw[<-H,<-M,<-P]at F;obtain⟨z1,z2,aa,nn,cc,z3⟩:=zLf F;refine zQq (a.tmps) (.int .i64 (x.1:Int)) (xs[x.1]'x.2).enc ?_;refine zE8 (wpIn_mono ((zRk (k2:=k2) (bm:=bm) (nk:=Nd.kind (ms.getD x.1 ndZ)) (nt:=Nd.tok (ms.getD x.1 ndZ)) (aa:=aa) (nn:=nn) (cc:=cc):awp Tryz.prog ⟨B,⟨75,[]⟩,some l,[]⟩ _ _ _ ⟨[],[],s.nx,[(bm,.mp (trMC ((i.map λx:Fin xs.length=>ms.getD x.1 ndZ).foldl (mkF q.1) [])),[bm])]⟩) (frzG g W bm) _ W ⟨zNU d.inv m1 m2 p,λk=>?_,⟨?_,λ_ hp=>(by cases hp)⟩,rfl,zKf d.inv d.gl m3 m1 p.keep⟩) ?_)
  .show RV _ W _ (((a.tmps.setIfInBounds 37 (.int .i64 (x.1:Int))).setIfInBounds 38 (xs[x.1]'x.2).enc).getD k undef);by_cases E:k=2
   .subst E;rw[tmps2 _ _ _ _ d.size.1 dP dP,yG (d.env 2)];exact yY rfl
   .by_cases h8:k=38
    .subst h8;rw[tmps38 _ _ _ d.size.1,NdC.enc,z1,z2,z3];exact zDw (us:=[.int .i64 (Nd.kind (ms.getD x.1 ndZ)),.int .i64 (Nd.tok (ms.getD x.1 ndZ)),.slice aa nn cc]) (by simp only[RCs,RC,vi];exact⟨[_],_,rfl,⟨rfl,rfl⟩,[_],_,rfl,⟨rfl,rfl⟩,[_],_,rfl,⟨rfl,rfl⟩,rfl⟩)
    .have:Env.get [(2,ptV k2),(38,.agg [vi (Nd.kind (ms.getD x.1 ndZ)),vi (Nd.tok (ms.getD x.1 ndZ)),.at (.slice aa nn cc)])] k=V.any:=by
      simp only[Env.get,zU9 E,zU9 h8,zUK]
     rw[this];trivial
  .show((a.tmps.setIfInBounds 37 (.int .i64 (x.1:Int))).setIfInBounds 38 (xs[x.1]'x.2).enc).size=75;simp[d.size.1]
  .rintro ex a2 w2 ⟨g',e',s',q1,I,rfl,k,hk,rfl,hl,ak⟩;have Y:zE s'.ob bm=some (.mp (trMC ((i.map λx:Fin xs.length=>ms.getD x.1 ndZ).foldl (mkF q.1) [])),[bm]):=by rw[ak,zK,if_pos rfl]
   obtain⟨i1,i2,i3⟩:=zLk p m2 q1 I.inv Y;have bj:W.heap.size<=k:=by
    rcases zUx k W.heap.size with h|h
    .exfalso;have r:k≠bm:=λe=>by
      have:=((I.inv.ex.ob _ _ _ Y).2.2 bm dQ).2.2.2.1;rw[<-e,hl]at this;cases this
     have:=(I.inv.ex.frz k (by rw[q1.fr];simp[frzG,h,r])).2.1;rw[hl]at this;cases this
    .exact h
   have al:=p.keep.below.size;refine hK a2 w2 i3 (aC W w2 al i2) i1 ⟨k,dM,?_,yG (I.env 2),yG (I.env 7),I.size.1,I.df⟩;obtain⟨p1,p2,p3,p4,arr,el,us,p5,p6,p7,p8⟩:=I.inv.box _ _ _ hl;simp only[RCs,RC,vi]at p7;obtain⟨u1,_,rfl,⟨rfl,_⟩,u2,_,rfl,⟨rfl,_⟩,u3,_,rfl,⟨rfl,_⟩,rfl⟩:=p7;refine⟨el,?_⟩;have aF:arr=#[.int .i64 (Nd.kind (ms.getD x.1 ndZ)),.int .i64 (Nd.tok (ms.getD x.1 ndZ)),.slice aa nn cc]:=by
    apply zVk;rw[zU5 (by simpa using zV0 p6)]at p8;simpa using p8
   rw[p5,aF,z1,z2,z3]
 case done=>
  rintro D ys W hD rfl p hK;have hm:ql q.1 ms=((jk xs.length xs.length).map λx:Fin xs.length=>ms.getD x.1 ndZ).foldl (mkF q.1) []:=by
   unfold ql;rw[zSH ms xs.length ai]
  rw[<-hm]at p;obtain⟨j1,j2⟩:=Inv.butMp d.inv hw.m p;refine HR g w D W _ ac d.inv d.gl hD p hK ⟨j1,λk=>?_,d.size,by show _::a.defers=_;rw[d.df],d.gl.below ⟨p.keep.below.os,p.keep.below.tape,p.keep.below.output,p.keep.below.size,λk hk=>p.keep.blk k (by replace hk:k<B:=hk;omega) (by replace hk:k<B:=hk;omega)⟩ (λ_=>zUB _)⟩;have:=(d.env k).later j2;show RV g W (Env.get [(2,ptV k2),(3,v3),(5,ptV b6)] k) (a.tmps.getD k undef);by_cases Z:k=36
  .subst Z;trivial
  .have e:Env.get [(2,ptV k2),(3,v3),(5,ptV b6)] k=Env.get [(2,ptV k2),(3,v3),(5,ptV b6),(36,.clo (.func 137) [ptV bs])] k:=by
    simp only[Env.get,zU9 Z,zUK]
   rw[e];exact this
 case body=>
  rintro l i x a' W _ _ p ⟨k,hk,⟨el,aS⟩,u2,u7,aT,aU⟩ bb;have hx:x.1<ms.length:=by have:=x.2;omega
  obtain⟨H,M,P⟩:=aj x.1 x.2;have F:=ay x.1 hx;rw[<-H,<-M,<-P]at F;obtain⟨z1,z2,aa,nn,cc,z3⟩:=zLf F;have aG:ms.getD x.1 ndZ∈ms:=by
   rw[zUV,zUj hx];exact zUv hx
  have G:=aN _ aG;have L:((i++[x]).map λx:Fin xs.length=>ms.getD x.1 ndZ).foldl (mkF q.1) []=mkF q.1 ((i.map λx:Fin xs.length=>ms.getD x.1 ndZ).foldl (mkF q.1) []) (ms.getD x.1 ndZ):=by
   rw[zVa,List.foldl_append];rfl
  obtain⟨c,hc⟩:∃c,(i.map λx:Fin xs.length=>ms.getD x.1 ndZ).foldl (mkF q.1) []=c:=⟨_,rfl⟩;obtain⟨m,hm⟩:∃m,ms.getD x.1 ndZ=m:=⟨_,rfl⟩;replace p:IsM bm ((i.map λx:Fin xs.length=>ms.getD x.1 ndZ).foldl (mkF q.1) []) w W:=p;rw[hc]at p L;rw[hm]at F G L;obtain⟨nk,nt,kids⟩:=m;obtain⟨kk,kt,kl,kids,rfl⟩:∃kk kt kl am,kids=Nd.mk kk kt kl::am:=by
   cases kids with
   |nil=>have:=G.1;simp[lbAt,Nd.kids]at this
   |cons y ks=>obtain⟨kk,kt,kl⟩:=y;exact⟨_,_,_,_,rfl⟩
  replace G:0<=kt/\kt<q.1.length:=G;have hL:=zJS d.inv m3 p.keep;have al:=p.keep.below.size;have ab:∀{b':Nat}{cs:db V}{n':Nat},Al.look s.box b'=some (cs,n')->∃arr el us,W.heap[b']?=some (.cells arr el (0,0))/\arr.size=n'/\RCs (frzG g W bm) W cs us/\arr.toList.take cs.length=us/\b'≠bm:=λ{b' cs n'} h=>by
   obtain⟨p1,p2,p3,p4,arr,el,us,p5,p6,p7,p8⟩:=d.inv.box _ _ _ h;have r:b'≠bm:=λe=>by rw[e,m4]at h;cases h
   exact⟨arr,el,us,(p.keep.blk b' (zUH.1 p5).1 r).trans p5,p6,yE hL _ _ p7,p8,r⟩
  obtain⟨aH,bk,bl,p5,p6,p7,p8,aV⟩:=ab x2;simp only[RCs,RC]at p7;obtain⟨_,_,rfl,⟨rfl,_⟩,rfl⟩:=p7;obtain⟨aI,bn,an,o5,aW,o7,o8,aX⟩:=ab hw.w;have ao:aH.toList=[.pointer (some ⟨b0,0,none⟩)]:=by
   rw[zU5 (by simpa using zV0 p6)]at p8;simpa using p8
  have ap:aI.toList=an:=by
   rw[zU5 (by simpa using zV0 aW)]at o8;exact o8
  have aJ:RC (frzG g W bm).bare W (wkA q.1 bo q.2.1.length cap b bf bm o6) an:=by
   simp only[RCs]at o7;obtain⟨a1,a2,ra,k1,a3,a4,rb,aK,a5,a6,rc,k3,a7,a8,rd,k4,a9,aY,re,k5,aZ,a0,rf,k6,rg⟩:=o7;have aL:=zAz k1 rfl;rw[zBO]at aL;simp only[RC,RCs]at aK k3 k4 k5 k6 ⊢;exact⟨a1,a2,ra,by simpa only[RC]using aL,a3,a4,rb,aK,a5,a6,rc,k3,a7,a8,rd,k4,a9,aY,re,k5,aZ,a0,rf,k6,rg⟩
  have aq:RC (frzG g W bm).bare W (.agg [vi nk,vi nt,sl ((Nd.mk kk kt kl::kids).map za)]) [(xs[x.1]'x.2).k,(xs[x.1]'x.2).t,(xs[x.1]'x.2).l]:=by
   rw[<-qv];exact zCC hL.bare _ _ F
  refine zE8 (wpIn_mono ((zSr (l:=q.1) (bo:=bo) (n:=q.2.1.length) (cap:=cap) (b:=b) (bf:=bf) (o6:=o6) (nk:=nk) (nt:=nt) (kk:=kk) (kl:=kl) (kids:=kids) (c:=c) G.1 G.2 aO:awp Tryz.prog ⟨B,⟨75,[]⟩,some l,[]⟩ _ _ _ ⟨[],[],s.nx,[(bm,.mp (trMC c),[bm])]⟩) (frzG g W bm) a' W ⟨zNU d.inv m1 m2 p,λk1=>?_,⟨aT,λ_ hp=>(by cases hp)⟩,aU,zKf d.inv d.gl m3 m1 p.keep⟩) ?_)
  .by_cases E:k1=2
   .subst E;rw[u2];refine zA1 (ds:=[.pointer (some ⟨b0,0,none⟩)]) ?_ (by have:=zIh (g:=g) aV p5;rw[ao]at this;exact this);simp only[RC];exact⟨b0,0,an,rfl,(by simp only[RC]at aJ;exact aJ),by have:=zIh (g:=g) aX o5;rw[ap]at this;exact this⟩
   .by_cases h7:k1=7
    .subst h7;rw[u7];exact zA1 aq (zIh (g:=g) dM aS)
    .have:Env.get [(2,.rptr (.rptr (wkA q.1 bo q.2.1.length cap b bf bm o6))),(7,.rptr (.agg [vi nk,vi nt,sl ((Nd.mk kk kt kl::kids).map za)]))] k1=V.any:=by
      simp only[Env.get,zU9 E,zU9 h7,zUK]
     rw[this];trivial
  .rintro ex a2 w2 ⟨g',e',s',q1,I,rfl,ak⟩;obtain⟨i1,i2,i3⟩:=zLk p m2 q1 I.inv ak;refine⟨i3,aC W w2 al i2,?_⟩;show IsM bm (((i++[x]).map λx:Fin xs.length=>ms.getD x.1 ndZ).foldl (mkF q.1) []) w w2;rw[L];exact i1
end
section
open Go.Al Go.Den Go.RowKit Go.Shelf
attribute [local congr] xP xi x7 qP yX xL yN yO xQ xn xE xx xN xG yI yT xD x9 xy yh xj xO yi yo xH xF yn xI xM yl qR qB qA xh xg xm xK ym yk
set_option maxRecDepth 100000 in
def rest98{p:WC}(hp:WOk p){B:Nat}{q:WS}{pp:LT1}{kd tk:Int}{k0 k1 k2:Nd}{ks:db Nd}{y3:zA ([]:LK)×WS}{y4:(LT1×dc)×WS}
 (e3:p.c48 (k2,()) (q.1,q.2.1,pp::q.2.2.1,q.2.2.2.1,q.2.2.2.2)=some y3) (e4:c104 () y3.2=some y4) {s:S} {C bo cap b bf bm d D H:Nat} {o6:da Nat} {fp ff fm f6:db Nat} (t:WkAt s q C bo cap b bf bm o6 fp ff fm)
 (x6:zE s.ob d=some (.l1 (trL pp),f6)) (al:d≠b) (aa:d≠bf) (ab:d≠bm) (I:Al.look s.box D=some ([ptV C],1)) (J:Al.look s.box H=some ([vi kd,vi tk,sl ((k0::k1::k2::ks).map za)],3))
 (ac:D≠C) (am:D≠bo) (an:H≠C) (aA:H≠bo) {df:db Deferred} {Q:dA->Act->de->Prop} {g0:Gh} {w0:de}
 (HQ:∀g e' s' a w,dB B g0 w0 g w->Rel ⟨B,⟨75,[]⟩,none,df⟩ g e' s' a w->(∃r,VKs CC s' [wkK] (wkV y4.2) [ptV C] r/\r.Nodup)->Q .normal a w) :
 awpG Tryz.prog ⟨B,⟨75,[]⟩,none,df⟩ 6 (spRF (jV Tryz.f98)).2 Q g0 w0 [(2,ptV D),(3,ptV H),(5,ptV d)] s:=by
 simp only[jV,Tryz.f98,zVl,spRF,sl,zUC]at J ⊢;refine zJr λg w hi=>?_;obtain⟨y,z,nx,rfl,ad,ae⟩:=hi.open1 x6;refine⟨_,ae,?_⟩;have v:∀j c,Al.look s.box j=some c->j∉[d,y,z]:=λj c h hm=>by
  have:=((hi.ex.ob _ _ _ x6).2.2 j hm).2.2.2.1;rw[h]at this;cases this
 have F:∀j o f,zE s.ob j=some (o,f)->j≠d->j∉[d,y,z]:=λj o f h P hm=>P (hi.ex.obd j _ _ d _ _ j h x6 (hi.ex.ob j _ _ h).2.1 hm);have ao:∀j o f,zE s.ob j=some (o,f)->j≠d->∀i∈f,i∉[d,y,z]:=λj o f h P i ap hm=>P (hi.ex.obd j _ _ d _ _ i h x6 ap hm);have L:=v _ _ t.w;have ko:=v _ _ t.o;have M:=v _ _ I;have R:=v _ _ J;have kb:=F _ _ _ t.l (zU9 al);have T:=F _ _ _ t.f (zU9 aa);have U:=F _ _ _ t.m (zU9 ab);simp only[zUm,zUG,zU4,zVL,not_or,not_false_eq_true,zVx,zUp]at ad L ko M R kb T U;obtain⟨⟨d1,d2⟩,d3⟩:=ad;have G:(Al.openLv s d y z (trL pp) [] nx []).ob=(y,.mp (trMC pp.1),[y])::(z,.mp (trMC pp.2),[z])::j8 s.ob (λk=>!(k==d)):=by
  cases nx<;>rfl
 have A:∀j c,j≠d->Al.look s.box j=some c->Al.look (Al.openLv s d y z (trL pp) [] nx []).box j=some c:=λj c hj W=>by
  show Al.look (lay s.box d _) j=_;rw[zO,if_neg (λe=>hj e.symm)];exact W
 have u:∀j c,j≠d->j≠y->j≠z->zE s.ob j=some c->zE (Al.openLv s d y z (trL pp) [] nx []).ob j=some c:=λj c Y h2 h3 W=>by
  rw[G,zK,if_neg (λe=>h2 e.symm),zK,if_neg (λe=>h3 e.symm),qc,if_pos (by simpa using Y)];exact W
 refine zHX (λs=>WkAt s q C bo cap b bf bm o6 fp ff fm/\Al.look s.box D=some ([ptV C],1)/\Al.look s.box H=some ([vi kd,vi tk,.lst (zx (za k0::za k1::za k2::ks.map za)) (za k0::za k1::za k2::ks.map za)],3)/\Al.look s.box d=some (lcs y z nx,3)/\zE s.ob y=some (.mp (trMC pp.1),[y])/\zE s.ob z=some (.mp (trMC pp.2),[z]))
  ⟨⟨A _ _ L.1 t.w,t.cp,A _ _ ko.1 t.o,u _ _ kb.1 kb.2.1 kb.2.2 t.l,u _ _ T.1 T.2.1 T.2.2 t.f,u _ _ U.1 U.2.1 U.2.2 t.m,t.n⟩,A _ _ M.1 I,A _ _ R.1 J,by show Al.look (lay s.box d _) d=_;rw[zO,if_pos rfl],by rw[G,zK,if_pos rfl],by rw[G,zK,if_neg d3,zK,if_pos rfl]⟩ ?_
 clear t I J ae hi x6 v F ao A u G g w;rintro Z ⟨t,I,J,y6,yp,yt⟩;have af:¬d=C:=λe=>L.1 e.symm;have aq:¬C=d:=L.1;have ar:¬d=D:=λe=>M.1 e.symm;have ag:Al.look Z.box d=some ([.at (.map (some y)),.at (.map (some z)),.at (pO nx)],3):=y6;refine kW ?_
 (repeat (first|refine zh ?_|(refine zd rfl ?_;try simp only[cx,reduceIte])|refine zT ?_|((first|refine zf polN ks98 _ rfl rfl ?_|refine zZ polN mixed ks98 _ rfl rfl dO dO ?_);simp only[↓cG,↓jI,cR,c6,xo,spl,zUr,zUO,zUQ,zUR,zU2,z7,yA,zM,V.isOne,V.flat,zUd,zUs,zUD,zUF,zUf,zUX,zUS,zUl,zVC,zUT,zUc,zUU,zUP,zUM,zUK,zUt,Nat.reduceAdd,Nat.reduceEqDiff,Nat.reduceLeDiff,zUN,zUY,zUB,zUq,cq,cY,c8,zDd,ks98,I,t.w,ag])))
 refine kW ?_
 (repeat (first|refine zh ?_|(refine zd rfl ?_;try simp only[cx,reduceIte])|refine zT ?_|((first|refine zf polN ks98 _ rfl rfl ?_|refine zZ polN mixed ks98 _ rfl rfl dO dO ?_);simp only[↓cG,↓jI,cR,c6,xo,spl,zUr,zUO,zUQ,zU2,z7,yA,zM,V.isOne,V.flat,zUd,zUs,zUD,zUF,zUf,zUX,zUS,zUl,zVC,zUT,zUU,zUP,zUM,zUK,zUt,Nat.reduceAdd,Nat.reduceEqDiff,Nat.reduceLeDiff,zUN,zUY,zUB,zUq,zO,cq,kp,c8,ks98,I,t.w,af,ar])))
 have ah:C≠bo:=λe=>by have:=t.n;subst e;simp at this
 have ai:Al.look (lay (lay Z.box d ([.at (.map (some y)),.at (.map (some z)),ptV b],3)) C ([tkV q.1,.at (.slice (some ⟨bo,0,none⟩) q.2.1.length cap),ptV d,.at (.map (some bf)),.at (.map (some bm)),.at (pO o6)],6)) d=some (lcs y z (some b),3):=by
  rw[zO,if_neg aq,zO,if_pos rfl];rfl
 refine zJr λg w hi=>⟨_,hi.closeLv (b:=d) (x:=trL pp) (r:=q.2.2.1.map trL) (nx:=some b) (fp:=fp) ai yp yt d3 (.inr ⟨b,rfl,t.l⟩),?_⟩;have A:∀j c,j≠d->j≠C->Al.look Z.box j=some c->Al.look (wipe (lay (lay Z.box d ([.at (.map (some y)),.at (.map (some z)),ptV b],3)) C ([tkV q.1,.at (.slice (some ⟨bo,0,none⟩) q.2.1.length cap),ptV d,.at (.map (some bf)),.at (.map (some bm)),.at (pO o6)],6)) d) j=some c:=λj c Y h2 W=>by
  rw[yR,if_neg (λe=>Y e.symm),zO,if_neg (λe=>h2 e.symm),zO,if_neg (λe=>Y e.symm)];exact W
 have u:∀j c,j≠d->j≠y->j≠z->j≠b->zE Z.ob j=some c->zE ((d,OV.lv (trL pp::q.2.2.1.map trL),d::y::z::fp)::j8 Z.ob (λk=>!((y::z::(some b).toList).contains k))) j=some c:=λj c Y h2 h3 h4 W=>by
  rw[zK,if_neg (λe=>Y e.symm),qc,if_pos ?_]
  .exact W
  .have:j∉y::z::(some b).toList:=by simp[h2,h3,h4]
   simpa using this
 have hn:=t.n;simp only[zUm,zUG,zU4,zVL,not_or,not_false_eq_true,zVx,zUp]at hn;have au:bf≠b:=λe=>hn.2.2.1.1 e8;have av:bm≠b:=λe=>hn.2.2.1.2 e8;have aw:bf≠bm:=λe=>hn.2.2.2 e8;refine zHX (λs=>WkAt s (q.1,q.2.1,pp::q.2.2.1,q.2.2.2.1,q.2.2.2.2) C bo cap d bf bm o6 (d::y::z::fp) ff fm/\Al.look s.box D=some ([ptV C],1)/\Al.look s.box H=some ([vi kd,vi tk,.lst (zx (za k0::za k1::za k2::ks.map za)) (za k0::za k1::za k2::ks.map za)],3))
  ⟨⟨?_,t.cp,A _ _ ko.1 (zU9 ah) t.o,?_,u _ _ T.1 T.2.1 T.2.2 au t.f,u _ _ U.1 U.2.1 U.2.2 av t.m,?_⟩,A _ _ M.1 ac I,A _ _ R.1 an J⟩ ?_
 .show Al.look (wipe _ d) C=_;rw[yR,if_neg af,zO,if_pos rfl]
 .show zE (_::_) d=_;rw[zK,if_pos rfl];rfl
 .simp only[zUm,zUG,zU4,zVL,not_or,not_false_eq_true,zVx,zUp];exact⟨⟨hn.1.1,dQ,dQ,dQ⟩,⟨dQ,dQ,dQ⟩,⟨λe=>by injection e with e;exact aa e,λe=>by injection e with e;exact ab e⟩,λe=>by injection e with e;exact aw e⟩
 clear A u ai y6 ag yp yt hn t I J;rintro s3 ⟨t,I,J⟩;refine kW ?_
 (repeat (first|refine zh ?_|(refine zd rfl ?_;try simp only[cx,reduceIte])|refine zT ?_|((first|refine zf polN ks98 _ rfl rfl ?_|refine zZ polN mixed ks98 _ rfl rfl dO dO ?_);simp only[↓cz,↓xe,cO,yy,cF,jl,qY,jM,zUr,zUC,zUL,zU2,fits,z7,yA,V.isAgg,zUD,zUF,zUf,zUX,zUS,zVC,zUT,zUc,zUZ,zUU,zUP,zUM,zUK,zUt,Nat.reduceAdd,Nat.reduceEqDiff,zUN,zUY,zUB,zUq,cU,kh,zD8,ku,zBk,jr,zDD,cq,ks98,I,J])))
 refine⟨⟨dM,dM⟩,jO _,⟨jO _,zCW _⟩,?_⟩;refine jZ [ptV C,za k2] rfl rfl rfl dO (by simp only[zUC,zUL,zUd,zUs,cQ,zUM,zUK,Nat.reduceEqDiff,zUP,nd2,zDt]) (by simp only[zUC,zUL,ct,zUM,zUK,Nat.reduceEqDiff,nd2];exact .keep (.keep .nil)) ((zIx hp.h48 e3 t (zL6 _ k2))) (λr s E=>?_) (λc s E=>em);obtain⟨ws,r1,r2,aj,N,ak,O,X⟩:=E;have ax:=(X.box D _ (by simp[ac,am]) I).1;obtain⟨aB,az,b',aC,aD,aE,aF,aG,aH,ay,rfl⟩:=zGj N (zUe.1 O).1;clear aj N ak O X t I J;simp only[↓zk,cr,zUM,zUK,Nat.reduceEqDiff];refine zRp (K:=λ_ s'=>∃r,VKs CC s' [wkK] (wkV y4.2) [ptV C] r/\r.Nodup) ?_ HQ
 (repeat (first|refine zh ?_|(refine zd rfl ?_;try simp only[cx,reduceIte])|refine zT ?_|((first|refine zf polN ks98 _ rfl rfl ?_|refine zZ polN mixed ks98 _ rfl rfl dO dO ?_);simp only[↓yL,zB,yy,ch,zQ,zW,ci,zUr,zUC,zUL,zU2,z7,yA,zUD,zUF,zUf,zUS,zVC,zUT,zUU,zUP,zUM,zUK,zUt,zUN,zUY,zUB,cq,ks98,ax])))
 refine jZ [ptV C] rfl rfl rfl dO eC eA ((zIx ok104 e4 ay (va:=[]) ⟨rfl,rfl⟩)) (λr s E=>?_) (λc s E=>em);obtain⟨ws,r1,r2,aj,N,ak,O,X⟩:=E;simp only[↓zk];exact⟨r1,N,(zUe.1 O).1⟩
def zQ6{B:Nat}{g0 g g':Gh}{w0 w W f:de}{s s':S}{D bm:Nat}{c:MT}(C:dB B g0 w0 g w)(z:B<=bm/\g.wm bm=0/\g.fr bm=false)(r:Al.Inv B g s w)(m:IsM bm c w W)(E:w.heap.size<=D)
 (a:dB B ⟨g.wm,g.tb,⟨λb=>g.fr b||decide (b=D),g.fr.t⟩⟩ W g' f) (p:Al.Inv B g' s' f):dB B g0 w0 ⟨g'.wm,g'.tb,g.fr⟩ (f.putObj D (.deferred none))/\Al.Inv B ⟨g'.wm,g'.tb,g.fr⟩ s' (f.putObj D (.deferred none))/\f.heap[D]?=W.heap[D]?:=by
 have M:=r.base;have F:=m.keep.below.size;have A:=a.below.size;have d:∀j,j≠D->(f.putObj D (.deferred none)).heap[j]?=f.heap[j]?:=λj n=>World.putObj_heap_other n;have i:∀b,g.fr b=true->g'.fr b=true:=λb h=>by rw[a.fr];simp[h]
 have q:g'.fr D=true:=by rw[a.fr];simp
 have u:g'.wm D=0:=by rw[(a.fz D dQ).2];exact r.fresh D E
 obtain⟨f1,f2,G⟩:=p.ex.frz D q;refine⟨C.trans ⟨⟨λb=>a.later.wm b,λt x e=>a.later.tb t x e,λb o v=>?_⟩,⟨a.below.os.trans m.keep.below.os,a.below.tape.trans m.keep.below.tape,a.below.output.trans m.keep.below.output,by simp[World.putObj];omega,λk H=>?_⟩,λb l=>?_,λb l=>a.wmB b l,rfl⟩,?_,(a.fz D dQ).1⟩
 .have l:b<w.heap.size:=by
   rcases zUx b w.heap.size with y|y
   .exact y
   .rw[r.fresh b y]at v;omega
  refine(World.cell?_of_block (d b dM)).trans ((a.later.cell b o v).trans (World.cell?_of_block (m.keep.blk b l (λe=>by rw[e,z.2.1]at v;omega))))
 .exact(d k dM).trans ((a.below.block k H).trans (m.keep.blk k dM dM))
 .obtain⟨I,_,_⟩:=r.ex.frz b l;obtain⟨J,K⟩:=a.fz b (by simp[l]);exact⟨(d b dM).trans (J.trans (m.keep.blk b I (λe=>by rw[e,z.2.2]at l;cases l))),K⟩
 .have L:Al.Inv B ⟨g'.wm,g'.tb,g.fr⟩ s' f:=Inv.refr (f1:=g'.fr) p (λb h=>p.ex.frz b (i b h)) (λb o fp h j n=>by
   have:=((p.ex.ob b o fp h).2.2 j n).2.2.2.2.2;cases e:g.fr j with
   |false=>rfl
   |true=>rw[i j e]at this;cases this) (by rw[a.fr])
  exact(Inv.but L D f2 G (λb o fp h n=>by
   have:=((p.ex.ob b o fp h).2.2 D n).2.2.2.2.2;rw[q]at this;cases this) u (by simp[World.putObj]) (λj _ n=>d j n)).1
set_option maxRecDepth 100000 in
def ok98(p:WC)(hp:WOk p):CQ 98 (cW ([.st TI.node]:LK) ([]:LK) (c98S p.c48 p.c68 p.c103)):=by
 refine zEM λq a y v st vx va r1 r2 J R F=>?_;obtain⟨nd,ua⟩:=a;change Nd at nd;obtain⟨kd,tk,kids⟩:=nd;obtain⟨ao,ap,aq,ar,rfl,rfl,⟨rfl,rfl⟩,rfl,rfl⟩:=R;simp only[zUR]at F;unfold c98S at v;split at v
 rotate_left
 .cases v
 rename_i k0 k1 k2 ks S;replace S:kids=k0::k1::k2::ks:=S;subst S;cases e0:p.c68 (k0,()) q with
 |none=>rw[e0]at v;cases v
 |some y0=>
 rw[e0]at v;dsimp only[Option.bind]at v;cases T:p.c103 (k1,()) y0.2 with
 |none=>rw[T]at v;cases v
 |some y1=>
 rw[T]at v;dsimp only[Option.bind]at v;split at v
 rotate_left
 .cases v
 rename_i pp U;cases V:c102 ((show Int×dc from y1.1.1).1,()) y1.2 with
 |none=>rw[V]at v;cases v
 |some x=>
 rw[V]at v;dsimp only[Option.bind]at v;split at v
 rotate_left
 .cases v
 rename_i hc;obtain⟨X,Y,K⟩:=hc;cases Z:p.c48 (k2,()) (x.2.1,x.2.2.1,pp::x.2.2.2.1,x.2.2.2.2.1,ql x.2.1 (fdT k2 29))with
 |none=>rw[Z]at v;cases v
 |some y3=>
 rw[Z]at v;dsimp only[Option.bind]at v;cases e4:c104 () y3.2 with
 |none=>rw[e4]at v;cases v
 |some y4=>
 rw[e4]at v;injection v with v
 subst v;obtain⟨b0,bo,cap,b,fp,bf,ff,bm,fm,o6,rfl,_⟩:=zCK J;have G:=jU [wkK] (wkV q) J ((zD7 st (r1++([]++[]))).mono λy v=>zUu _ v);generalize subS st (r1++([]++[]))=s0 at G ⊢;obtain⟨bo,cap,b,bf,bm,o6,fp,ff,fm,A,rfl⟩:=zGj G F;intro B g w vs hi L hv;refine(callsIn_wide (n:=6)).1 ?_;have hF:∀f,Fence.wide.fn f:=λ_=>trivial;refine callsIn_of_wp_marks Tryz.func98 rfl (hF _) ?_ rfl;have u:=zEB (B:=B) (N:=75) hi L hv (by show 2<=75;decide);rw[show Tryz.f98.ntmps=75 from Tryz.ntmps98];refine pre98 (B:=B) (kd:=kd) (tk:=tk) (ks:=ks) hp e0 T U V (Nat.le_of_lt K) (g0:=g) (w0:=w) A ?_ g _ w (.refl _ _ _) u;clear A hi L hv u J G F;intro s aa ab bs bo cap b bf bm b6 o6 fp ff f6 A x6 ac ad M x2 x3 xb ae af ag ah au;have O:(fdT k2 29).length<1000000:=Nat.lt_of_le_of_lt (zWG _ _) K;refine loop98 (q:=(x.2.1,x.2.2.1,x.2.2.2.1,x.2.2.2.2.1,[])) (ms:=fdT k2 29) A rfl x2 xb Y X O ?_;intro z w1 D W a1 hs C an hD hM P u;obtain⟨m1,m2,m3,m4,m5,m6⟩:=(C.ex.ob _ _ _ A.m).2.2 bm dQ;have Q:D<W.heap.size:=(zUH.1 P).1;have H:Rel ⟨B,⟨75,[]⟩,none,[{ target:=.collected D,args:=#[] }]⟩ ⟨z.wm,z.tb,⟨λb=>z.fr b||decide (b=D),z.fr.t⟩⟩ [(2,ptV aa),(3,ptV ab),(5,ptV b6)] ⟨s.box,s.tg,s.nx,(bm,.mp (trMC (ql x.2.1 (fdT k2 29))),[bm])::s.ob⟩ a1 W:=by
  refine⟨Inv.refr (f1:=z.fr) u.inv (λj hj=>?_) (λj o f h i I=>?_) rfl,λk=>RV.later (g:=z) (w:=W) (g':=⟨z.wm,z.tb,⟨λb=>z.fr b||decide (b=D),z.fr.t⟩⟩) (w':=W) ⟨λ_=>zUB _,λ_ _ e=>e,λ_ _ _=>rfl⟩ (u.env k),u.size,u.df,u.gl⟩
  .have ai:z.fr j=true\/j=D:=by simpa using hj
   rcases ai with hj|rfl
   .exact u.inv.ex.frz j hj
   .refine⟨Q,?_,λt ht d hd=>?_⟩
    .cases e:Al.look s.box j with
     |none=>rfl
     |some c=>
      obtain⟨cs,n⟩:=c;obtain⟨_,_,_,_,arr,el,us,h5,_⟩:=C.box j cs n e;have:=(zUH.1 h5).1;omega
    .obtain⟨d1,d2,d3⟩:=d;obtain⟨_,_,_,_,_,arr,el,h5,_⟩:=C.own t ht j d1 d2 d3 hd;have:=(zUH.1 h5).1;omega
  .have J:=((u.inv.ex.ob j o f h).2.2 i I).2.2.2.2.2;have R:i≠D:=by
    have h3:∃o2 f2,zE s.ob j=some (o2,f2)/\i∈f2:=by
     replace h:zE ((bm,OV.mp _,[bm])::s.ob) j=some (o,f):=h;rw[zK]at h;split at h
     .rename_i e;injection h with h
      obtain⟨_,rfl⟩:=zVf h;subst e;exact⟨_,_,A.m,I⟩
     .exact⟨o,f,h,I⟩
    obtain⟨o2,f2,h3,h4⟩:=h3;have:=((C.ex.ob j _ _ h3).2.2 i h4).2.1;omega
   show(z.fr i||decide (i=D))=false;rw[show z.fr i=false from J];simpa using R
 have aj:WkAt ⟨s.box,s.tg,s.nx,(bm,.mp (trMC (ql x.2.1 (fdT k2 29))),[bm])::s.ob⟩ (x.2.1,x.2.2.1,x.2.2.2.1,x.2.2.2.2.1,ql x.2.1 (fdT k2 29)) b0 bo cap b bf bm o6 fp ff [bm]:=by
  have F:=A.n;simp only[zUm,zUG,zU4,zVL,not_or,not_false_eq_true,zVx,zUp]at F;refine⟨A.w,A.cp,A.o,?_,?_,?_,A.n⟩
  .show zE (_::_) b=_;rw[zK,if_neg (λe=>F.2.2.1.2 e8)];exact A.l
  .show zE (_::_) bf=_;rw[zK,if_neg (λe=>F.2.2.2 e8)];exact A.f
  .show zE (_::_) bm=_;rw[zK,if_pos rfl]
 refine rest98 hp (B:=B) (q:=(x.2.1,x.2.2.1,x.2.2.2.1,x.2.2.2.2.1,ql x.2.1 (fdT k2 29))) (pp:=pp) (k0:=k0) (k1:=k1) (ks:=ks) Z e4 aj (by show zE (_::_) b6=_;rw[zK,if_neg (λe=>M e.symm)];exact x6) ac ad M x2 x3 ae af ag ah (g0:=⟨z.wm,z.tb,⟨λb=>z.fr b||decide (b=D),z.fr.t⟩⟩) (w0:=W) ?_ _ _ W (.refl _ _ _) H;rintro g' e' s' a2 W' ak E ⟨r,al,am⟩;obtain⟨z1,z2,z3⟩:=zQ6 hs ⟨m1,m3,m6⟩ C hM hD ak E.inv;show LeavesInM Fence.wide 6 Tryz.prog Tryz.f98 a2.tmps _ a2.defers .returning W';rw[E.df];refine⟨dQ,.inl ⟨_,_,rfl,run_takeDeferred (z3.trans P),?_⟩⟩;exact⟨_,results_none Tryz.results98 _ _ _,_,s',z1,z2,.tup [],⟨[],.nil,rfl⟩,[],r,[],al,⟨rfl,rfl⟩,by simpa using am,rfl⟩
end
section
open Go.Al Go.Den
def wOk(fu n:Nat):WOk (wcs fu n):=wok (λp a=>ok98 p a) fu n
def ok26b(fu n:Nat):CoX 26 ⟨zKb,zCU,c26b fu n⟩:=con26b fu c32 ok32 c46 ok46 c44 ok44 (c45n fu n) (ok45n fu n) c47 ok47a (wcs fu n).c48 (wOk fu n).h48
noncomputable def c43b(fu n m:Nat)(x:Str×Str×dc):da (db Int×dc):=zOd fu (c17 fu m) (c25 fu) (c26b fu n) (λ_=>false) x.1 x.2.1
def ok43b(fu n m:Nat):CoX 43 ⟨as43,rs43,c43b fu n m⟩:=con43b fu (c17 fu m) (ok17 fu m) (c25 fu) (ok25 fu) (c26b fu n) (ok26b fu n)
noncomputable def c24b(fu n m:Nat)(_:dc):da (dd×dc):=sh24 fu c29 (c43b fu n m) (λ_=>false)
def ok24(fu n m:Nat):CoX 24 ⟨as24,rs24,c24b fu n m⟩:=con24 fu c29 ok29 (c43b fu n m) (ok43b fu n m)
set_option maxRecDepth 1000000 in
def c24t:c24b 100 60 100 ()=some (true,()):=dO
def ok24t:CoX 24 ⟨as24,rs24,λ_=>some (true,())⟩:=(ok24 100 60 100).sub λx y h=>by
 rw[<-h];exact c24t
def u11(x:Str×Int×dc):da (dd×dc):=if x.1.length<=1048576 then some (true,())else none
def ok11:CoX 11 ⟨as11,rs11,u11⟩:=λx y b=>by
 obtain⟨a,c,u⟩:=x;change Str at a;by_cases h:a.length<=1048576
 .have d:u11 (a,c,u)=some (true,()):=if_pos h;replace b:u11 (a,c,u)=some y:=b;rw[d]at b;injection b with b
  subst b;have e:=zPT (fu:=80100) (f2:=a.length+201) (m:=80200) (n:=400001) ⟨dM,dM⟩ dM dM (λ_=>false) a c dM dM;exact con11 80100 (c17 80100 80200) (ok17 80100 80200) (λ_=>some (true,())) ok24t (c25 (a.length+201)) (ok25 (a.length+201)) (c26b 80100 (400001+3)) (ok26b 80100 (400001+3)) c28 ok28 c29 ok29 (a,c,u) _ e
 .have d:u11 (a,c,u)=none:=if_neg h;replace b:u11 (a,c,u)=some y:=b;rw[d]at b;cases b
end
end Go.Proofs.YtnamdpbcpnnhaaaGreatDoor
namespace Go.Proofs.YtnamdpbcpnnhaaaGreatDoor.scopeGroups
section
open Go.Al Go.Den Go.ChangeShapes Go.WideShapes Go.ChangeAt Go.RowKit
open Go.ChangeMaps (open_string shut_string)
theorem own:ownKnob Tryz.prog.godebug=none:=dO
theorem laidOut:laidOutB Tryz.prog=true:=dO
theorem walk(a:db UInt8)(g:Int)(i:a.length<=1048576)(W:de)(b:GlobOk W.heap.size (wmOf W) W)(c d:dh)(j:RV1 ⟨wmOf W,λ_=>none,Fr.no⟩ W (.at (.string ⟨a.toArray⟩)) c)(k:RV1 ⟨wmOf W,λ_=>none,Fr.no⟩ W (.at (.int .i64 g)) d):Calls Tryz.prog 11 #[c,d] W λe h=>e=.returned (.bool true)/\dC W.heap.size W h:=by
 have l:=ok11 (a,g,()) (true,()) (if_pos i) _ ⟨_,_,rfl,rfl,⟨_,_,rfl,rfl,rfl⟩⟩;refine(l (wmOf W) W [c,d] (zOg W) b (.cons j (.cons k RVs.nil))).mono ?_;rintro e h ⟨v,m,rfl,_,f,n⟩;have o:v=.bool true:=yG n;subst o;exact⟨rfl,f.below⟩
theorem reads(b:Os){H:Type}(enc:dg×dh->H):∃a,DataW.whole enc Tryz.prog ((World.doorLaid Tryz.prog 400 b).forCall (λ_ _=>0) ⟨#[],#[.string ByteArray.empty,.int .i64 0],[]⟩).memory Tryz.f11.params.toList Rows.scopeGroupsSpec.vars false (#[.string ByteArray.empty,.int .i64 0]:dv dh).toList 8=some ([DataW.lit (.string []),DataW.lit (.int .i64 0)],[],a):=
 ⟨[],dO⟩
set_option maxRecDepth 100000 in
theorem lifted(f:Os)(a:f.Started)(H:Type)(enc:dg×dh->H)(F:Stop.Interp) :
 ReturnsInHanded {} Tryz.checked f 11 .any ((Rows.OpenSpec.upto Rows.scopeGroupsSpec).preRow enc Tryz.prog Tryz.f11 Rows.scopeGroupsUptoRow.domain false Rows.scopeGroupsUptoRow.laid) (((Rows.OpenSpec.upto Rows.scopeGroupsSpec).at F).post enc Tryz.prog Tryz.f11 false true false false):=by
 obtain⟨i,K⟩:=reads f enc;refine returnsInHanded_of_row (C:=Tryz.checked) (s:=Rows.OpenSpec.upto Rows.scopeGroupsSpec) own a dO Tryz.func11
  (zIn (enc:=enc) (C:=Tryz.checked) false (World.doorLaid Tryz.prog 400 f) #[.string ByteArray.empty,.int .i64 0] rfl (World.shaped_of_RefB dO dO) dO
   (OpenSpec.preRow_of_cond 8 K dO (λk L=>by cases L;kernel_rfl) dO (door4 f _))) ?_
 intro W base args ds gs l b z _ c _ M n _;have d:∀(j:Nat) t v,Tryz.f11.params[j]?=some t->args[j]?=some v->Value.okWide Tryz.prog W .any base t v:=b;have o:=z;obtain⟨p,q,g,N,rfl,O,P⟩:=z;have A:DataW.TrodAll enc Tryz.prog W 0 (λ_=>true) true Tryz.f11.params.toList args.toList ds p:=g;rw[Tryz.params11]at A d;obtain⟨B,Q,d0,R,S,q0,r,rfl,rfl,D,T⟩:=trodAll_cons A;obtain⟨E,U,d1,ds1,V,q1,rfl,rfl,rfl,G,X⟩:=trodAll_cons T;obtain⟨rfl,rfl,rfl⟩:=trodAll_nil X;obtain rfl:args=#[B,E]:=by cases args;simp_all
 obtain⟨rfl,rfl⟩:=trodVars_none N;have u:=glob4 n M;have k0:=D;have w:∀x∈S,x.block<W.heap.size:=by obtain⟨m,y⟩:=k0;exact DataW.trod_lt m _ _ _ y
 obtain⟨I,rfl,rfl,rfl,w0⟩:=open_string Tryz.underlying9 (d 0 9 B rfl rfl) D;have k1:=G;have lt1:∀x∈V,x.block<W.heap.size:=by obtain⟨m,y⟩:=k1;exact DataW.trod_lt m _ _ _ y
 obtain⟨J,rfl,rfl,rfl,w1⟩:=open_int Tryz.underlying3 (d 1 3 E rfl rfl) G;have Y:=zUw (c _ rfl);simp only[zUR,zUQ,Rows.uptoBulkAll,Rows.uptoBulk,zUO]at Y;clear g b c;refine(walk I.data.toList J dM W u _ _ (zTp I) (zSj .i64 J)).mono λe W' ⟨Z,bel⟩=>?_;subst Z;exact⟨_,rfl,_,_,_,[],_,[],o,trodAll_mk1 (shut_bool Tryz.underlying4 _),(trodAll_cons_mk (Below.trod laidOut dO (zUw dO) k0 bel w) (trodAll_cons_mk (Below.trod laidOut dO (zUw dO) k1 bel lt1) trodAll_mk0)),rfl,bel.frame _,λh=>dU⟩
theorem over:Rows.ScopeGroupsUptoSaid:=
 OpenClaim.holds_of_cond 11 Tryz.f11 rfl rfl rfl rfl rfl rfl rfl ⟨rfl,rfl,rfl,rfl,rfl⟩ rfl rfl rfl rfl rfl dO Tryz.func11 dO
  (zUw dO) (by unfold Func.isWrapper;first|(rw[if_pos (by decide +kernel)];kernel_rfl)|(rw[if_neg (by decide +kernel)];exact⟨rfl,rfl⟩))
  (λb a H enc _ F=>by rw[OpenClaim.pre_eq_preRow];exact lifted b a H enc F)
theorem scopeGroups_holds:Rows.ScopeGroupsUptoCardSaid:=
 Claim7.holds_tied_plain_at .later [] [.data,.widerDeep,.widerDeep,.widerDeep] true (true, "7c58562b21b618913f75bececb98783b54f88d308e840749b21184127f6feb62") true
  over (λ_ h=>dU) dO (λ_ h=>dU) scopeGroupsUpto_row_tie rfl ⟨rfl,rfl⟩ dO rfl
  (λf d e b=>by
   obtain rfl:f=11:=zVi ((show Tryz.prog.funcNamed "emend/emendlaw18.ScopeGroups"=some 11 by kernel_rfl).symm.trans e) |>.symm;obtain rfl:d=Tryz.f11:=(zVi (Tryz.func11.symm.trans b)).symm;exact⟨dO,λj t c=>by
    rw[Tryz.params11]at c;have g:t∈[9,3]:=by simpa using zWF c
    have a:([9,3].all λu=>!Tryz.prog.wantsStandIn u)=true:=dO
    exact(show Tryz.prog.wantsStandIn t=false by simpa using zUb.1 a t g)⟩)
  dO
end
end Go.Proofs.YtnamdpbcpnnhaaaGreatDoor.scopeGroups
