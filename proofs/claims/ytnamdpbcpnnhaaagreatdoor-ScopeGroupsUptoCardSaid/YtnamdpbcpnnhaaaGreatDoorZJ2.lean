/- Part 2 of what the last text needs. No condition. -/
import Derived.Test.YtnamdpbcpnnhaaaGreatDoorZJ1
import Derived.WalkKit
import Derived.Laws.BytesString
import Derived.Laws.MakeOwn
import Derived.Laws.Cells
import Derived.WalkSpells
import Derived.WalkLawsBesides
import Derived.Deep.LoopGhost
import Derived.Deep.AppendSrc
import Derived.Sort.LoopGhostIn
import Derived.OrdersIn
import Derived.RangeFuncRecord
import Derived.Laws.StructEq
import Derived.Laws.Pointers
import Derived.Still
import Derived.IntWalk
set_option linter.unusedVariables false
set_option linter.unusedSimpArgs false
set_option linter.unusedSectionVars false
set_option linter.defProp false
set_option maxHeartbeats 4000000
theorem dU{P:Prop}(h:P:=by cases h):P:=h
theorem dQ{P:Prop}(h:P:=by simp):P:=h
theorem eF{P:Prop}(h:P:=by simpa using a):P:=h
theorem dP{P:Prop}(h:P:=by decide):P:=h
theorem eO{P:Prop}(h:P:=by simp[q]):P:=h
theorem eP{P:Prop}(h:P:=by simp[c]):P:=h
theorem dM{P:Prop}(h:P:=by omega):P:=h
theorem fb{P:Prop}(h:P:=by cases e):P:=h
theorem d4{P:Prop}(h:P:=by simp;omega):P:=h
theorem eV{P:Prop}(h:P:=by simp only[zUC,zUG];exact .inr i):P:=h
theorem eT{P:Prop}(h:P:=by unfold execOp;rw[l];exact run_u j):P:=h
theorem d8{P:Prop}(h:P:=by unfold execOp;rw[l];exact kO j):P:=h
theorem eG{P:Prop}(h:P:=by simpa using b):P:=h
theorem fc{P:Prop}(h:P:=by simp[t]):P:=h
theorem fE{P:Prop}(h:P:=by unfold left;exact zU0 (zWG _ _) dQ):P:=h
theorem eU{P:Prop}(h:P:=by simp[stepG,stepG.exec,Frame.atR]):P:=h
section
namespace Go.Al
inductive Tag where
 |nil
 |no
 |own (t:Nat) (nb:Bool) (sz:Nat)
inductive V where
 |any
 |at(v:Value)
 |agg (fs:List V)
 |tup (vs:List V)
 |lst (tg:Tag) (es:List V)
 |rptr (x:V)
 |ifx
 |clo (fn:Fn) (caps:List V)
instance:Inhabited V:=⟨.any⟩
abbrev _root_.dd:=@Bool
def one:dh->dd
 |.agg _|.tuple _=>false
 |_=>true
def V.isOne:V->dd
 |.any|.agg _|.tup _=>false
 |_=>true
def V.isAgg:V->dd
 |.agg _=>true
 |_=>false
def V.flat:V->db V
 |.agg fs=>fs
 |x=>[x]
mutual
def V.size:V->Nat
 |.agg fs=>jh fs
 |_=>1
def jh:List V->Nat
 |[]=>0
 |x::xs=>x.size+jh xs
end
structure Fr where
 b:Nat->Bool
 t:Nat->Bool
instance:CoeFun Fr (λ_=>Nat->Bool):=⟨Fr.b⟩
def Fr.no:Fr:=⟨λ_=>false,λ_=>false⟩
structure Gh where
 wm:Nat->Nat
 tb:Nat->Option (Option (Nat×Nat×Nat×Nat))
 fr:Fr
def Gh.bare(g:Gh):Gh:=⟨g.wm,λ_=>none,g.fr⟩
def pack:V->db dh->dh
 |.agg _,us=>.agg us.toArray
 |_,us=>us.headD undef
abbrev _root_.de:=@World
def At(g:Gh)(w:de)(b o:Nat)(us:db dh):Prop:=
 ∀(k:Nat) u,us[k]?=some u->w.cell? ⟨b,o+k,none⟩=some u/\o+k<g.wm b
def zFa(g:Gh)(a:Nat)(b o cap:Nat):Tag->Prop
 |.nil=>False
 |.no=>True
 |.own t c sz=>g.tb t=some (some (b,cap,a,sz))/\o=0/\(c=true->a≠0)
def zGs(g:Gh):Tag->Prop
 |.nil=>True
 |.no=>False
 |.own t a _=>g.tb t=some none/\a=true
def Unif(tg:Tag)(es:db V):Prop:=
 ∃sz,(∀x∈es,x.size=sz)/\(∀t a s,tg=.own t a s->s=sz\/es=[])
mutual
/-- The cells of an abstract value. -/
def RC(g:Gh)(w:World):V->List Value->Prop
 |.any,_=>False
 |.at v,us=>us=[v]/\one v=true
 |.agg fs,us=>RCs g w fs us
 |.tup _,_=>False
 |.lst tg es,us=>
  (es=[]/\us=[.slice none 0 0]/\zGs g tg) \/
  (∃b o cap ds,us=[.slice (some ⟨b,o,none⟩) es.length cap]/\es.length<=cap/\zFa g es.length b o cap tg/\RCs g.bare w es ds/\Unif tg es/\At g w b o ds)
 |.rptr x,us=>∃b o ds,us=[.pointer (some ⟨b,o,none⟩)]/\RC g.bare w x ds/\At g w b o ds
 |.ifx,us=>∃t p,us=[.iface t p]
 |.clo fn caps,us=>∃ds,RCs g.bare w caps ds/\us=[.func fn #[] ds.toArray]
def RCs(g:Gh)(w:World):List V->List Value->Prop
 |[],us=>us=[]
 |x::xs,us=>∃u1 u2,us=u1++u2/\RC g w x u1/\RCs g w xs u2
end
mutual
theorem qh(g:Gh)(w:World):∀x us,RC g w x us->us.length=x.size
 |.any,us,h=>by simp[RC]at h
 |.at v,us,h=>by simp[RC]at h;simp[h.1,V.size]
 |.agg fs,us,h=>by simp only[RC]at h;simp only[V.size];exact yc g w fs us h
 |.tup _,us,h=>by simp[RC]at h
 |.lst tg es,us,h=>by
  simp only[RC]at h;rcases h with⟨_,rfl,_⟩|⟨b,o,cap,ds,rfl,_⟩<;>simp[V.size]
 |.rptr x,us,h=>by simp only[RC]at h;obtain⟨b,o,ds,rfl,_⟩:=h;simp[V.size]
 |.ifx,us,h=>by simp only[RC]at h;obtain⟨t,p,rfl⟩:=h;simp[V.size]
 |.clo fn caps,us,h=>by simp only[RC]at h;obtain⟨ds,_,rfl⟩:=h;simp[V.size]
theorem yc(g:Gh)(w:World):∀xs us,RCs g w xs us->us.length=jh xs
 |[],us,h=>by simp only[RCs]at h;simp[h,jh]
 |x::xs,us,h=>by
  simp only[RCs]at h;obtain⟨u1,u2,rfl,h1,h2⟩:=h;have e1:=qh g w x u1 h1;have e2:=yc g w xs u2 h2;simp[jh,e1,e2]
end
structure Later(g:Gh)(w:World)(g':Gh)(w':World):Prop where
 wm:∀b,g.wm b<=g'.wm b
 tb:∀t x,g.tb t=some x->g'.tb t=some x
 cell:∀b o,o<g.wm b->w'.cell? ⟨b,o,none⟩=w.cell? ⟨b,o,none⟩
abbrev _root_.dD:=@Later
def Later.refl(g:Gh)(w:de):dD g w g w:=⟨λ_=>zUB _,λ_ _ h=>h,λ_ _ _=>rfl⟩
def Later.trans{g c d:Gh}{w f i:de}(h:dD g w c f)(a:dD c f d i):dD g w d i:=
 ⟨λb=>zU0 (h.wm b) (a.wm b),λt x e=>a.tb t x (h.tb t x e),
  λb o j=>(a.cell b o (zUo j (h.wm b))).trans (h.cell b o j)⟩
def Later.bare{g g':Gh}{w w':de}(l:dD g w g' w'):dD g.bare w g'.bare w':=⟨l.wm,(λ_ _ h=>dU),l.cell⟩
def At.later{g g':Gh}{w w':de}(l:dD g w g' w'){b o:Nat}{us:db dh}(h:At g w b o us):At g' w' b o us:=
 λk u a=>let⟨h1,h2⟩:=h k u a;⟨(l.cell b _ h2).trans h1,zUo h2 (l.wm b)⟩
mutual
theorem zCC{g g':Gh}{w w':World}(l:Later g w g' w'):∀x us,RC g w x us->RC g' w' x us
 |.any,us,h=>by simp[RC]at h
 |.at v,us,h=>by simpa [RC]using h
 |.agg fs,us,h=>by simp only[RC]at h ⊢;exact yE l fs us h
 |.tup _,us,h=>by simp[RC]at h
 |.lst tg es,us,h=>by
  simp only[RC]at h ⊢;rcases h with⟨he,hu,hn⟩|⟨b,o,cap,ds,hu,hc,ht,hr,hf,ha⟩
  .refine .inl ⟨he,hu,?_⟩;cases tg with
   |nil=>exact hn
   |no=>exact hn
   |own t nb s=>exact⟨l.tb _ _ hn.1,hn.2⟩
  .refine .inr ⟨b,o,cap,ds,hu,hc,?_,yE l.bare es ds hr,hf,ha.later l⟩;cases tg with
   |nil=>exact ht
   |no=>exact ht
   |own t nb s=>exact⟨l.tb _ _ ht.1,ht.2⟩
 |.rptr x,us,h=>by
  simp only[RC]at h ⊢;obtain⟨b,o,ds,hu,hr,ha⟩:=h;exact⟨b,o,ds,hu,zCC l.bare x ds hr,ha.later l⟩
 |.ifx,us,h=>by simp only[RC]at h ⊢;exact h
 |.clo fn caps,us,h=>by
  simp only[RC]at h ⊢;obtain⟨ds,hr,hu⟩:=h;exact⟨ds,yE l.bare caps ds hr,hu⟩
theorem yE{g g':Gh}{w w':World}(l:Later g w g' w'):∀xs us,RCs g w xs us->RCs g' w' xs us
 |[],us,h=>by simpa [RCs]using h
 |x::xs,us,h=>by
  simp only[RCs]at h ⊢;obtain⟨u1,u2,rfl,h1,h2⟩:=h;exact⟨u1,u2,rfl,zCC l x u1 h1,yE l xs u2 h2⟩
end
mutual
/-- What holds without names holds with them. -/
theorem zE2(g:Gh)(w:World):∀x us,RC g.bare w x us->RC g w x us
 |.any,us,h=>by simp[RC]at h
 |.at v,us,h=>by simpa [RC]using h
 |.agg fs,us,h=>by simp only[RC]at h ⊢;exact zBT g w fs us h
 |.tup _,us,h=>by simp[RC]at h
 |.lst tg es,us,h=>by
  simp only[RC]at h ⊢;rcases h with⟨he,hu,hn⟩|⟨b,o,cap,ds,hu,hc,ht,hr,hf,ha⟩
  .refine .inl ⟨he,hu,?_⟩;cases tg with
   |nil=>exact hn
   |no=>exact hn
   |own t nb s=>cases hn.1
  .refine .inr ⟨b,o,cap,ds,hu,hc,?_,hr,hf,ha⟩;cases tg with
   |nil=>exact ht
   |no=>exact ht
   |own t nb s=>cases ht.1
 |.rptr x,us,h=>by simp only[RC]at h ⊢;exact h
 |.ifx,us,h=>by simp only[RC]at h ⊢;exact h
 |.clo fn caps,us,h=>by simp only[RC]at h ⊢;exact h
theorem zBT(g:Gh)(w:World):∀xs us,RCs g.bare w xs us->RCs g w xs us
 |[],us,h=>by simpa [RCs]using h
 |x::xs,us,h=>by
  simp only[RCs]at h ⊢;obtain⟨u1,u2,rfl,h1,h2⟩:=h;exact⟨u1,u2,rfl,zE2 g w x u1 h1,zBT g w xs u2 h2⟩
end
def RV1(g:Gh)(w:de)(x:V)(u:dh):Prop:=∃us,RC g w x us/\u=pack x us
inductive RVs(g:Gh)(w:World):List V->List Value->Prop where
 |nil:RVs g w [] []
 |cons {x u xs us} (h:RV1 g w x u) (hs:RVs g w xs us):RVs g w (x::xs) (u::us)
def RV(g:Gh)(w:de):V->dh->Prop
 |.any,_=>True
 |.tup vs,u=>∃us,RVs g w vs us/\u=.tuple us.toArray
 |x,u=>RV1 g w x u
def RV1.later{g g':Gh}{w w':de}(l:dD g w g' w'){x:V}{u:dh}(h:RV1 g w x u):RV1 g' w' x u:=
 let⟨us,h1,h2⟩:=h;⟨us,zCC l x us h1,h2⟩
def RVs.later{g g':Gh}{w w':de}(l:dD g w g' w'){xs:db V}{us:db dh}(h:RVs g w xs us):RVs g' w' xs us:=by
 induction h with
 |nil=>exact .nil
 |cons h _ a=>exact .cons (h.later l) a
def RV.later{g g':Gh}{w w':de}(l:dD g w g' w'){x:V}{u:dh}(h:RV g w x u):RV g' w' x u:=by
 cases x with
 |any=>trivial
 |tup vs=>obtain⟨us,a,b⟩:=h;exact⟨us,a.later l,b⟩
 |_=>exact RV1.later l h
def RV.of_RV1{g:Gh}{w:de}{x:V}{u:dh}(h:RV1 g w x u):RV g w x u:=by
 cases x with
 |any=>trivial
 |tup vs=>obtain⟨us,a,_⟩:=h;simp[RC]at a
 |_=>exact h
def RVs.get{g:Gh}{w:de}{xs:db V}{us:db dh}(h:RVs g w xs us):∀(i:Nat) x,xs[i]?=some x->∃u,us[i]?=some u/\RV1 g w x u:=by
 induction h with
 |nil=>intro i x a;simp at a
 |cons h _ b=>
  intro i x a;cases i with
  |zero=>simp at a;subst a;exact⟨_,dQ,h⟩
  |succ i=>simpa using b i x eF
def RVs.length{g:Gh}{w:de}{xs:db V}{us:db dh}(h:RVs g w xs us):us.length=xs.length:=by
 induction h with
 |nil=>rfl
 |cons _ _ a=>simp[a]
open Go.RowKit
def Hide.mk{p:Prop}(h:p):Hid p:=h
abbrev Env:=db (Nat×V)
def Env.get:Env->Nat->V
 |[],_=>.any
 |(k,x)::r,j=>if k=j then x else Env.get r j
def Env.put:Env->Nat->V->Env
 |[],j,y=>[(j,y)]
 |(k,x)::r,j,y=>if k=j then(k,y)::r else(k,x)::Env.put r j y
abbrev _root_.da:=@Option
def Env.putO(e:Env):da Nat->V->Env
 |some d,x=>e.put d x
 |none,_=>e
def Env.get_put(e:Env)(d:Nat)(x:V)(j:Nat):(e.put d x).get j=if d=j then x else e.get j:=by
 induction e with
 |nil=>simp[Env.put,Env.get]
 |cons p r b=>
  obtain⟨k,y⟩:=p;unfold Env.put;by_cases h:k=d
  .subst h;rw[if_pos rfl];unfold Env.get;by_cases a:k=j
   .rw[if_pos a,if_pos a]
   .rw[if_neg a,if_neg a,if_neg a]
  .rw[if_neg h];unfold Env.get;by_cases a:k=j
   .rw[if_pos a,if_pos a,if_neg (λe=>h (a.trans e.symm))]
   .rw[if_neg a,if_neg a];exact b
def zx(es:db V):Tag:=if es.isEmpty then .nil else .no
def cV1:dh->V
 |.slice none 0 0=>.lst .nil []
 |.agg _=>.any
 |.tuple _=>.any
 |v=>.at v
def cV:dh->V
 |.agg cs=>if cs.toList.all one then .agg (cs.toList.map cV1)else .any
 |v=>cV1 v
def zK4(g:Gh)(w:de)(v:dh)(h:one v=true):RC g w (cV1 v) [v]:=by
 unfold cV1;split
 .simp[RC,zGs]
 .simp[one]at h
 .simp[one]at h
 .simp[RC,h]
def zGk(g:Gh)(w:de):∀(vs:db dh),vs.all one=true->RCs g w (vs.map cV1) vs
 |[],_=>by simp[RCs]
 |v::r,h=>by
  simp only[zUd,zUE]at h;simp only[zUC,RCs];exact⟨[v],r,rfl,zK4 g w v h.1,zGk g w r h.2⟩
def RV_cV(g:Gh)(w:de)(v:dh):RV g w (cV v) v:=by
 unfold cV;split
 .rename_i cs;split
  .rename_i h;exact RV.of_RV1 ⟨cs.toList,by simpa [RC]using zGk g w cs.toList h,by simp[pack]⟩
  .trivial
 .cases h:one v with
  |false=>
   cases v<;>simp[one]at h<;>simp[cV1,RV]
  |true=>
   refine RV.of_RV1 ⟨[v],zK4 g w v h,?_⟩;unfold cV1;split<;>simp_all [pack,one]
def zGl:db (Nat×db dh)->Nat->da (db dh)
 |[],_=>none
 |(k,us)::r,n=>if k=n then some us else zGl r n
def zJi:∀{l:db (Nat×db dh)}{n:Nat}{us:db dh},zGl l n=some us->(n,us)∈l
 |(k,u)::r,n,us,h=>by
  unfold zGl at h;split at h
  .rename_i e;injection h with h;subst e;subst h;exact zUz ..
  .exact zUW _ (zJi h)
def zIL(n:Nat):V:=match zGl zGr n with|some us=>.rptr (.agg (us.map cV1))|none=>.at (.pointer (some ⟨n,0,none⟩))
set_option maxRecDepth 100000 in
def zO1:∀p∈zGr,p.2.all one=true:=dP
abbrev _root_.dq:=@Operand
def Env.ev(e:Env):dq->V
 |.tmp t=>e.get t
 |.const v=>cV v
 |.global g=>zIL g
 |.func f=>.clo (.func f) []
def look:db (Nat×db V×Nat)->Nat->da (db V×Nat)
 |[],_=>none
 |(k,c)::r,b=>if k=b then some c else look r b
def wipe:db (Nat×db V×Nat)->Nat->db (Nat×db V×Nat)
 |[],_=>[]
 |(k,c)::r,b=>if k=b then wipe r b else(k,c)::wipe r b
def lay:db (Nat×db V×Nat)->Nat->db V×Nat->db (Nat×db V×Nat)
 |[],b,x=>[(b,x)]
 |(k,c)::r,b,x=>if k=b then(k,x)::r else(k,c)::lay r b x
def zO(l:db (Nat×db V×Nat))(b:Nat)(x:db V×Nat)(j:Nat):look (lay l b x) j=if b=j then some x else look l j:=by
 induction l with
 |nil=>simp[lay,look]
 |cons p r c=>
  obtain⟨k,y⟩:=p;unfold lay;by_cases h:k=b
  .subst h;rw[if_pos rfl];unfold look;by_cases a:k=j
   .rw[if_pos a,if_pos a]
   .rw[if_neg a,if_neg a,if_neg a]
  .rw[if_neg h];unfold look;by_cases a:k=j
   .rw[if_pos a,if_pos a,if_neg (λe=>h (a.trans e.symm))]
   .rw[if_neg a,if_neg a];exact c
def yR(l:db (Nat×db V×Nat))(b j:Nat):look (wipe l b) j=if b=j then none else look l j:=by
 induction l with
 |nil=>simp[wipe,look]
 |cons p r c=>
  obtain⟨k,y⟩:=p;unfold wipe;by_cases h:k=b
  .subst h;rw[if_pos rfl,c];by_cases a:k=j
   .rw[if_pos a,if_pos a]
   .rw[if_neg a,if_neg a];show look r j=if k=j then some y else look r j
    rw[if_neg a]
  .rw[if_neg h];show(if k=j then some y else look (wipe r b) j)=if b=j then none else(if k=j then some y else look r j)
   rw[c];by_cases a:k=j
   .rw[if_pos a,if_neg (λe=>h (a.trans e.symm)),if_pos a]
   .rw[if_neg a,if_neg a]
end Go.Al
end
namespace Go.Al
section
open Go.RowKit
abbrev _root_.dk:=@ByteArray
abbrev MC:=db (dk×V)
def MapR(g:Gh)(w:de):MC->db MapEntry->Prop
 |[],es=>es=[]
 |(k,v)::r,es=>∃e a,es=e::a/\e.key=.string k/\RV1 g.bare w v e.val/\MapR g w r a
def MapR.later{g g':Gh}{w w':de}(l:dD g w g' w'):∀{o:MC}{es:db MapEntry},MapR g w o es->MapR g' w' o es
 |[],_,h=>h
 |(k,v)::r,es,h=>by
  obtain⟨e,a,b,c,d,f⟩:=h;exact⟨e,a,b,c,d.later l.bare,MapR.later l f⟩
inductive OV where
 |mp (c:MC)
 |sc (xs:List MC) (cap:Nat)
 |lv (xs:List (MC×MC))
 |l1 (x:MC×MC)
def MMem(g:Gh)(w:de)(b:Nat)(c:MC):Prop:=∃arr a,w.heap[b]?=some (.map arr a)/\MapR g w c arr.toList
def MMems(g:Gh)(w:de):db Nat->db MC->Prop
 |[],xs=>xs=[]
 |b::bs,xs=>∃c cs,xs=c::cs/\MMem g w b c/\MMems g w bs cs
def LMem(g:Gh)(w:de):db (MC×MC)->da Nat->db Nat->Prop
 |[],o,fp=>o=none/\fp=[]
 |x::r,o,fp=>∃b c d nx el a,o=some b/\fp=b::c::d::a/\w.heap[b]?=some (.cells #[.map (some c),.map (some d),.pointer (nx.map λj=>⟨j,0,none⟩)] el (0,0))/\MMem g w c x.1/\MMem g w d x.2/\LMem g w r nx a
abbrev _root_.dg:=@TypeId
def OMem(g:Gh)(w:de)(b:Nat):OV->db Nat->Prop
 |.lv xs,fp=>xs≠[]/\fp.Nodup/\LMem g w xs (some b) fp
 |.l1 x,fp=>∃(a d:Nat)(nx:da Nat)(el:dg),fp=[b,a,d]/\fp.Nodup/\w.heap[b]?=some (.cells #[.map (some a),.map (some d),.pointer (nx.map λj=>⟨j,0,none⟩)] el (0,0))/\MMem g w a x.1/\MMem g w d x.2
 |.mp c,fp=>fp=[b]/\MMem g w b c
 |.sc xs cap,fp=>∃bs arr el,fp=b::bs/\fp.Nodup/\w.heap[b]?=some (.cells arr el (0,0))/\arr.size=cap/\bs.length<=cap/\arr.toList.take bs.length=bs.map (λj=>Value.map (some j))/\MMems g w bs xs
def MMem.local{g g':Gh}{w w':de}{b:Nat}{c:MC}(h:MMem g w b c)(l:dD g w g' w')(d:w'.heap[b]?=w.heap[b]?):MMem g' w' b c:=by
 obtain⟨arr,a,e,f⟩:=h;exact⟨arr,a,d.trans e,f.later l⟩
def MMems.local{g g':Gh}{w w':de}(l:dD g w g' w'):∀{bs:db Nat}{xs:db MC},MMems g w bs xs->(∀j∈bs,w'.heap[j]?=w.heap[j]?)->MMems g' w' bs xs
 |[],_,h,_=>h
 |b::bs,xs,h,a=>by
  obtain⟨c,cs,d,e,f⟩:=h;exact⟨c,cs,d,e.local l (a b dQ),MMems.local l f λj i=>a j (by simp[i])⟩
def LMem.local{g g':Gh}{w w':de}(l:dD g w g' w'):∀{xs:db (MC×MC)}{o:da Nat}{fp:db Nat},LMem g w xs o fp->(∀j∈fp,w'.heap[j]?=w.heap[j]?)->LMem g' w' xs o fp
 |[],_,_,h,_=>h
 |x::r,o,fp,h,a=>by
  obtain⟨b,d,e,nx,el,c,f,rfl,i,k,m,n⟩:=h;exact⟨b,d,e,nx,el,c,f,rfl,(a b dQ).trans i,k.local l (a d dQ),m.local l (a e dQ),LMem.local l n λj p=>a j (by simp[p])⟩
def OMem.local{g g':Gh}{w w':de}{b:Nat}{o:OV}{fp:db Nat}(h:OMem g w b o fp)(l:dD g w g' w')(a:∀j∈fp,w'.heap[j]?=w.heap[j]?):OMem g' w' b o fp:=by
 cases o with
 |mp c=>
  obtain⟨rfl,h⟩:=h;exact⟨rfl,h.local l (a b dQ)⟩
 |sc xs cap=>
  obtain⟨bs,arr,el,rfl,f,d,e,i,k,p⟩:=h;exact⟨bs,arr,el,rfl,f,(a b dQ).trans d,e,i,k,p.local l λj q=>a j eO⟩
 |lv xs=>
  obtain⟨f,d,e⟩:=h;exact⟨f,d,e.local l a⟩
 |l1 x=>
  obtain⟨m,n,nx,el,rfl,d,e,i,k⟩:=h;exact⟨m,n,nx,el,rfl,d,(a b dQ).trans e,i.local l (a m dQ),k.local l (a n dQ)⟩
def ba_eq{s k:dk}(h:(s==k)=true):s=k:=by
 cases s with|mk a=>cases k with|mk b=>
 have c:(a==b)=true:=h;rw[eq_of_beq c]
def zNE(s:dk):(s==s)=true:=by
 cases s with|mk a=>
 show(a==a)=true;exact zVg a
def mget:MC->dk->da V
 |[],_=>none
 |(k,v)::r,s=>if(s==k)=true then some v else mget r s
def mput:MC->dk->V->MC
 |[],s,v=>[(s,v)]
 |(k,u)::r,s,v=>if(s==k)=true then(s,v)::r else(k,u)::mput r s v
def zEI{g:Gh}{w:de}(s:dk):∀{o:MC}{es:db MapEntry}(i:Nat),MapR g w o es ->
 (mget o s=none/\Instr.findNow .string (.string s) es i=some none) \/
 (∃v u j,mget o s=some v/\RV1 g.bare w v u/\Instr.findNow .string (.string s) es i=some (some (i+j,u))/\j<es.length/\((es[j]?).map (·.key))=some (.string s) /\
  ∀y c,RV1 g.bare w y c->MapR g w (mput o s y) (es.modify j λe=>{ e with key:=.string s,val:=c }))
 |[],es,i,h=>by
  have:es=[]:=h;subst this;exact .inl ⟨rfl,rfl⟩
 |(k,v)::r,es,i,h=>by
  obtain⟨e,a,rfl,d,p,q⟩:=h;cases b:s==k with
  |true=>
   refine .inr ⟨v,e.val,0,by simp[mget,b],p,by simp[Instr.findNow,d,Instr.sameNow,b],dQ,?_,λy c f=>?_⟩
   .have:k=s:=(ba_eq b).symm;simp[d,this]
   .have z:mput ((k,v)::r) s y=(s,y)::r:=by simp[mput,b]
    rw[z];exact⟨_,a,rfl,rfl,f,q⟩
  |false=>
   have t:Instr.findNow .string (.string s) (e::a) i=Instr.findNow .string (.string s) a (i+1):=by simp[Instr.findNow,d,Instr.sameNow,b]
   have x:mget ((k,v)::r) s=mget r s:=by simp[mget,b]
   rcases zEI s (i+1) q with⟨l,m⟩|⟨v',u,j,l,m,A,D,B,n⟩
   .exact .inl ⟨x.trans l,t.trans m⟩
   .refine .inr ⟨v',u,j+1,x.trans l,m,by rw[t,A];congr 3;omega,by simp;omega,by simpa using B,λy c f=>?_⟩;have C:mput ((k,v)::r) s y=(k,v)::mput r s y:=by simp[mput,b]
    rw[C];exact⟨e,_,rfl,d,p,n y c f⟩
def zKx{g:Gh}{w:de}(s:dk){y:V}{b:dh}(c:RV1 g.bare w y b)(born:Nat):∀{o:MC}{es:db MapEntry},MapR g w o es->mget o s=none->MapR g w (mput o s y) (es++[{ key:=.string s,val:=b,born }])
 |[],es,h,_=>by
  have:es=[]:=h;subst this;exact⟨_,[],rfl,rfl,c,rfl⟩
 |(k,v)::r,es,h,d=>by
  obtain⟨e,f,rfl,i,j,l⟩:=h;cases a:s==k with
  |true=>simp[mget,a]at d
  |false=>
   have m:mput ((k,v)::r) s y=(k,v)::mput r s y:=by simp[mput,a]
   rw[m];exact⟨e,_,rfl,i,j,zKx s c born l (by simpa [mget,a]using d)⟩
end
end Go.Al
section
namespace Go.Al
open Go.RowKit
structure S where
 box:List (Nat×List V×Nat)
 tg:List Nat
 nx:Nat
 ob:List (Nat×OV×List Nat)
def zE:db (Nat×OV×db Nat)->Nat->da (OV×db Nat)
 |[],_=>none
 |(k,c)::r,b=>if k=b then some c else zE r b
structure InvX(B:Nat)(g:Gh)(st:S)(w:World):Prop where
 frz:∀b,g.fr b=true->b<w.heap.size/\look st.box b=none/\∀t∈st.tg,∀d,g.tb t=some (some (b,d))->False
 ob:∀b o fp,zE st.ob b=some (o,fp)->OMem g w b o fp/\b∈fp/\∀j∈fp,B<=j/\j<w.heap.size/\g.wm j=0/\look st.box j=none/\(∀t∈st.tg,∀d,g.tb t=some (some (j,d))->False)/\g.fr j=false
 obd:∀b o fp b' o' fp' j,zE st.ob b=some (o,fp)->zE st.ob b'=some (o',fp')->j∈fp->j∈fp'->b=b'
 ft:∀t,g.fr.t t=true->t∉st.tg/\∃d,g.tb t=some d
structure Inv(B:Nat)(g:Gh)(st:S)(w:World):Prop where
 base:B<=w.heap.size
 box:∀b cs k,look st.box b=some (cs,k)->B<=b/\g.wm b=0/\cs.length<=k/\(∀c∈cs,c.isOne=true) /\
  ∃arr el us,w.heap[b]?=some (.cells arr el (0,0))/\arr.size=k/\RCs g w cs us/\arr.toList.take cs.length=us
 tag:∀t∈st.tg,∃d,g.tb t=some d
 own:∀t∈st.tg,∀b cap n sz,g.tb t=some (some (b,cap,n,sz))->B<=b/\g.wm b=n*sz/\n<=cap/\cap<=maxLen/\look st.box b=none /\
  ∃arr el,w.heap[b]?=some (.cells arr el (0,0))/\arr.size=cap*sz
 dist:∀t∈st.tg,∀t'∈st.tg,∀b x y,g.tb t=some (some (b,x))->g.tb t'=some (some (b,y))->t=t'
 nodup:st.tg.Nodup
 fresh:∀b,w.heap.size<=b->g.wm b=0
 names:∀t,st.nx<=t->g.tb t=none
 ex:InvX B g st w
structure Step(B:Nat)(g:Gh)(w:World)(g':Gh)(w':World):Prop where
 later:Later g w g' w'
 below:Below B w w'
 fz:∀b,g.fr b=true->w'.heap[b]?=w.heap[b]?/\g'.wm b=g.wm b
 wmB:∀b,b<B->g'.wm b=g.wm b
 fr:g'.fr=g.fr
abbrev _root_.dB:=@Step
def Step.refl(B:Nat)(g:Gh)(w:de):dB B g w g w:=⟨.refl _ _,.refl _ _,λ_ _=>⟨rfl,rfl⟩,λ_ _=>rfl,rfl⟩
def Step.trans{B:Nat}{g f i:Gh}{w j k:de}(h:dB B g w f j)(d:dB B f j i k):dB B g w i k:=
 ⟨h.later.trans d.later,h.below.trans d.below,λb c=>⟨(d.fz b (by rw[h.fr];exact c)).1.trans (h.fz b c).1,(d.fz b (by rw[h.fr];exact c)).2.trans (h.fz b c).2⟩,λb c=>(d.wmB b c).trans (h.wmB b c),d.fr.trans h.fr⟩
structure NF where
 n:Nat
 fx:List (Nat×Value)
def NF.ok(N:NF)(d:Nat):dd:=decide (d<N.n)&&N.fx.all λp=>!Nat.beq p.1 d
def NF.ok_lt{N:NF}{d:Nat}(h:N.ok d=true):d<N.n:=by
 unfold NF.ok at h;rw[zUE]at h;exact zUw h.1
def NF.ok_fx{N:NF}{d:Nat}(h:N.ok d=true):∀p∈N.fx,p.1≠d:=λp b e=>by
 unfold NF.ok at h;rw[zUE,zUb]at h;have:=h.2 p b;rw[e]at this;simp at this
structure Cx where
 B:Nat
 N:NF
 ro:Option Nat
 df:List Deferred
structure GlobOk(B:Nat)(wm:Nat->Nat)(w:World):Prop where
 one:∀p∈zN4,p.1<B/\∃arr el m,w.heap[p.1]?=some (.cells arr el m)/\p.2 arr.toList
 all:∀p∈zGr,p.1<B/\(∃arr el m,w.heap[p.1]?=some (.cells arr el m)/\arr.toList=p.2)/\p.2.length<=wm p.1
abbrev _root_.dC:=@Below
def GlobOk.below{B:Nat}{f c:Nat->Nat}{w w':de}(l:dC B w w')(i:∀b,f b<=c b)(h:GlobOk B f w):GlobOk B c w':=⟨λp d=>
 let⟨h0,arr,el,m,h1,h2⟩:=h.one p d;⟨h0,arr,el,m,(l.block _ h0).trans h1,h2⟩,λp d=>
 let⟨h0,⟨arr,el,m,h1,h2⟩,h3⟩:=h.all p d;⟨h0,⟨arr,el,m,(l.block _ h0).trans h1,h2⟩,zU0 h3 (i _)⟩⟩
def GlobOk.mono{B c:Nat}{d:Nat->Nat}{w:de}(l:B<=c)(h:GlobOk B d w):GlobOk c d w:=⟨λp b=>
 let⟨h0,h1⟩:=h.one p b;⟨zUo h0 l,h1⟩,λp b=>let⟨h0,h1⟩:=h.all p b;⟨zUo h0 l,h1⟩⟩
structure Rel(X:Cx)(g:Gh)(e:Env)(st:S)(a:Act)(w:World):Prop where
 inv:Inv X.B g st w
 env:∀k,RV g w (e.get k) (a.tmps.getD k undef)
 size:a.tmps.size=X.N.n/\∀p∈X.N.fx,a.tmps.getD p.1 undef=p.2
 df:a.defers=X.df
 gl:GlobOk X.B g.wm w
def Rel.ev{X:Cx}{g:Gh}{e:Env}{st:S}{a:Act}{w:de}(h:Rel X g e st a w)(x:dq):RV g w (e.ev x) (a.eval x):=by
 cases x with
 |tmp t=>exact h.env t
 |const v=>exact RV_cV g w v
 |global n=>
  show RV g w (zIL n) (.pointer (some ⟨n,0,none⟩));unfold zIL;split
  .rename_i us i;have b:=zJi i;obtain⟨_,⟨arr,el,m,j,l⟩,c⟩:=h.gl.all _ b;refine RV.of_RV1 ⟨[.pointer (some ⟨n,0,none⟩)],?_,rfl⟩;simp only[RC];refine⟨n,0,us,rfl,zGk g.bare w us (zO1 _ b),λk u d=>⟨?_,?_⟩⟩
   .rw[cell_of_row w n _ arr el m j,zUY,<-zVJ,l];exact d
   .have:=(zVK.1 d).1;replace c:us.length<=g.wm n:=c;omega
  .exact RV.of_RV1 (x:=.at (.pointer (some ⟨n,0,none⟩))) ⟨[.pointer (some ⟨n,0,none⟩)],by simp[RC,one],rfl⟩
 |func f=>exact RV.of_RV1 (x:=.clo (.func f) []) ⟨[.func (.func f) #[] #[]],by simp[RC,RCs],rfl⟩
def Rel.put{X:Cx}{g g':Gh}{e:Env}{st b:S}{a:Act}{w w':de}(h:Rel X g e st a w)(l:dD g w g' w')(lb:dC X.B w w')(i:Inv X.B g' b w')
 {x:V} {u:dh} (n:RV g' w' x u) (d:da Nat) (j:∀t,d=some t->X.N.ok t=true):Rel X g' (e.putO d x) b (a.put d u) w':=by
 refine⟨i,λk=>?_,?_,?_,h.gl.below lb l.wm⟩
 .cases d with
  |none=>exact(h.env k).later l
  |some t=>
   have q:=NF.ok_lt (j t rfl);simp only[Env.putO,Act.put,Env.get_put];by_cases c:t=k
   .subst c;have r:t<a.tmps.size:=by rw[h.size.1];exact q
    simpa [r]using n
   .have:=(h.env k).later l;simpa [c,zWY c]using this
 .cases d with
  |none=>exact h.size
  |some t=>
   refine⟨by simp[Act.put,h.size.1],λp m=>?_⟩;have f:=NF.ok_fx (j t rfl) p m;have:=h.size.2 p m;simpa [Act.put,zWY (zU9 f)]using this
 .cases d<;>simp[Act.put,h.df]
def Env.sub(e e':Env):Prop:=∀k,e'.get k=e.get k\/e'.get k=.any
def Env.sub_refl(e:Env):e.sub e:=λ_=>.inl rfl
def Env.sub_of(e:Env):∀(l:db (Nat×V)),(∀p∈l,e.get p.1=p.2)->e.sub l
 |[],_,k=>.inr rfl
 |(j,x)::r,h,k=>by
  simp only[Env.get];by_cases b:j=k
  .subst b;exact .inl (by rw[if_pos rfl];exact(h (j,x) dQ).symm)
  .rw[if_neg b];exact Env.sub_of e r (λp c=>h p eP) k
structure S.sub(st st':S):Prop where
 box:∀b c,look st'.box b=some c->look st.box b=some c
 tg:∀t∈st'.tg,t∈st.tg
 nodup:st.tg.Nodup->st'.tg.Nodup
 out:∀b,look st.box b=none->look st'.box b=none
 nx:st.nx<=st'.nx
 ob:∀b x,zE st'.ob b=some x->zE st.ob b=some x
def S.sub_refl(st:S):st.sub st:=⟨λ_ _ h=>h,λ_ h=>h,λh=>h,λ_ h=>h,zUB _,λ_ _ h=>h⟩
def InvX.weaken{B:Nat}{g:Gh}{st f:S}{w:de}(h:InvX B g st w)(s:st.sub f):InvX B g f w:=
 ⟨λb m=>let⟨c,d,h3⟩:=h.frz b m;⟨c,s.out b d,λt i=>h3 t (s.tg t i)⟩,
  λb o fp n=>let⟨c,d,h3⟩:=h.ob b o fp (s.ob b _ n);⟨c,d,λj p=>let⟨k1,k2,k3,k4,k5,k6⟩:=h3 j p;⟨k1,k2,k3,s.out j k4,λt i=>k5 t (s.tg t i),k6⟩⟩,
  λb o fp l o' k j c d=>h.obd b o fp l o' k j (s.ob b _ c) (s.ob l _ d),λt i=>let⟨c,d⟩:=h.ft t i;⟨λq=>c (s.tg t q),d⟩⟩
def InvX.step{B:Nat}{g g':Gh}{st c:S}{w w':de}(h:InvX B g st w)(l:dD g w g' w')(y:w.heap.size<=w'.heap.size)(f:g'.fr=g.fr)(p:c.ob=st.ob)
 (z:∀b o fp,zE st.ob b=some (o,fp)->∀j∈fp,w'.heap[j]?=w.heap[j]?/\g'.wm j=g.wm j)
 (q:∀j,look st.box j=none->(g.fr j=true\/∃b o fp,zE st.ob b=some (o,fp)/\j∈fp)->look c.box j=none)
 (r:∀j,(g.fr j=true\/∃b o fp,zE st.ob b=some (o,fp)/\j∈fp)->(∀t∈st.tg,∀d,g.tb t=some (some (j,d))->False)->∀t∈c.tg,∀d,g'.tb t=some (some (j,d))->False)
 (x:∀t∈c.tg,t∈st.tg\/g.tb t=none:=by exact λt u=>.inl u):InvX B g' c w':=by
 refine⟨λb v=>?_,λb o fp m=>?_,?_,λt u=>?_⟩
 .rw[f]at v;obtain⟨s,i,k⟩:=h.frz b v;exact⟨zUo s y,q b i (.inl v),r b (.inl v) k⟩
 .rw[p]at m;obtain⟨s,i,k⟩:=h.ob b o fp m;refine⟨s.local l (λj n=>(z b o fp m j n).1),i,λj n=>?_⟩;obtain⟨k1,k2,A,C,D,E⟩:=k j n;exact⟨k1,zUo k2 y,(z b o fp m j n).2.trans A,q j C (.inr ⟨b,o,fp,m,n⟩),r j (.inr ⟨b,o,fp,m,n⟩) D,by rw[f];exact E⟩
 .rw[p];exact h.obd
 .rw[f]at u;obtain⟨s,d,i⟩:=h.ft t u;refine⟨λF=>?_,d,l.tb t d i⟩;rcases x t F with k|k
  .exact s k
  .rw[k]at i;cases i
def Inv.weaken{B:Nat}{g:Gh}{st d:S}{w:de}(h:Inv B g st w)(s:st.sub d):Inv B g d w:=
 ⟨h.base,λb cs k j=>h.box b cs k (s.box _ _ j),λt c=>h.tag t (s.tg t c),
  λt c b cap n sz l=>let⟨h1,h2,h3,h4,h5,h6⟩:=h.own t (s.tg t c) b cap n sz l;⟨h1,h2,h3,h4,s.out b h5,h6⟩,
  λt c i f=>h.dist t (s.tg t c) i (s.tg i f),s.nodup h.nodup,h.fresh,λt c=>h.names t (zU0 s.nx c),h.ex.weaken s⟩
def Rel.weaken{X:Cx}{g:Gh}{e e':Env}{st b:S}{a:Act}{w:de}(h:Rel X g e st a w)(d:e.sub e')(f:st.sub b):Rel X g e' b a w:=
 ⟨h.inv.weaken f,λk=>by
  rcases d k with c|c
  .rw[c];exact h.env k
  .rw[c];trivial,h.size,h.df,h.gl⟩
abbrev _root_.dH:=@Fence
def fen(b:da Nat):dH:={ fn:=λ_=>True,depth:=none,alive:=false,round:=b }
abbrev _root_.di:=@Program
abbrev _root_.dE:=@Code
abbrev _root_.dA:=@Exit
def awp(P:di)(X:Cx)(c:dE)(Q:dA->Env->S->Prop)(e:Env)(st:S):Prop:=
 ∀g a w,Rel X g e st a w->c.wpIn (fen X.ro) 0 P (λd f w'=>∃g' e' b,dB X.B g w g' w'/\Rel X g' e' b f w'/\Q d e' b) a w
def zC2(next:Env->S->Prop)(Q:dA->Env->S->Prop):dA->Env->S->Prop
 |.normal,e,st=>next e st
 |x,e,st=>Q x e st
def zDo(id:Nat)(Q:dA->Env->S->Prop):dA->Env->S->Prop
 |.exit b,e,st=>if b=id then Q .normal e st else Q (.exit b) e st
 |x,e,st=>Q x e st
section rules
variable{P:di}{X:Cx}{Q:dA->Env->S->Prop}{e:Env}{st:S}
def zR2{c:dE}{d:dA->Env->S->Prop}(h:awp P X c Q e st)(f:∀x e st,Q x e st->d x e st):awp P X c d e st:=
 λg a w i=>wpIn_mono (h g a w i) λ_ _ _ ⟨g',e',b,j,k,l⟩=>⟨g',e',b,j,k,f _ _ _ l⟩
def zOX{c:dE}{e':Env}{b:S}(d:e.sub e')(f:st.sub b)(h:awp P X c Q e' b):awp P X c Q e st:=
 λg a w i=>h g a w (i.weaken d f)
def zAE(h:Q .normal e st):awp P X .skip Q e st:=
 λg a w b=>wpIn_skip ⟨g,e,st,.refl _ _ _,b,h⟩
def zBM{id:Nat}(h:Q (.exit id) e st):awp P X (.exit id) Q e st:=
 λg a w b=>wpIn_exit ⟨g,e,st,.refl _ _ _,b,h⟩
def zIu(h:Q .ret e st):awp P X .ret Q e st:=
 λg a w b=>wpIn_ret ⟨g,e,st,.refl _ _ _,b,h⟩
def flowX:dE->da dA
 |.skip=>some .normal
 |.ret=>some .ret
 |.exit id=>some (.exit id)
 |_=>none
def zd{c:dE}{x:dA}(b:flowX c=some x)(h:Q x e st):awp P X c Q e st:=by
 cases c with
 |skip=>injection b with b;subst b;exact zAE h
 |ret=>injection b with b;subst b;exact zIu h
 |exit id=>injection b with b;subst b;exact zBM h
 |_=>cases b
def zh{x y:dE}(h:awp P X x (zC2 (awp P X y Q) Q) e st):awp P X (.seq x y) Q e st:=by
 intro g a w k;refine wpIn_seq (wpIn_mono (h g a w k) ?_);rintro m n w' ⟨g',e',b,d,f,i⟩;cases m with
 |normal=>exact wpIn_mono (i g' n w' f) λ_ _ _ ⟨p,q,j,k1,k2,r⟩=>⟨p,q,j,d.trans k1,k2,r⟩
 |exit id=>exact⟨g',e',b,d,f,i⟩
 |goto l=>exact⟨g',e',b,d,f,i⟩
 |ret=>exact⟨g',e',b,d,f,i⟩
 |panic c=>exact⟨g',e',b,d,f,i⟩
 |outgrown=>exact⟨g',e',b,d,f,i⟩
def zT{id:Nat}{c:dE}(h:awp P X c (zDo id Q) e st):awp P X (.block id c) Q e st:=by
 intro g a w j;refine wpIn_block (wpIn_mono (h g a w j) ?_);rintro k n w' ⟨g',e',b,f,i,d⟩;cases k with
 |exit m=>
  simp only[Exit.inBlock];simp only[zDo]at d;split
  .rename_i hid;rw[if_pos hid]at d;exact⟨g',e',b,f,i,d⟩
  .rename_i hid;rw[if_neg hid]at d;exact⟨g',e',b,f,i,d⟩
 |normal=>exact⟨g',e',b,f,i,d⟩
 |goto l=>exact⟨g',e',b,f,i,d⟩
 |ret=>exact⟨g',e',b,f,i,d⟩
 |panic c=>exact⟨g',e',b,f,i,d⟩
 |outgrown=>exact⟨g',e',b,f,i,d⟩
def x8{c:dq}{x y:dE}{t:dd}(j:e.ev c=.at (.bool t))(k:t=true->awp P X x Q e st)(l:t=false->awp P X y Q e st) :
 awp P X (.cond c x y) Q e st:=by
 intro g a w b;have f:=b.ev c;rw[j]at f;have h:a.eval c=.bool t:=by
  obtain⟨us,i,d⟩:=f;simp only[RC]at i;rw[d,i.1];rfl
 cases t with
 |true=>exact wpIn_cond_true h (k rfl g a w b)
 |false=>exact wpIn_cond_false h (l rfl g a w b)
def zLq{c:dE}{α:Type}(I:α->Prop)(μ:α->Nat)(E:α->Env)(T:α->S)(x₀:α)(s:I x₀)(t:e.sub (E x₀))(u:st.sub (T x₀))
 (d:∀x,I x->awp P X c (zC2 (λe' q=>∃p,I p/\μ p<μ x/\e'.sub (E p)/\q.sub (T p)) Q) (E x) (T x)):awp P X (.loop c) Q e st:=by
 intro g a w v;refine wpIn_loop_ghost (λn y w'=>∃x g',μ x=n/\I x/\dB X.B g w g' w'/\Rel X g' (E x) (T x) y w') (μ x₀) ⟨x₀,g,rfl,s,.refl _ _ _,v.weaken t u⟩ ?_;rintro n z A ⟨x,C,rfl,D,f,F⟩;refine wpIn_mono (d x D C z A F) ?_;rintro G N O ⟨h,m,b,i,j,k⟩;cases G with
 |normal=>
  obtain⟨r,H,J,L,M⟩:=k;exact⟨μ r,J,r,h,rfl,H,f.trans i,j.weaken L M⟩
 |exit id=>exact⟨h,m,b,f.trans i,j,k⟩
 |goto l=>exact⟨h,m,b,f.trans i,j,k⟩
 |ret=>exact⟨h,m,b,f.trans i,j,k⟩
 |panic c=>exact⟨h,m,b,f.trans i,j,k⟩
 |outgrown=>exact⟨h,m,b,f.trans i,j,k⟩
end rules
open Go.RowKit
def zCP{w:de}{b o:Nat}{u:dh}(h:w.cell? ⟨b,o,none⟩=some u):b<w.heap.size:=World.block_lt_of_cell? w _ h
def Inv.grow{B:Nat}{g g':Gh}{st:S}{w w':de}(h:Inv B g st w)(l:dD g w g' w')(A:w.heap.size<=w'.heap.size)(q:∀b,b<w.heap.size->w'.heap[b]?=w.heap[b]?)
 (d:∀b,b<w.heap.size->g'.wm b=g.wm b) (D:∀b,w'.heap.size<=b->g'.wm b=0) (c:g'.tb=g.tb) (r:g'.fr=g.fr):Inv B g' st w':=by
 have m:∀{b:Nat}{o:Obj},w.heap[b]?=some o->b<w.heap.size:=λE=>(zUH.1 E).1;refine⟨zU0 h.base A,?_,?_,?_,?_,h.nodup,D,?_,h.ex.step l A r rfl (λb o fp p j C=>⟨q j ((h.ex.ob b o fp p).2.2 j C).2.1,d j ((h.ex.ob b o fp p).2.2 j C).2.1⟩) (λj e _=>e) (λj _ e=>by rw[c];exact e)⟩
 .intro b cs k p;obtain⟨s,u,v,x,arr,el,us,f,i,y,F⟩:=h.box b cs k p;exact⟨s,by rw[d b (m f)];exact u,v,x,arr,el,us,by rw[q b (m f)];exact f,i,yE l _ _ y,F⟩
 .rw[c];exact h.tag
 .rw[c];intro t G b cap n sz z;obtain⟨s,u,v,x,f,arr,el,i,y⟩:=h.own t G b cap n sz z;exact⟨s,by rw[d b (m i)];exact u,v,x,f,arr,el,by rw[q b (m i)];exact i,y⟩
 .rw[c];exact h.dist
 .rw[c];exact h.names
def zFg{g g':Gh}{w w':de}(f:∀b,w.heap.size<=b->g.wm b=0)(i:∀b,b<w.heap.size->w'.heap[b]?=w.heap[b]?)(c:∀b,g.wm b<=g'.wm b)(d:∀t x,g.tb t=some x->g'.tb t=some x):dD g w g' w':=
 ⟨c,d,λb o j=>World.cell?_of_block (i b (by
  rcases zUx b w.heap.size with h|h
  .exact h
  .rw[f b h]at j;omega))⟩
structure Out(B:Nat)(g:Gh)(w:World)(g':Gh)(st':S)(w':World):Prop where
 step:Step B g w g' w'
 inv:Inv B g' st' w'
def Out.refl{B:Nat}{g:Gh}{st:S}{w:de}(h:Inv B g st w):Out B g w g st w:=⟨.refl _ _ _,h⟩
def zCB{B:Nat}{g:Gh}{st:S}{w:de}(h:Inv B g st w)(n:Nat):Out B g w g st { w with drawn:=n }:=
 ⟨⟨⟨λ_=>zUB _,λ_ _ e=>e,λ_ _ _=>rfl⟩,⟨rfl,rfl,rfl,zUB _,λ_ _=>rfl⟩,λ_ _=>⟨rfl,rfl⟩,λ_ _=>rfl,rfl⟩,
  h.grow ⟨λ_=>zUB _,λ_ _ e=>e,λ_ _ _=>rfl⟩ (zUB _) (λ_ _=>rfl) (λ_ _=>rfl) h.fresh rfl rfl⟩
def zD5(w:de)(o:Obj)(b:Nat)(h:b<w.heap.size):(w.alloc o).heap[b]?=w.heap[b]?:=Below.heap_alloc w o b h
def zBb(w:de)(o:Obj):(w.alloc o).heap[w.heap.size]?=some o:=heap_alloc_new w o
abbrev _root_.dv:=@Array
def zCk{B:Nat}{g:Gh}{st:S}{w:de}(h:Inv B g st w)(cs:dv dh)(el:dg)(m:Nat) :
 Out B g w ⟨λb=>if b=w.heap.size then m else g.wm b,g.tb,g.fr⟩ st (w.alloc (.cells cs el)):=by
 have d:(w.alloc (.cells cs el)).heap.size=w.heap.size+1:=dQ
 have f:dD g w ⟨λb=>if b=w.heap.size then m else g.wm b,g.tb,g.fr⟩ (w.alloc (.cells cs el)):=
  zFg h.fresh (λb c=>zD5 w _ b c) (λb=>by
   show g.wm b<=if b=w.heap.size then m else g.wm b
   split
   .rename_i e;rw[h.fresh b dM];omega
   .exact zUB _) (λ_ _ e=>e)
 refine⟨⟨f,(Below.refl _ _).alloc h.base _,λb c=>⟨zD5 w _ b (h.ex.frz b c).1,if_neg (zWB (h.ex.frz b c).1)⟩,λb c=>?_,rfl⟩,h.grow f dM (λb c=>zD5 w _ b c) (λb c=>?_) (λb c=>?_) rfl rfl⟩
 .have:=h.base;show(if b=w.heap.size then m else g.wm b)=_;rw[if_neg dM]
 .show(if b=w.heap.size then m else g.wm b)=_;rw[if_neg dM]
 .show(if b=w.heap.size then m else g.wm b)=0;rw[d]at c;rw[if_neg dM];exact h.fresh b dM
def zLc{g:Gh}{w:de}(cs:dv dh)(el:dg)(us:db dh)(m:Nat)(j:us.length<=m)(f:cs.toList.take us.length=us) :
 At ⟨λb=>if b=w.heap.size then m else g.wm b,g.tb,g.fr⟩ (w.alloc (.cells cs el)) w.heap.size 0 us:=by
 intro k u c;have i:k<us.length:=by
  rcases zUx k us.length with h|h
  .exact h
  .rw[zWD h]at c;cases c
 refine⟨?_,by show 0+k<(if w.heap.size=w.heap.size then m else g.wm _);rw[if_pos rfl];omega⟩;rw[zUY,cell_of_row _ w.heap.size k cs el (0,0) (zBb w _)];have d:=zU1 (λl=>l[k]?) f;simp only[zU6,if_pos i]at d;rw[<-c,<-d];simp
def Inv.addBox{B:Nat}{g:Gh}{st:S}{w:de}(h:Inv B g st w){b:Nat}{arr:dv dh}{el:dg}{cs:db V}{us:db dh}(v:B<=b)(x:g.wm b=0)
 (y:w.heap[b]?=some (.cells arr el (0,0))) (z:cs.length<=arr.size) (m:∀c∈cs,c.isOne=true) (A:RCs g w cs us) (C:arr.toList.take cs.length=us)
 (p:∀t∈st.tg,∀d,g.tb t=some (some (b,d))->False) (q:g.fr b=false) (k:∀f o fp,zE st.ob f=some (o,fp)->b∉fp):Inv B g ⟨lay st.box b (cs,arr.size),st.tg,st.nx,st.ob⟩ w:=by
 refine⟨h.base,?_,h.tag,?_,h.dist,h.nodup,h.fresh,h.names,h.ex.step (.refl _ _) (zUB _) rfl rfl (λ_ _ _ _ _ _=>⟨rfl,rfl⟩) (λj e l=>?_) (λ_ _ e=>e)⟩
 .intro f cs' D i;simp only[zO]at i;by_cases e:b=f
  .subst e;rw[if_pos rfl]at i;injection i with i
   injection i with r E
   subst r;subst E;exact⟨v,x,z,m,arr,el,us,y,rfl,A,C⟩
  .rw[if_neg e]at i;exact h.box f cs' D i
 .intro t s f cap n sz u;obtain⟨F,G,H,I,J,L⟩:=h.own t s f cap n sz u;refine⟨F,G,H,I,?_,L⟩;simp only[zO];rw[if_neg]
  .exact J
  .intro e;subst e;exact p t s _ u
 .show look (lay st.box b (cs,arr.size)) j=none;rw[zO,if_neg (λr=>?_)]
  .exact e
  .subst r;rcases l with l|⟨f,o,fp,m,M⟩
   .rw[q]at l;cases l
   .exact k f o fp m M
def zIT{B:Nat}{g:Gh}{st:S}{w:de}(h:Inv B g st w){b:Nat}{cs:db V}{k:Nat}(F:look st.box b=some (cs,k)){arr:dv dh}{el:dg}
 (R:w.heap[b]?=some (.cells arr el (0,0))) (arr':dv dh) (hs:arr'.size=arr.size) (cs':db V) (r:db dh) (hc:cs'.length<=arr.size) (U:∀c∈cs',c.isOne=true)
 (W:RCs g w cs' r) (Y:arr'.toList.take cs'.length=r):Out B g w g ⟨lay st.box b (cs',k),st.tg,st.nx,st.ob⟩ (w.setRow b arr'):=by
 obtain⟨Z,T,p3,p4,p,s,aa,E,p6,p7,p8⟩:=h.box b cs k F;have he:p=arr/\s=el:=by rw[R]at E;injection E with E;injection E with z G;exact⟨z.symm,G.symm⟩
 obtain⟨rfl,rfl⟩:=he;have f:∀j,j≠b->(w.setRow b arr').heap[j]?=w.heap[j]?:=λj q=>setRow_other w b j _ q;have u:=setRow_heap w b p arr' s (0,0) R;have v:∀j o,o<g.wm j->(w.setRow b arr').cell? ⟨j,o,none⟩=w.cell? ⟨j,o,none⟩:=λj o ho=>by
  refine World.cell?_of_block (f j ?_);intro e;subst e;rw[T]at ho;omega
 have m:dD g w g (w.setRow b arr'):=⟨λ_=>zUB _,λ_ _ e=>e,v⟩;have x:∀j,look st.box j=none->j≠b:=λj e z=>by subst z;rw[F]at e;cases e
 refine⟨⟨m,⟨rfl,rfl,rfl,dQ,λj q=>f j dM⟩,λj q=>⟨f j (x j (h.ex.frz j q).2.1),rfl⟩,λ_ _=>rfl,rfl⟩,?_⟩
 .refine⟨by simpa using h.base,?_,h.tag,?_,h.dist,h.nodup,λj q=>h.fresh j (by simpa using q),h.names,h.ex.step m dQ rfl rfl (λl o fp d j q=>⟨f j (x j ((h.ex.ob l o fp d).2.2 j q).2.2.2.1),rfl⟩) (λj e _=>?_) (λ_ _ e=>e)⟩
  .intro l A k2 d;replace d:look (lay st.box b (cs',k)) l=some (A,k2):=d;rw[zO]at d;by_cases e:b=l
   .subst e;rw[if_pos rfl]at d;injection d with d
    injection d with z G
    subst z;subst G;exact⟨Z,T,dM,U,arr',s,r,u,dM,yE m _ _ W,Y⟩
   .rw[if_neg e]at d;obtain⟨H,I,J,L,i,y,M,C,N,O,q8⟩:=h.box l A k2 d;exact⟨H,I,J,L,i,y,M,by rw[f l (zU9 e)];exact C,N,yE m _ _ O,q8⟩
  .intro t ht l cap n sz hb;obtain⟨H,I,J,L,C,i,y,N,O⟩:=h.own t ht l cap n sz hb;have D:b≠l:=λe=>by subst e;rw[F]at C;cases C
   refine⟨H,I,J,L,?_,i,y,by rw[f l (zU9 D)];exact N,O⟩;simp only[zO];rw[if_neg D];exact C
  .show look (lay st.box b (cs',k)) j=none;rw[zO,if_neg (zU9 (x j e))];exact e
def Inv.freshName{B:Nat}{g:Gh}{st:S}{w:de}(h:Inv B g st w):g.tb st.nx=none/\st.nx∉st.tg:=by
 refine⟨h.names _ (zUB _),λc=>?_⟩;obtain⟨d,b⟩:=h.tag _ c;rw[h.names _ (zUB _)]at b;cases b
def Inv.addTag{B:Nat}{g:Gh}{st:S}{w:de}(h:Inv B g st w){t:Nat}(v:t=st.nx)(d:da (Nat×Nat×Nat×Nat))
 (A:∀b cap n sz,d=some (b,cap,n,sz)->B<=b/\g.wm b=n*sz/\n<=cap/\cap<=maxLen/\look st.box b=none/\(∃arr el,w.heap[b]?=some (.cells arr el (0,0))/\arr.size=cap*sz) /\
  (∀t∈st.tg,∀x,g.tb t=some (some (b,x))->False)/\g.fr b=false/\∀F o fp,zE st.ob F=some (o,fp)->b∉fp) :
 Inv B ⟨g.wm,λj=>if j=t then some d else g.tb j,g.fr⟩ ⟨st.box,t::st.tg,st.nx+1,st.ob⟩ w/\dD g w ⟨g.wm,λj=>if j=t then some d else g.tb j,g.fr⟩ w:=by
 have O:g.tb t=none:=by rw[v];exact h.freshName.1
 have z:t∉st.tg:=by rw[v];exact h.freshName.2
 have m:dD g w ⟨g.wm,λj=>if j=t then some d else g.tb j,g.fr⟩ w:=⟨λ_=>zUB _,λj x e=>by
  show(if j=t then some d else g.tb j)=some x;rw[if_neg (λC=>by subst C;rw[O]at e;cases e)];exact e,λ_ _ _=>rfl⟩
 have c:∀j∈st.tg,(if j=t then some d else g.tb j)=g.tb j:=λj f=>if_neg (λe=>by subst e;exact z f);refine⟨⟨h.base,?_,?_,?_,?_,zUm.2 ⟨z,h.nodup⟩,h.fresh,?_,h.ex.step m (zUB _) rfl rfl (λ_ _ _ _ _ _=>⟨rfl,rfl⟩) (λ_ e _=>e) (λj f G p r x l=>?_) (λj f=>(zUG.1 f).elim (λe=>.inr (by rw[e];exact O)) .inl)⟩,m⟩
 .intro b cs k V;obtain⟨H,I,W,Y,arr,el,us,Z,h6,h7,h8⟩:=h.box b cs k V;exact⟨H,I,W,Y,arr,el,us,Z,h6,yE m _ _ h7,h8⟩
 .intro j f;rcases zUG.1 f with rfl|f
  .exact⟨d,if_pos rfl⟩
  .obtain⟨x,l⟩:=h.tag j f;exact⟨x,(c j f).trans l⟩
 .intro j f b cap n sz R;rcases zUG.1 f with rfl|f
  .have s:some d=some (some (b,cap,n,sz)):=by rw[<-R];exact(if_pos rfl).symm
   injection s with s
   obtain⟨q1,q2,q3,q4,q5,q6,_,_⟩:=A b cap n sz s;exact⟨q1,q2,q3,q4,q5,q6⟩
  .exact h.own j f b cap n sz ((c j f).symm.trans R)
 .intro j f p r b x y l J;rcases zUG.1 f with T|D<;>rcases zUG.1 r with C|E
  .rw[T,C]
  .subst T;have i:some d=some (some (b,x)):=by rw[<-l];exact(if_pos rfl).symm
   injection i with i
   obtain⟨L,M,N⟩:=x;obtain⟨_,_,_,_,_,_,q,_⟩:=A b L M N i;exact(q p E y ((c p E).symm.trans J)).elim
  .subst C;have u:some d=some (some (b,y)):=by rw[<-J];exact(if_pos rfl).symm
   injection u with u
   obtain⟨y1,y2,y3⟩:=y;obtain⟨_,_,_,_,_,_,q,_⟩:=A b y1 y2 y3 u;exact(q j D x ((c j D).symm.trans l)).elim
  .exact h.dist j D p E b x y ((c j D).symm.trans l) ((c p E).symm.trans J)
 .intro j f;replace f:st.nx+1<=j:=f;show(if j=t then some d else g.tb j)=none;rw[if_neg dM];exact h.names j dM
 .rcases zUG.1 r with rfl|U
  .have i:some d=some (some (j,x)):=by rw[<-l];exact(if_pos rfl).symm
   injection i with i
   obtain⟨L,M,N⟩:=x;obtain⟨_,_,_,_,_,_,_,q,q'⟩:=A j L M N i;rcases f with f|⟨F,o,fp,H,I⟩
   .rw[q]at f;cases f
   .exact q' F o fp H I
  .exact G p U x ((c p U).symm.trans l)
def Inv.dropTag{B:Nat}{g:Gh}{st:S}{w:de}(h:Inv B g st w)(t:Nat):Inv B g ⟨st.box,st.tg.erase t,st.nx,st.ob⟩ w:=
 h.weaken ⟨λ_ _ e=>e,λ_ b=>zWX b,λc=>c.erase t,λ_ e=>e,zUB _,λ_ _ e=>e⟩
def Inv.dropBox{B:Nat}{g:Gh}{st:S}{w:de}(h:Inv B g st w)(b:Nat):Inv B g ⟨wipe st.box b,st.tg,st.nx,st.ob⟩ w:=
 h.weaken ⟨λj c e=>by
  simp only[yR]at e;split at e
  .cases e
  .exact e,λ_ d=>d,λf=>f,λj e=>by
  simp only[yR];split
  .rfl
  .exact e,zUB _,λ_ _ e=>e⟩
def Inv.newFr{B:Nat}{g:Gh}{st:S}{w:de}(h:Inv B g st w):g.fr w.heap.size=false:=by
 cases e:g.fr w.heap.size with
 |false=>rfl
 |true=>exact absurd (h.ex.frz _ e).1 (zWu _)
def Inv.newOb{B:Nat}{g:Gh}{st:S}{w:de}(h:Inv B g st w):∀b o fp,zE st.ob b=some (o,fp)->w.heap.size∉fp:=λb o fp c d=>
 absurd ((h.ex.ob b o fp c).2.2 _ d).2.1 (zWu _)
open Go.RowKit
structure Pol where
 pf:FuncId->Bool
 wr:Nat->Bool
 own:Nat->Bool
 rf:FuncId->Bool
 kl:List (Nat×Nat)
 kb:Nat->List Nat
def ldK(L:Pol)(x:dq)(v:V):Prop:=
 match x with
 |.tmp u=>∀p∈L.kl,p.2=u->∀b o,v=.at (.pointer (some ⟨b,o,none⟩))->b∈L.kb p.1
 |_=>True
def stK(L:Pol)(x:dq)(v:V):Prop:=
 match x with
 |.tmp a=>∀b o,v=.at (.pointer (some ⟨b,o,none⟩))->b∉L.kb (1000000+a)
 |_=>True
def klb(L:Pol):da Nat->db Nat
 |some d=>L.kb d
 |none=>[]
section facts
variable(P:di)
def hasT(t:dg):dd:=(P.info? t).isSome&&(P.underlying t).isSome
def xr(t:dg):dd:=match P.underlying t with|some (.struct _)|some (.array _ _)=>true|_=>false
def elT(t:dg):da dg:=match P.underlying t with|some (.slice e)=>some e|_=>none
def zBj(t:dg):dd:=match P.underlying t with|some .string=>true|_=>false
def zGt(t:dg):dd:=match P.underlying t with|some .bool=>true|_=>false
def fieldAt(t:dg)(i:Nat):da (Nat×dg):=match P.underlying t with|some (.struct fs)=>(fs[i]?).map λf=>(f.offset,f.type)|_=>none
def zAk(t:dg):da dh:=(P.info? t).bind (·.zero)
def xU(t:dg):da (db V):=(zAk P t).bind λz=>if z.cells.toList.all one then some (z.cells.toList.map cV1)else none
abbrev _root_.dt:=@FuncId
def xY(f:dt):dd:=match P.funcs[f]? with|some b=>b.name != "runtime.NumGoroutine"&&b.body.isSome|none=>false
end facts
def xB:V->V
 |.lst (.own _ b _) es=>.lst (if b then zx es else .no) es
 |x=>x
def V.untag:V->V
 |.agg fs=>.agg (fs.map xB)
 |x=>xB x
section ops
variable(P:di)
def z7(t:dg)(fs:db V)(b:Nat):Prop:=hasT P t=true/\b+P.cellsOf t<=fs.length/\(xr P t=false->P.cellsOf t=1)
def yA(t:dg)(fs:db V)(b:Nat):V:=if xr P t=true then .agg ((fs.drop b).take (P.cellsOf t))else fs.getD b .any
def spl(cs:db V)(o:Nat)(xs:db V):db V:=cs.take o++xs++cs.drop (o+xs.length)
def zM(fs:db V):Prop:=fs.all V.isOne=true
def fits(t:dg)(x:V):Prop:=hasT P t=true/\x.size=P.cellsOf t/\x.isAgg=xr P t
def zCT:V->V->V->(V->Prop)->Prop
 |.at (.bool t),a,b,K=>K (if t then a else b)
 |_,_,_,_=>False
abbrev _root_.dm:=@IntKind
def ibit(f:(n:Nat)->BitVec n->BitVec n->BitVec n)(k:dm)(a b:Int):Int:=k.wrap ((f k.bits (BitVec.ofInt k.bits a) (BitVec.ofInt k.bits b)).toNat)
def iand(k:dm)(a b:Int):Int:=ibit (λ_ x y=>x &&& y) k a b
def ior(k:dm)(a b:Int):Int:=ibit (λ_ x y=>x ||| y) k a b
def ixor(k:dm)(a b:Int):Int:=ibit (λ_ x y=>x ^^^ y) k a b
def zNx(k:dm)(a b:Int):Int:=ibit (λ_ x y=>x &&& ~~~y) k a b
def ishl(k:dm)(a b:Int):Int:=k.wrap (a*2 ^ (min b.toNat k.bits))
def ishr(k:dm)(a b:Int):Int:=a.fdiv (2 ^ (min b.toNat k.bits))
def inot(k:dm)(n:Int):Int:=ixor k (if k.signed then -1 else k.max) n
def aInt(c:BinOp)(k:dm)(a b:Int)(K:V->Prop):Prop:=
 match c with
 |.and=>K (.at (.int k (iand k a b)))
 |.or=>K (.at (.int k (ior k a b)))
 |.xor=>K (.at (.int k (ixor k a b)))
 |.andNot=>K (.at (.int k (zNx k a b)))
 |.shl=>0<=b/\K (.at (.int k (ishl k a b)))
 |.shr=>0<=b/\K (.at (.int k (ishr k a b)))
 |.add=>K (.at (.int k (k.wrap (a+b))))
 |.sub=>K (.at (.int k (k.wrap (a-b))))
 |.mul=>K (.at (.int k (k.wrap (a*b))))
 |.quo=>b≠0/\K (.at (.int k (k.wrap (a.tdiv b))))
 |.rem=>b≠0/\K (.at (.int k (a.tmod b)))
 |.eql=>K (.at (.bool (a==b)))
 |.neq=>K (.at (.bool (a != b)))
 |.lss=>K (.at (.bool (decide (a<b))))
 |.leq=>K (.at (.bool (decide (a<=b))))
 |.gtr=>K (.at (.bool (decide (a > b))))
 |.geq=>K (.at (.bool (decide (a >= b))))
def aStr(c:BinOp)(a b:dk)(K:V->Prop):Prop:=
 match c with
 |.add=>((a.size+b.size:Nat):Int)<=IntKind.i64.max/\K (.at (.string (a++b)))
 |.eql=>K (.at (.bool (a.toList==b.toList)))
 |.neq=>K (.at (.bool !(a.toList==b.toList)))
 |.lss=>K (.at (.bool (Op.bytesLess a.toList b.toList)))
 |.leq=>K (.at (.bool (Op.bytesLess a.toList b.toList||a.toList==b.toList)))
 |.gtr=>K (.at (.bool !(Op.bytesLess a.toList b.toList||a.toList==b.toList)))
 |.geq=>K (.at (.bool !(Op.bytesLess a.toList b.toList)))
 |_=>False
def nilB:Tag->db V->dd
 |.nil,_=>true
 |.no,_=>false
 |.own _ b _,es=>b&&es.isEmpty
def kY(c:BinOp)(a b:dd)(K:V->Prop):Prop:=
 match c with
 |.eql=>K (.at (.bool (a==b)))
 |.neq=>K (.at (.bool (!(a==b))))
 |_=>False
def zGQ(t:dg):dd:=match P.underlying t with|some (.pointer _)=>true|_=>false
def aBin(c:BinOp)(t:dg):V->V->(V->Prop)->Prop
 |.at (.int k a),.at (.int d b),K=>(k=d\/c=.shl\/c=.shr)/\aInt c k a b K
 |.at (.bool a),.at (.bool b),K=>zGt P t=true/\kY c a b K
 |.at (.string a),.at (.string b),K=>aStr c a b K
 |.lst tg es,.lst .nil [],K=>(elT P t).isSome=true/\kY c (nilB tg es) true K
 |.at (.pointer p),.at (.pointer none),K=>zGQ P t=true/\kY c p.isNone true K
 |_,_,_=>False
def aUn(c:UnOp):V->(V->Prop)->Prop
 |.at (.bool b),K=>(match c with|.not=>K (.at (.bool !b))|_=>False)
 |.at (.int k n),K=>(match c with|.neg=>K (.at (.int k (k.wrap (0-n))))|.xor=>K (.at (.int k (inot k n)))|_=>False)
 |_,_=>False
def zAd(x:V)(i:Nat)(K:V->Prop):Prop:=
 match x with
 |.tup vs=>i<vs.length/\K (vs.getD i .any)
 |_=>False
def zPo(t:dg)(x:V)(f:Nat)(K:V->Prop):Prop:=
 match x,fieldAt P t f with
 |.agg fs,some (b,c)=>zM fs/\z7 P c fs b/\K (yA P c fs b)
 |_,_=>False
def xR(t:dg)(x:V)(f:Nat)(K:V->Prop):Prop:=
 match x,fieldAt P t f with
 |.rptr (.agg fs),some (c,d)=>zM fs/\z7 P d fs c/\0<P.cellsOf d/\K (.rptr (yA P d fs c))
 |.at (.pointer (some ⟨b,o,none⟩)),some (c,d)=>hasT P d=true/\0<P.cellsOf d/\K (.at (.pointer (some ⟨b,o+c,none⟩)))
 |_,_=>False
def xp(t:dg)(x i:V)(K:V->Prop):Prop:=
 match elT P t,x,i with
 |some el,.lst _ es,.at (.int _ n)=>hasT P el=true/\(0<=n/\n<(es.length:Int))/\(es.getD n.toNat .any).size=P.cellsOf el/\K (.rptr (es.getD n.toNat .any))
 |some el,.at (.slice (some ⟨b,o,none⟩) len _),.at (.int _ n)=>hasT P el=true/\(0<=n/\n<(len:Int))/\K (.at (.pointer (some ⟨b,o+n.toNat*P.cellsOf el,none⟩)))
 |_,_,_=>False
def arrT(P:di)(t:dg):da Nat:=match P.underlying t with|some (.array n e)=>if hasT P e=true/\P.cellsOf e=1/\xr P e=false then some n else none|_=>none
def zAl(t:dg)(x i:V)(K:V->Prop):Prop:=
 match x,i with
 |.at (.string s),.at (.int _ n)=>zBj P t=true/\(0<=n/\n<(s.size:Int))/\K (.at (.int .u8 ((s.data.getD n.toNat 0).toNat:Int)))
 |.agg fs,.at (.int _ n)=>arrT P t=some fs.length/\zM fs/\(0<=n/\n<(fs.length:Int))/\K (fs.getD n.toNat .any)
 |_,_=>False
def qW(st:S)(t:dg)(x:V)(K:V->Prop):Prop:=
 match x with
 |.rptr y=>fits P t y/\K y
 |.at (.pointer (some ⟨b,o,none⟩))=>
  match look st.box b with
  |some (cs,_)=>z7 P t cs o/\K (yA P t cs o)
  |none=>False
 |_=>False
def jf(st:S)(t:dg)(x y:V)(K:S->Prop):Prop:=
 match x with
 |.at (.pointer (some ⟨b,o,none⟩))=>
  match look st.box b with
  |some (cs,k)=>hasT P t=true/\y.flat.length=P.cellsOf t/\zM y.flat/\o+y.flat.length<=cs.length/\K ⟨lay st.box b (spl cs o y.flat,k),st.tg,st.nx,st.ob⟩
  |none=>False
 |_=>False
def aNew(st:S)(cs:db V)(K:V->S->Prop):Prop:=
 zM cs/\∀b,look st.box b=none->K (.at (.pointer (some ⟨b,0,none⟩))) ⟨lay st.box b (cs,cs.length),st.tg,st.nx,st.ob⟩
def zAL(st:S)(t:dg)(K:V->S->Prop):Prop:=
 match xU P t with
 |some cs=>aNew st cs K
 |none=>False
def zBh(c:Nat->da (Nat×Nat))(b:db V):db (Nat×V)->da (db V)
 |[]=>some b
 |(i,x)::f=>
  match c i with
  |none=>none
  |some (h,d)=>if x.flat.length=d/\h+d<=b.length/\x.flat.all V.isOne=true then zBh c (spl b h x.flat) f else none
def zCA(t:dg)(i:Nat):da (Nat×Nat):=(fieldAt P t i).bind λp=>if hasT P p.2 then some (p.1,P.cellsOf p.2)else none
def zD9(t:dg):dd:=match P.underlying t with|some (.struct fs)=>fs.toList.all λf=>hasT P f.type|_=>false
def zEn(t:dg)(parts:db (Nat×V))(K:V->Prop):Prop:=
 zD9 P t=true /\
 match xU P t with
 |some cs=>(match zBh (zCA P t) cs parts with|some cs'=>K (.agg cs')|none=>False)
 |none=>False
def zEt(t:dg):db (Nat×dg):=match P.underlying t with|some (.array n e)=>(List.range n).map λi=>(i*P.cellsOf e,e)|_=>[]
def zIF(t:dg)(i:Nat):da (Nat×Nat):=((zEt P t)[i]?).bind λp=>if hasT P p.2 then some (p.1,P.cellsOf p.2)else none
def zIf(t:dg)(parts:db (Nat×V))(K:V->Prop):Prop:=
 zEt P t≠[]/\hasT P ((zEt P t).headD (0,0)).2=true /\
 match xU P t with
 |some cs=>(match zBh (zIF P t) cs parts with|some cs'=>K (.agg cs')|none=>False)
 |none=>False
def zCM(t:dg)(parts:db (Nat×V))(K:V->Prop):Prop:=zEn P t parts K\/zIf P t parts K
def zp:db V->db V
 |[]=>[]
 |x::xs=>x.flat++zp xs
def kC:Nat->db (Nat×V)->dd
 |_,[]=>true
 |n,(i,_)::r=>i==n&&kC (n+1) r
def qL(sz:Nat)(es:db V):Prop:=∀x∈es,x.size=sz
def xA(L:Pol)(c:da Nat)(st:S)(t:dg)(n:Nat)(parts:db (Nat×V))(K:V->S->Prop):Prop:=
 match elT P t with
 |none=>False
 |some el=>
  let es:=parts.map λp=>p.2.untag
  hasT P el=true/\(xU P el).isSome=true/\((xU P el).map List.length=some (P.cellsOf el))/\n*P.cellsOf el<=2 ^ 24/\n<=maxLen/\parts.length=n/\kC 0 parts=true/\qL (P.cellsOf el) es/\(parts.all λp=>p.2.flat.all V.isOne)=true /\
  (if(c.map L.wr).getD false=true then
   zM (zp (parts.map (·.2)))/\∀b,look st.box b=none->K (.at (.slice (some ⟨b,0,none⟩) n n)) ⟨lay st.box b (zp (parts.map (·.2)),n*P.cellsOf el),st.tg,st.nx,st.ob⟩
  else if(c.map L.own).getD false=true then
   K (.lst (.own st.nx false (P.cellsOf el)) es) ⟨st.box,st.nx::st.tg,st.nx+1,st.ob⟩
  else K (.lst .no es) st)
def aLen(t:dg)(x:V)(K:V->Prop):Prop:=
 match x with
 |.lst _ es=>(elT P t).isSome=true/\K (.at (.int .i64 (es.length:Int)))
 |.at (.slice _ n _)=>(elT P t).isSome=true/\K (.at (.int .i64 (n:Int)))
 |.at (.string s)=>zBj P t=true/\K (.at (.int .i64 (s.size:Int)))
 |_=>False
def aMax:V->V->(V->Prop)->Prop
 |.at (.int k x),.at (.int _ y),K=>K (.at (.int k (if y > x then y else x)))
 |_,_,_=>False
def qz(L:Pol)(d:da Nat)(st:S)(t i:dg)(s x:V)(K:V->S->Prop):Prop:=
 match elT P t,x with
 |some el,.lst _ ys=>
  i=t/\hasT P el=true/\((xU P el).map List.length=some (P.cellsOf el))/\0<P.cellsOf el/\qL (P.cellsOf el) ys /\
  (match s with
   |.lst .nil []=>ys.length*P.bytesOf el<=140737488355328/\ys.length<=maxLen /\
    (if(d.map L.wr).getD false=true then
     ys≠[]/\zM (zp ys)/\∀b cap,look st.box b=none->ys.length<=cap->K (.at (.slice (some ⟨b,0,none⟩) ys.length cap)) ⟨lay st.box b (zp ys,cap*P.cellsOf el),st.tg,st.nx,st.ob⟩
    else K (.lst (.own st.nx true (P.cellsOf el)) ys) ⟨st.box,st.nx::st.tg,st.nx+1,st.ob⟩)
   |.lst (.own g j sz) es=>g∈st.tg/\sz=P.cellsOf el/\(es.length+ys.length)*P.bytesOf el<=140737488355328/\es.length+ys.length<=maxLen /\
    K (.lst (.own st.nx j sz) (es++ys)) ⟨st.box,st.nx::st.tg.erase g,st.nx+1,st.ob⟩
   |.at (.slice (some ⟨b,0,none⟩) len cap)=>
    (match look st.box b with
     |some (cs,k)=>(d.map L.wr).getD false=true/\k=cap*P.cellsOf el/\len<=cap/\len*P.cellsOf el<=cs.length/\(len+ys.length)*P.bytesOf el<=140737488355328/\len+ys.length<=maxLen/\zM (zp ys) /\
      ∀f c,look (wipe st.box b) f=none->len+ys.length<=c ->
       K (.at (.slice (some ⟨f,0,none⟩) (len+ys.length) c)) ⟨lay (wipe st.box b) f (cs.take (len*P.cellsOf el)++zp ys,c*P.cellsOf el),st.tg,st.nx,st.ob⟩
     |none=>False)
   |_=>False)
 |some el,.at (.slice (some ⟨bs,0,none⟩) m _)=>
  i=t/\hasT P el=true/\((xU P el).map List.length=some (P.cellsOf el))/\0<P.cellsOf el/\(d.map L.wr).getD false=true /\
  (match look st.box bs with
   |none=>False
   |some (h,_)=>m*P.cellsOf el<=h.length /\
    (match s with
     |.lst .nil []=>m*P.bytesOf el<=140737488355328/\m<=maxLen/\m≠0 /\
      ∀b cap,look st.box b=none->m<=cap->K (.at (.slice (some ⟨b,0,none⟩) m cap)) ⟨lay st.box b (h.take (m*P.cellsOf el),cap*P.cellsOf el),st.tg,st.nx,st.ob⟩
     |.at (.slice (some ⟨b,0,none⟩) len cap)=>
      (match look st.box b with
       |some (cs,k)=>k=cap*P.cellsOf el/\len<=cap/\len*P.cellsOf el<=cs.length/\(len+m)*P.bytesOf el<=140737488355328/\len+m<=maxLen /\
        ∀f c,look (wipe st.box b) f=none->len+m<=c ->
         K (.at (.slice (some ⟨f,0,none⟩) (len+m) c)) ⟨lay (wipe st.box b) f (cs.take (len*P.cellsOf el)++h.take (m*P.cellsOf el),c*P.cellsOf el),st.tg,st.nx,st.ob⟩
       |none=>False)
     |_=>False))
 |_,_=>False
def zGh:Tag->db V->Tag
 |.own _ b _,es=>if b then zx es else .no
 |t,_=>t
def jz(x:da V)(d:Int)(K:Int->Prop):Prop:=
 match x with
 |none=>K d
 |some (.at (.int _ n))=>K n
 |_=>False
def ja(t:dg)(x:V)(lo hi:da V)(K:V->Prop):Prop:=
 match x with
 |.lst tg es=>
  (match elT P t with
   |none=>False
   |some el=>hasT P el=true/\(es=[]\/∀x∈es.take 1,x.size=P.cellsOf el) /\
    jz lo 0 λl=>jz hi es.length λh=>(0<=l/\l<=h/\h<=(es.length:Int))/\K (.lst (zGh tg es) ((es.take h.toNat).drop l.toNat)))
 |.at (.slice (some ⟨b,o,none⟩) len cap)=>
  (match elT P t with
   |none=>False
   |some el=>hasT P el=true/\jz lo 0 λl=>jz hi len λh=>(0<=l/\l<=h/\h<=(cap:Int)) /\
    K (.at (.slice (some ⟨b,if(cap:Int)=l then o else o+l.toNat*P.cellsOf el,none⟩) (h.toNat-l.toNat) (cap-l.toNat))))
 |.at (.string s)=>zBj P t=true/\jz lo 0 λl=>jz hi s.size λh=>(0<=l/\l<=h/\h<=(s.size:Int))/\K (.at (.string (s.extract l.toNat h.toNat)))
 |.rptr (.agg fs)=>arrT P t=some fs.length/\zM fs/\fs≠[]/\lo=none/\hi=none/\K (.lst .no fs)
 |_=>False
def qn(x:V)(K:V->Prop):Prop:=
 match x with
 |.rptr y=>K (.rptr y)
 |.at (.pointer (some a))=>K (.at (.pointer (some a)))
 |_=>False
end ops
inductive Outc where
 |ret (r:V)
 |pan (c:List PanicEntry)
def jS(P:di)(f:dt)(args:db V)(r:V):Prop:=
 ∀(d:Nat->Nat)(w:de)(vs:db dh),(∀b,w.heap.size<=b->d b=0)->GlobOk w.heap.size d w->RVs ⟨d,λ_=>none,Fr.no⟩ w args vs ->
  Calls P f vs.toArray w λe w'=>∃v c,e=.returned v/\(∀b,w'.heap.size<=b->c b=0)/\dB w.heap.size ⟨d,λ_=>none,Fr.no⟩ w ⟨c,λ_=>none,Fr.no⟩ w'/\RV ⟨c,λ_=>none,Fr.no⟩ w' r v
def FnC(P:di)(f:dt)(args:db V)(st:S)(Q:Outc->S->Prop):Prop:=
 ∀(B:Nat)(g:Gh)(w:de)(vs:db dh),Inv B g st w->GlobOk B g.wm w->RVs g w args vs ->
  Calls P f vs.toArray w λe w'=>∃g' b,dB B g w g' w'/\Inv B g' b w' /\
   match e with
   |.returned v=>∃r,RV g' w' r v/\Q (.ret r) b
   |.panicked c=>Q (.pan c) b
   |.outgrown=>False
inductive Sub:List V->List V->Prop where
 |nil:Sub [] []
 |keep {x xs ys} (h:Sub xs ys):Sub (x::xs) (x::ys)
 |drop {x xs ys} (h:Sub xs ys):Sub (x::xs) (x.untag::ys)
abbrev _root_.dj:=@PanicEntry
def zC0(P:di)(L:Pol)(h:db Nat)(f:V)(args:db V)(st:S)(K:V->S->Prop)(KP:db dj->S->Prop):Prop:=
 match f with
 |.clo (.func n) caps=>xY P n=true/\(args.all λx=>x.flat.all V.isOne)=true/\zM caps /\
  (if L.pf n=true then caps=[]/\∃r,jS P n (args.map V.untag) r/\K r st
   else if L.rf n=true then∃as r,Sub args as/\FnC P n (as++caps) st (λoc d=>oc=.ret r/\d=st)/\K r st
   else∃as,Sub args as/\FnC P n (as++caps) st λ|.ret r,d=>(∀b∈h,look d.box b=look st.box b)/\K r d|.pan c,d=>KP c d)
 |_=>False
def zAb(P:di)(L:Pol)(c:da Nat)(b:Builtin)(d:dv dg)(args:db V)(st:S)(K:V->S->Prop):Prop:=
 match b,d.toList,args with
 |.len,t::_,[x]=>aLen P t x λv=>K v st
 |.append,[t,f],[s,x]=>qz P L c st t f s x K
 |_,_,_=>False
def zGu:dq->dd
 |.const _=>true
 |_=>false
def zF4(P:di)(t:dg):dd:=match P.underlying t with|some (.interface _)=>true|_=>false
def intT(P:di)(t:dg):da dm:=match P.underlying t with|some (.int k)=>some k|_=>none
def zLz(P:di)(us vs:db dh)(f:Field):dd:=
 hasT P f.type&&!xr P f.type&&(match us[f.offset]?,vs[f.offset]?,P.underlying f.type with
 |some (.int _ _),some (.int _ _),some (.int _)=>true
 |some (.bool _),some (.bool _),some .bool=>true
 |some (.string _),some (.string _),some .string=>true
 |_,_,_=>false)
def zFJ(P:di)(t:dg)(us vs:db dh):dd:=
 (match P.underlying t with|some (.struct fs)=>fs.toList.all (zLz P us vs)|_=>false)&&!P.stoodInHeld t&&!P.eqGuardType P.depth t
def zB3:db dh->db dh->dd
 |u::us,v::vs=>(match u,v with|.int k _,.int b _=>decide (k=b)|_,_=>true)&&zB3 us vs
 |_,_=>true
def zMP:∀{us vs:db dh}{i:Nat}{k b:dm}{n f:Int},zB3 us vs=true->us[i]?=some (.int k n)->vs[i]?=some (.int b f)->k=b
 |[],_,_,_,_,_,_,_,h,_=>by simp at h
 |_::_,[],_,_,_,_,_,_,_,h=>by simp at h
 |u::us,v::vs,0,k,b,n,f,h,c,d=>by
  simp only[zWp,Option.some.injEq]at c d;subst c;subst d;simp only[zB3,zUE,zU7]at h;exact h.1
 |u::us,v::vs,i+1,k,b,n,f,h,c,d=>by
  simp only[zB3,zUE]at h;exact zMP h.2 (by simpa using c) (by simpa using d)
def eqAt:da dh->da dh->dd
 |some (.int _ a),some (.int _ b)=>a==b
 |some (.bool a),some (.bool b)=>a==b
 |some (.string a),some (.string b)=>a.toList==b.toList
 |_,_=>false
def zFA(P:di)(t:dg)(us vs:db dh):dd:=(P.fieldsOf t).toList.all λf=>f.name== "_"||eqAt us[f.offset]? vs[f.offset]?
def zB1(P:di)(b:BinOp)(t:dg)(c:dd):V->V->(V->Prop)->Prop
 |.ifx,.at .nilIface,K=>zF4 P t=true/\kY b false true K
 |.at .nilIface,.at .nilIface,K=>zF4 P t=true/\c=true/\kY b true true K
 |.agg fs,.agg d,K=>∃us vs:db dh,fs=us.map V.at/\d=vs.map V.at/\(zFJ P t us vs=true/\zB3 us vs=true)/\kY b (zFA P t us vs) true K
 |x,y,K=>aBin P b t x y K
def isBytT(P:di)(t:dg):dd:=match elT P t with|some e=>(match P.underlying e with|some (.int .u8)=>true|_=>false)&&hasT P e&&(P.cellsOf e==1)|none=>false
def mapT(P:di)(t:dg):da dg:=match P.underlying t with|some (.map k e)=>(match P.underlying k with|some .string=>some e|_=>none)|_=>none
def outV(c:dd)(v:V)(b:dd):V:=if c=true then .tup [v,.at (.bool b)]else v
def zAO(P:di)(st:S)(t:dg)(x i:V)(c:dd)(K:V->Prop):Prop:=
 match mapT P t,i with
 |some e,.at (.string s)=>
  (match zAk P e with
   |some z=>one z=true /\
    (match x with
     |.at (.map none)=>K (outV c (cV1 z) false)
     |.at (.map (some b))=>(match zE st.ob b with
      |some (.mp o,_)=>(match mget o s with|some v=>K (outV c v true)|none=>K (outV c (cV1 z) false))
      |_=>False)
     |_=>False)
   |none=>False)
 |_,_=>False
def qd(P:di)(st:S)(t:dg)(x i y:V)(K:S->Prop):Prop:=
 match mapT P t,x,i with
 |some _,.at (.map (some b)),.at (.string s)=>
  (match zE st.ob b with
   |some (.mp o,fp)=>y.flat.all V.isOne=true/\K ⟨st.box,st.tg,st.nx,(b,.mp (mput o s y.untag),fp)::st.ob⟩
   |_=>False)
 |_,_,_=>False
def zHB(st:S)(K:V->S->Prop):Prop:=∀b,zE st.ob b=none->K (.at (.map (some b))) ⟨st.box,st.tg,st.nx,(b,.mp [],[b])::st.ob⟩
def atsV:db V->da (db dh)
 |[]=>some []
 |.at v::r=>(atsV r).map (v::·)
 |_::_=>none
def zOo:V->dd
 |.at _=>true
 |_=>false
def zIO(b:Fn)(first caps:db V)(K:V->Prop):Prop:=
 match b,first with
 |.func n,[]=>caps.all zOo=true/\K (.clo (.func n) caps)
 |_,_=>False
def zE5(P:di)(t:dg)(x:V)(K:V->Prop):Prop:=
 P.concrete t=true/\match x with
 |.at v=>K (.at (.iface t v))
 |.agg fs=>(match atsV fs with|some us=>K (.at (.iface t (.agg us.toArray)))|none=>K .ifx)
 |_=>K .ifx
def resM(P:di)(t:dg)(m:String):da dt:=
 match P.info? t with
 |some i=>(match i.methods.find? (λx=>x.name==m)with
  |some r=>(match r.path.toList with
   |[]=>(match r.func with
    |some (f,b)=>(match P.underlying t with
     |some (.pointer _)=>none
     |some _=>if b=true then none else some f
     |none=>none)
    |none=>none)
   |_::_=>none)
  |none=>none)
 |none=>none
def okV:dh->dd
 |.agg cs=>cs.toList.all one
 |v=>one v
def zMx(P:di)(x:V)(m:String)(args:db V)(st:S)(K:V->S->Prop):Prop:=
 match x with
 |.at (.iface t v)=>(match resM P t m with
  |some f=>xY P f=true/\okV v=true/\(args.all λx=>x.flat.all V.isOne)=true/\∃r,jS P f (cV v::args.map V.untag) r/\K r st
  |none=>False)
 |_=>False
def zIW(x:V)(KP:db dj->Prop):Prop:=
 match x with
 |.at (.iface t v)=>KP [{ v:=.iface t v,recovered:=false }]
 |_=>False
abbrev _root_.dr:=@Oper
def aop(P:di)(L:Pol)(e:Env)(st:S)(o:dr)(K:V->S->Prop)(KP:db dj->S->Prop):Prop:=
 match o.op with
 |.move x=>K (e.ev x) st
 |.assign x=>K (e.ev x) st
 |.pick c a b=>zCT (e.ev c) (e.ev a) (e.ev b) λv=>K v st
 |.binOp h t x y _=>zB1 P h t (zGu y) (e.ev x) (e.ev y) λv=>K v st
 |.unOp h _ x=>aUn h (e.ev x) λv=>K v st
 |.extract x i=>zAd (e.ev x) i λv=>K v st
 |.fieldAddr t x f=>xR P t (e.ev x) f λv=>K v st
 |.indexAddr t x i=>xp P t (e.ev x) (e.ev i) λv=>K v st
 |.index t x i=>zAl P t (e.ev x) (e.ev i) λv=>K v st
 |.load t x=>ldK L x (e.ev x)/\qW P st t (e.ev x) λv=>K v st
 |.store t x y=>stK L x (e.ev x)/\jf P st t (e.ev x) (e.ev y) λd=>K .any d
 |.alloc t=>zAL P st t K
 |.box _ x=>aNew st (e.ev x).flat K
 |.build t parts=>zCM P t (parts.toList.map λp=>(p.1,e.ev p.2)) λv=>K v st
 |.buildSlice t n parts=>xA P L o.dst st t n (parts.toList.map λp=>(p.1,e.ev p.2)) K
 |.nilCheck x=>qn (e.ev x) λv=>K v st
 |.slice t x lo hi j=>j.isNone=true/\ja P t (e.ev x) (lo.map e.ev) (hi.map e.ev) λv=>K v st
 |.call c=>(match c.callee with
  |.value f=>zC0 P L (klb L o.dst) (e.ev f) (c.args.toList.map e.ev) st K KP
  |.builtin b=>zAb P L o.dst b c.argTypes (c.args.toList.map e.ev) st K
  |.invoke _ _=>False)
 |.makeMap _ r=>r.isNone=true/\zHB st K
 |.lookup t x i c=>zAO P st t (e.ev x) (e.ev i) c λv=>K v st
 |.mapUpdate t m k y=>qd P st t (e.ev m) (e.ev k) (e.ev y) λd=>K .any d
 |.makeInterface t x=>zE5 P t (e.ev x) λv=>K v st
 |.makeFunc l first caps=>zIO l (first.toList.map e.ev) (caps.toList.map e.ev) λv=>K v st
 |.panic x=>zIW (e.ev x) λc=>KP c st
 |_=>False
open Go.RowKit
section inv
variable{g:Gh}{w:de}
def yG{v u:dh}(h:RV g w (.at v) u):u=v:=by
 obtain⟨us,b,c⟩:=h;simp only[RC]at b;rw[c,b.1];rfl
def zPV{v u:dh}(h:RV g w (.at v) u):one v=true:=by
 obtain⟨us,b,c⟩:=h;simp only[RC]at b;exact b.2
def yY{v:dh}(h:one v=true):RV g w (.at v) v:=⟨[v],by simp[RC,h],rfl⟩
def zCj{fs:db V}{u:dh}(h:RV g w (.agg fs) u):∃us,RCs g w fs us/\u=.agg us.toArray:=by
 obtain⟨us,b,c⟩:=h;exact⟨us,by simpa only[RC]using b,c⟩
def zDw{fs:db V}{us:db dh}(h:RCs g w fs us):RV g w (.agg fs) (.agg us.toArray):=⟨us,by simpa only[RC]using h,rfl⟩
def zBl{tg:Tag}{es:db V}{u:dh}(h:RV g w (.lst tg es) u):RC g w (.lst tg es) [u]:=by
 obtain⟨us,c,f⟩:=h;have d:=c;simp only[RC]at c;rcases c with⟨_,e,_⟩|⟨b,o,cap,ds,e,_⟩<;>(subst e;rw[f];exact d)
def qg{tg:Tag}{es:db V}{u:dh}(h:RC g w (.lst tg es) [u]):RV g w (.lst tg es) u:=⟨[u],h,rfl⟩
def zDF{x:V}{u:dh}(h:RV g w (.rptr x) u):∃b o ds,u=.pointer (some ⟨b,o,none⟩)/\RC g.bare w x ds/\At g w b o ds:=by
 obtain⟨us,c,d⟩:=h;simp only[RC]at c;obtain⟨b,o,ds,rfl,f,i⟩:=c;exact⟨b,o,ds,d,f,i⟩
def zA1{x:V}{b o:Nat}{ds:db dh}(h:RC g.bare w x ds)(c:At g w b o ds):RV g w (.rptr x) (.pointer (some ⟨b,o,none⟩)):=
 ⟨[.pointer (some ⟨b,o,none⟩)],by simp only[RC];exact⟨b,o,ds,rfl,h,c⟩,rfl⟩
def zQB{b:Fn}{caps:db V}{u:dh}(h:RV g w (.clo b caps) u):∃ds,RCs g.bare w caps ds/\u=.func b #[] ds.toArray:=by
 obtain⟨us,c,d⟩:=h;simp only[RC]at c;obtain⟨ds,f,rfl⟩:=c;exact⟨ds,f,d⟩
def zHQ{x:V}{us:db dh}(h:RC g w x us):RV g w x (pack x us):=RV.of_RV1 ⟨us,h,rfl⟩
def zDi{x:V}(h:x.isOne=true):x.size=1:=by cases x<;>simp[V.isOne]at h<;>simp[V.size]
def xZ:∀{fs:db V},zM fs->jh fs=fs.length
 |[],_=>rfl
 |x::xs,h=>by
  simp only[zM,zUd,zUE]at h;simp[jh,zDi h.1,xZ (fs:=xs) h.2];omega
def zCc{x:V}{us:db dh}(h:RC g w x us)(b:x.isOne=true):∃u,us=[u]:=by
 have:=qh g w x us h;rw[zDi b]at this
 match us,this with
 |[u],_=>exact⟨u,rfl⟩
def xV:∀{fs:db V}{us:db dh}(_:zM fs)(_:RCs g w fs us)(n:Nat),RCs g w (fs.take n) (us.take n)/\RCs g w (fs.drop n) (us.drop n)
 |[],us,_,h,n=>by simp only[RCs]at h;subst h;simp[RCs]
 |x::xs,us,b,h,n=>by
  simp only[zM,zUd,zUE]at b;simp only[RCs]at h;obtain⟨i,c,rfl,d,f⟩:=h;obtain⟨u,rfl⟩:=zCc d b.1;cases n with
  |zero=>simp only[zUl,zUf];exact⟨by simp[RCs],by simp only[RCs];exact⟨[u],c,rfl,d,f⟩⟩
  |succ n=>
   obtain⟨k1,k2⟩:=xV (fs:=xs) (us:=c) b.2 f n;simp only[zUS,zUX,zUO,zUQ];exact⟨by simp only[RCs];exact⟨[u],c.take n,rfl,d,k1⟩,k2⟩
def jj:∀{fs b:db V}{us vs:db dh},RCs g w fs us->RCs g w b vs->RCs g w (fs++b) (us++vs)
 |[],b,us,vs,h,c=>by simp only[RCs]at h;subst h;exact c
 |x::xs,b,us,vs,h,c=>by
  simp only[RCs]at h;obtain⟨d,f,rfl,i,j⟩:=h;simp only[zUO,RCs];exact⟨d,f++vs,dQ,i,jj j c⟩
def zNa{fs:db V}{us:db dh}(d:zM fs)(h:RCs g w fs us)(i:Nat)(hi:i<fs.length):∃u,us[i]?=some u/\RC g w (fs.getD i .any) [u]:=by
 have c:=(xV d h i).2;rw[zVF hi]at c;simp only[RCs]at c;obtain⟨j,k,e,f,_⟩:=c;have b:(fs[i]).isOne=true:=by
  have:=zUb.1 d (fs[i]) (zUv hi);exact this
 obtain⟨u,rfl⟩:=zCc f b;refine⟨u,?_,?_⟩
 .have:=zU1 (λl=>l[0]?) e;simpa using this
 .simpa [hi]using f
def zL7{sz:Nat}:∀{es:db V}{ds:db dh},(∀x∈es,x.size=sz)->RCs g w es ds->∀(n:Nat),n<es.length->RC g w (es.getD n .any) ((ds.drop (n*sz)).take sz)
 |[],ds,_,_,n,d=>by simp at d
 |x::xs,ds,i,h,n,d=>by
  simp only[RCs]at h;obtain⟨b,c,rfl,j,k⟩:=h;have f:=qh g w x b j;rw[i x dQ]at f;cases n with
  |zero=>
   have:(List.drop (0*sz) (b++c)).take sz=b:=by rw[zWa,zUf,<-f];exact zWs
   rw[this];simpa using j
  |succ n=>
   have:=zL7 (es:=xs) (ds:=c) (λy l=>i y (by simp[l])) k n (by simpa using d);have e:List.drop ((n+1)*sz) (b++c)=c.drop (n*sz):=by
    rw[zVP,zVz,zWm,<-f,<-zWt,List.drop_left]
   rw[e];simpa using this
def At.sub{b o:Nat}{us:db dh}(h:At g w b o us)(n m:Nat):At g w b (o+n) ((us.drop n).take m):=by
 intro k u c;rw[zU6]at c;split at c
 .rw[zV1]at c;have:=h (n+k) u c;rw[zWJ];exact this
 .cases c
def zFn{x:V}{us:db dh}(h:RC g w x us):RC g w (xB x) us:=by
 unfold xB;split
 .rename_i t f s es;simp only[RC]at h ⊢;rcases h with⟨rfl,c,i⟩|⟨b,o,cap,ds,c,j,k,l,m,n⟩
  .refine .inl ⟨rfl,c,?_⟩;obtain⟨_,rfl⟩:=i;simp[zx,zGs]
  .refine .inr ⟨b,o,cap,ds,c,j,?_,l,?_,n⟩
   .cases f with
    |false=>simp[zFa]
    |true=>
     have d:=k.2.2 rfl;have:es.isEmpty=false:=by cases es<;>simp at d ⊢
     simp[zx,this,zFa]
   .obtain⟨sz,p,r⟩:=m;refine⟨sz,p,λu q s' e=>?_⟩;cases f<;>simp[zx]at e
    split at e<;>cases e
 .exact h
def zIM:∀{xs:db V}{us:db dh},RCs g w xs us->RCs g w (xs.map xB) us
 |[],us,h=>h
 |x::xs,us,h=>by
  simp only[RCs,zUC]at h ⊢;obtain⟨b,c,rfl,d,f⟩:=h;exact⟨b,c,rfl,zFn d,zIM f⟩
def zRj{x:V}{us:db dh}(h:RC g w x us):RC g w x.untag us:=by
 unfold V.untag;split
 .simp only[RC]at h ⊢;exact zIM h
 .exact zFn h
def zAz{x:V}{us:db dh}(h:RC g w x us)(j:x.isOne=true):RC g.bare w (xB x) us:=by
 have c:=zFn h;cases x with
 |any=>simp[V.isOne]at j
 |agg fs=>simp[V.isOne]at j
 |tup vs=>simp[V.isOne]at j
 |rptr x=>simp only[xB,RC]at c ⊢;exact c
 |ifx=>simp only[xB,RC]at c ⊢;exact c
 |clo y caps=>simp only[xB,RC]at c ⊢;exact c
 |lst tg es=>
  have d:∀tg',(∀t f s,tg'≠.own t f s)->RC g w (.lst tg' es) us->RC g.bare w (.lst tg' es) us:=by
   intro tg' i h;simp only[RC]at h ⊢;rcases h with⟨n,k,l⟩|⟨b,o,cap,ds,k,p,m,q,r,u⟩
   .refine .inl ⟨n,k,?_⟩;cases tg' with
    |nil=>exact l
    |no=>exact l
    |own t f s=>exact absurd rfl (i t f s)
   .refine .inr ⟨b,o,cap,ds,k,p,?_,q,r,u⟩;cases tg' with
    |nil=>exact m
    |no=>exact m
    |own t f s=>exact absurd rfl (i t f s)
  cases tg with
  |nil=>exact d _ (λ_ _ _ e=>fb) c
  |no=>exact d _ (λ_ _ _ e=>fb) c
  |own t f s=>
   simp only[xB]at c ⊢;refine d _ (λz v s' e=>?_) c;cases f<;>simp[zx]at e
   split at e<;>cases e
 |_=>simpa [RC,xB]using c
def zD2:∀{xs:db V}{us:db dh},RCs g w xs us->zM xs->RCs g.bare w (xs.map xB) us
 |[],us,h,_=>h
 |x::xs,us,h,b=>by
  simp only[zM,zUd,zUE]at b;simp only[RCs,zUC]at h ⊢;obtain⟨c,d,rfl,f,i⟩:=h;exact⟨c,d,rfl,zAz f b.1,zD2 i b.2⟩
def zBJ{x:V}{us:db dh}(h:RC g w x us)(b:zM x.flat):RC g.bare w x.untag us:=by
 cases x with
 |agg fs=>simp only[RC,V.untag]at h ⊢;exact zD2 h b
 |any=>simp[RC]at h
 |tup vs=>simp[RC]at h
 |_=>exact zAz h rfl
def zCz(x:V)(us:db dh):pack x.untag us=pack x us:=by
 cases x<;>simp only[V.untag,xB,pack]
 rename_i tg es;cases tg<;>simp[xB,pack]
def RV1.untag{x:V}{u:dh}(h:RV1 g w x u):RV1 g w x.untag u:=by
 obtain⟨us,b,c⟩:=h;exact⟨us,zRj b,by rw[zCz];exact c⟩
def zRd{x:V}{u:dh}(h:RV g w x u)(b:x≠.any)(c:∀vs,x≠.tup vs):RV1 g w x u:=by
 cases x with
 |any=>exact absurd rfl b
 |tup vs=>exact absurd rfl (c vs)
 |_=>exact h
end inv
section runs
variable{P:di}
def zFz{t:dg}(h:hasT P t=true):∃i,P.info? t=some i/\i.size=P.cellsOf t/\i.bytes=P.bytesOf t/\i.zero=zAk P t:=by
 simp only[hasT,zUE,zVw]at h;obtain⟨⟨i,hi⟩,_⟩:=h;exact⟨i,hi,by simp[Program.cellsOf,hi],by simp[Program.bytesOf,hi],by simp[zAk,hi]⟩
def xT{t:dg}(h:hasT P t=true)(w:de):(sizeOf t).run P w=.ok (P.cellsOf t) w:=by
 obtain⟨i,hi,b,_⟩:=zFz h;simp[sizeOf,typeInfo,hi,b]
def zE0{t:dg}(h:hasT P t=true)(w:de):(isAgg t).run P w=.ok (xr P t) w:=by
 simp only[hasT,zUE,zVw]at h;obtain⟨_,⟨d,b⟩⟩:=h;simp only[isAgg,Sem.run_bind,run_underlying b,Result.andThen_ok,xr,b];cases d<;>rfl
def zJK{t:dg}{n:Nat}(h:arrT P t=some n):∃e,P.underlying t=some (.array n e)/\hasT P e=true/\P.cellsOf e=1/\xr P e=false:=by
 unfold arrT at h;split at h
 .rename_i m e b;split at h
  .rename_i c;injection h with h
   subst h;exact⟨e,b,c⟩
  .cases h
 .cases h
def kU{t el:dg}(h:elT P t=some el):P.underlying t=some (.slice el):=by
 unfold elT at h;split at h
 .rename_i e;rw[e];injection h with h;rw[h]
 .cases h
def jJ(b o n:Nat):(⟨b,o,none⟩:Addr).add n=⟨b,o+n,none⟩:=by unfold Addr.add;split<;>simp_all
def zDY{g:Gh}{w:de}{t:dg}{x:V}{b o:Nat}{ds:db dh}(q:fits P t x)(r:RC g w x ds)(l:∀(k:Nat) u,ds[k]?=some u->w.cell? ⟨b,o+k,none⟩=some u) :
 (loadVar t ⟨b,o,none⟩).run P w=.ok (pack x ds) w:=by
 obtain⟨m,n,d⟩:=q;have f:=qh g w x ds r;simp only[loadVar,Sem.run_bind,zE0 m,Result.andThen_ok];cases c:x.isAgg with
 |true=>
  rw[c]at d;rw[<-d];cases x<;>simp[V.isAgg]at c
  rename_i fs;have h:(loadCells ⟨b,o,none⟩ ds.length).run P w=.ok ds.toArray w:=
   run_loadCells_list (P:=P) w ⟨b,o,none⟩ ds (λj v s=>by rw[jJ];exact l j v s)
  rw[<-f]at n;simp only[zUM,Sem.run_bind,xT m,Result.andThen_ok,<-n,h];rfl
 |false=>
  rw[c]at d;rw[<-d];simp only[zUN,zUK];have i:x.size=1:=by
   cases x<;>simp[V.isAgg]at c<;>simp[V.size]
  rw[i]at f
  match ds,f with
  |[u],_=>
   have p:=l 0 u dQ;have y:pack x [u]=u:=by cases x<;>simp[V.isAgg]at c<;>rfl
   rw[y];simp only[zVE]at p;simp[load,Sem.run,p]
def zIj{g:Gh}{w:de}{t:dg}{fs:db V}{b:Nat}{us:db dh}(i:zM fs)(n:z7 P t fs b)(h:RCs g w fs us) :
 RC g w (yA P t fs b) ((us.drop b).take (P.cellsOf t))/\(yA P t fs b).isAgg=xr P t/\(yA P t fs b).size=P.cellsOf t:=by
 obtain⟨z,A,p⟩:=n;have q:=yc g w fs us h;rw[xZ i]at q;unfold yA;cases r:xr P t with
 |true=>
  simp only[zUM];have f:zM (fs.drop b):=by
   unfold zM at i ⊢;rw[zUb]at i ⊢;exact λx l=>i x (zVp l)
  have s:=(xV f (xV i h b).2 (P.cellsOf t)).1;have j:zM ((fs.drop b).take (P.cellsOf t)):=by
   unfold zM at f ⊢;rw[zUb]at f ⊢;exact λx l=>f x (zVG l)
  refine⟨by simp only[RC];exact s,rfl,?_⟩;simp only[V.size];rw[xZ j];simp;omega
 |false=>
  simp only[zUN,zUK];have m:=p r;obtain⟨u,k,v⟩:=zNa i h b dM;have c:(fs.getD b .any).isOne=true:=by
   have d:b<fs.length:=dM
   have:=zUb.1 i (fs[b]) (zUv d);simpa [d]using this
  refine⟨?_,?_,?_⟩
  .rw[m];have:(us.drop b).take 1=[u]:=by
    have d:b<us.length:=dM
    rw[zVF d];simp only[zUS,zUl];rw[zUj d]at k;injection k with k
    rw[k]
   rw[this];exact v
  .cases y:fs.getD b .any<;>rw[y]at c<;>simp[V.isOne]at c<;>rfl
  .rw[zDi c,m]
end runs
open Go.RowKit
def zID(X:Cx)(g:Gh)(w:de)(o:dr)(a:Act)(K:V->S->Prop):Act->de->Prop:=
 λc w'=>∃u v g' b,c=a.put o.dst u/\Out X.B g w g' b w'/\RV g' w' v u/\K v b
def zIK(X:Cx)(g:Gh)(w:de)(a:Act)(KP:db dj->S->Prop):dA->Act->de->Prop:=
 λd f w'=>∃c g' b,d=.panic c/\f=a/\Out X.B g w g' b w'/\KP c b
section
variable{P:di}{X:Cx}{g:Gh}{w:de}{a:Act}{o:dr}{st:S}{K:V->S->Prop}{KP:db dj->S->Prop}
def zAS{w':de}{u:dh}{Q:dA->Act->de->Prop}{K:Act->de->Prop}(h:(execOp a.eval o).run P w=.ok (.value u) w')(b:K (a.put o.dst u) w'):o.wp P a w K Q:=by
 unfold Oper.wp Oper.upon;rw[h];exact b
def zIB{w':de}{Q:dA->Act->de->Prop}{K:Act->de->Prop}(h:(execOp a.eval o).run P w=.ok .skip w')(b:K (a.put o.dst undef) w'):o.wp P a w K Q:=by
 unfold Oper.wp Oper.upon;rw[h];exact b
def qS(hi:Inv X.B g st w){u:dh}{v:V}(h:(execOp a.eval o).run P w=.ok (.value u) w)(b:RV g w v u)(c:K v st):o.wp P a w (zID X g w o a K) (zIK X g w a KP):=
 zAS h ⟨u,v,g,st,rfl,.refl hi,b,c⟩
def kO{s:Sem dh}{u:dh}{w':de}(h:s.run P w=.ok u w'):((do pure (Next.value (<-s))):Sem Next).run P w=.ok (.value u) w':=by
 simp[Sem.run_bind,h]
abbrev _root_.dc:=@Unit
def run_u{s:Sem dc}{w':de}(h:s.run P w=.ok () w'):((do s;pure Next.skip):Sem Next).run P w=.ok .skip w':=by
 simp[Sem.run_bind,h]
def zN0{c x y:V}{K:V->Prop}(h:zCT c x y K){b d f:dh}(i:RV g w c b)(j:RV g w x d)(k:RV g w y f) :
 ∃v t,K v/\b=.bool t/\RV g w v (if t then d else f):=by
 unfold zCT at h;split at h
 .rename_i t;refine⟨_,t,h,yG i,?_⟩;cases t<;>simpa
 .cases h
def zOr{b:BinOp}{k c:dm}{x y:Int}{K:V->Prop}(i:k=c\/b=.shl\/b=.shr)(h:aInt b k x y K):∃v,K (.at v)/\one v=true/\(Go.binOp b 0 (.int k x) (.int c y)).run P w=.ok v w/\(∀t,Go.binOp b t (.int k x) (.int c y)=Go.binOp b 0 (.int k x) (.int c y)):=by
 have d:¬(b=.shl\/b=.shr)->k=c:=λj=>by
  rcases i with h|h
  .exact h
  .exact absurd h j
 cases b<;>simp only[aInt]at h
 case shl=>exact⟨_,h.2,rfl,by have f:¬y<0:=dM;simp[Go.binOp,Op.shift,f,ishl],λ_=>rfl⟩
 case shr=>exact⟨_,h.2,rfl,by have f:¬y<0:=dM;simp[Go.binOp,Op.shift,f,ishr],λ_=>rfl⟩
 all_goals obtain rfl:=d dQ
 case quo=>exact⟨_,h.2,rfl,by simp[Go.binOp,Op.intDiv,h.1],λ_=>rfl⟩
 case rem=>exact⟨_,h.2,rfl,by simp[Go.binOp,Op.intDiv,h.1],λ_=>rfl⟩
 case and=>exact⟨_,h,rfl,by simp[Go.binOp,Op.intBits,iand,ibit],λ_=>rfl⟩
 case or=>exact⟨_,h,rfl,by simp[Go.binOp,Op.intBits,ior,ibit],λ_=>rfl⟩
 case xor=>exact⟨_,h,rfl,by simp[Go.binOp,Op.intBits,ixor,ibit],λ_=>rfl⟩
 case andNot=>exact⟨_,h,rfl,by simp[Go.binOp,Op.intBits,zNx,ibit],λ_=>rfl⟩
 all_goals exact⟨_,h,rfl,by simp[Go.binOp,Op.intArith,Op.intCmp],λ_=>rfl⟩
def zO4{b:BinOp}{x y:dk}{K:V->Prop}(h:aStr b x y K)(t:dg):∃v,K (.at v)/\one v=true/\(Go.binOp b t (.string x) (.string y)).run P w=.ok v w:=by
 cases b<;>simp only[aStr]at h
 case add=>
  refine⟨_,h.2,rfl,?_⟩;have:¬(((x.size+y.size:Nat):Int) > IntKind.i64.max):=by have:=h.1;omega
  simp only[Go.binOp,Op.stringOp,if_neg this];rfl
 all_goals exact⟨_,h,rfl,by simp[Go.binOp,Op.stringOp]⟩
def qT{b:BinOp}{t:dg}{x y:dq}{u v:dh}(h:u≠.nilIface)(c:one u=true):(eqGuard b t x y u v).run P w=.ok () w:=by
 cases u<;>first|exact absurd rfl h|(simp[one]at c;done)|skip
 all_goals
  unfold eqGuard;cases b<;>simp
def zKt{t:dg}(h:zGt P t=true):P.underlying t=some .bool:=by
 unfold zGt at h;split at h
 .rename_i e;exact e
 .cases h
def zEG{t:dg}(h:zBj P t=true):P.underlying t=some .string:=by
 unfold zBj at h;split at h
 .rename_i e;exact e
 .cases h
def zEX{t:dg}(b:P.underlying t=some .bool)(p q:dd)(w:de):(Op.equal t (.bool p) (.bool q)).run P w=.ok (p==q) w:=by
 show(Op.equalIn (9999+1) t (.bool p) (.bool q)).run P w=_;generalize 9999=d;unfold Op.equalIn;simp only[Sem.run_bind,run_underlying b,Result.andThen_ok,Sem.run_pure]
def zFf{t el:dg}(f:P.underlying t=some (.slice el))(b:da Addr)(n c:Nat)(w:de):(Op.equal t (.slice b n c) (.slice none 0 0)).run P w=.ok b.isNone w:=by
 show(Op.equalIn (9999+1) t (.slice b n c) (.slice none 0 0)).run P w=_;generalize 9999=d;unfold Op.equalIn;cases b<;>simp only[Sem.run_bind,run_underlying f,Result.andThen_ok,Sem.run_pure,Option.isNone]
def zAy{b:BinOp}{x y:dd}{K:V->Prop}(h:kY b x y K):(b=.eql/\K (.at (.bool (x==y))))\/(b=.neq/\K (.at (.bool (!(x==y))))):=by
 cases b<;>simp only[kY]at h
 .exact .inl ⟨rfl,h⟩
 .exact .inr ⟨rfl,h⟩
def zQO{tg:Tag}{es:db V}{u:dh}(h:RC g w (.lst tg es) [u]):∃f n c,u=.slice f n c/\f.isNone=nilB tg es:=by
 simp only[RC]at h;rcases h with⟨rfl,d,i⟩|⟨b,o,cap,ds,d,l,j,m,p,q⟩
 .injection d with d _
  refine⟨none,0,0,d,?_⟩;cases tg with
  |nil=>rfl
  |no=>exact i.elim
  |own t k s=>obtain⟨_,rfl⟩:=i;rfl
 .injection d with d _
  refine⟨some _,_,_,d,?_⟩;cases tg with
  |nil=>exact j.elim
  |no=>rfl
  |own t k s=>
   cases k with
   |false=>rfl
   |true=>have:=j.2.2 rfl;cases es<;>simp at this ⊢;simp[nilB]
def zOy{u:BinOp}{t:dg}{x y:V}{K:V->Prop}(h:aBin P u t x y K){z s:dh}(l:RV g w x z)(m:RV g w y s)(ox oy:dq) :
 ∃v,K (.at v)/\one v=true/\((do eqGuard u t ox oy z s;Go.binOp u t z s):Sem dh).run P w=.ok v w:=by
 unfold aBin at h;split at h
 .rename_i k p J q;obtain⟨F,h⟩:=h;have i:=yG l;have f:=yG m;subst i;subst f;obtain⟨v,A,B,C,G⟩:=zOr (P:=P) (w:=w) F h;exact⟨v,A,B,by rw[Sem.run_bind,qT dQ rfl,Result.andThen_ok,G t,C]⟩
 .obtain⟨H,h⟩:=h;have i:=yG l;have f:=yG m;subst i;subst f;have d:=zKt H;rcases zAy h with⟨rfl,h⟩|⟨rfl,h⟩
  .exact⟨_,h,rfl,by rw[Sem.run_bind,qT dQ rfl,Result.andThen_ok];simp only[Go.binOp,Sem.run_bind,zEX d,Result.andThen_ok,Sem.run_pure]⟩
  .exact⟨_,h,rfl,by rw[Sem.run_bind,qT dQ rfl,Result.andThen_ok];simp only[Go.binOp,Sem.run_bind,zEX d,Result.andThen_ok,Sem.run_pure]⟩
 .have i:=yG l;have f:=yG m;subst i;subst f;obtain⟨v,A,B,C⟩:=zO4 (P:=P) (w:=w) h t;exact⟨v,A,B,by rw[Sem.run_bind,qT dQ rfl,Result.andThen_ok,C]⟩
 .rename_i tg es;obtain⟨j,h⟩:=h;obtain⟨el,j⟩:=zVw.1 j;have d:=kU j;obtain⟨L,n,c,rfl,E⟩:=zQO (zBl l);have r:=zBl m;simp only[RC]at r;have f:s=.slice none 0 0:=by
   rcases r with⟨_,d,_⟩|⟨b,o,cap,ds,_,_,I,_⟩
   .injection d
   .exact I.elim
  subst f;rcases zAy h with⟨rfl,h⟩|⟨rfl,h⟩
  .refine⟨_,h,rfl,?_⟩;rw[Sem.run_bind,qT dQ rfl,Result.andThen_ok];simp only[Go.binOp,Sem.run_bind,zFf d,Result.andThen_ok,Sem.run_pure,E];cases nilB tg es<;>rfl
  .refine⟨_,h,rfl,?_⟩;rw[Sem.run_bind,qT dQ rfl,Result.andThen_ok];simp only[Go.binOp,Sem.run_bind,zFf d,Result.andThen_ok,Sem.run_pure,E];cases nilB tg es<;>rfl
 .rename_i p;obtain⟨D,h⟩:=h;have i:=yG l;have f:=yG m;subst i;subst f;have d:P.underlying t=some (.pointer (P.pointee t)):=by
   unfold zGQ at D;unfold Program.pointee;split at D
   .rename_i e;rw[e]
   .cases D
  rcases zAy h with⟨rfl,h⟩|⟨rfl,h⟩
  .exact⟨_,h,rfl,by rw[Sem.run_bind,qT dQ rfl,Result.andThen_ok,run_eql_pointer_nil w t p d];simp⟩
  .exact⟨_,h,rfl,by rw[Sem.run_bind,qT dQ rfl,Result.andThen_ok,run_neq_pointer_nil w t p d];simp⟩
 .cases h
def zG3{t:dg}(h:zF4 P t=true):∃ms,P.underlying t=some (.interface ms):=by
 unfold zF4 at h;split at h
 .rename_i e;exact⟨_,e⟩
 .cases h
def zFh{t b:dg}{p:dh}{ms}(c:P.underlying t=some (.interface ms))(w:de):(Op.equal t (.iface b p) .nilIface).run P w=.ok false w:=by
 show(Op.equalIn (9999+1) t (.iface b p) .nilIface).run P w=_;generalize 9999=d;unfold Op.equalIn;simp only[Sem.run_bind,run_underlying c,Result.andThen_ok,Sem.run_pure]
def zDm{t:dg}{ms}(b:P.underlying t=some (.interface ms))(w:de):(Op.equal t .nilIface .nilIface).run P w=.ok true w:=by
 show(Op.equalIn (9999+1) t .nilIface .nilIface).run P w=_;generalize 9999=d;unfold Op.equalIn;simp only[Sem.run_bind,run_underlying b,Result.andThen_ok,Sem.run_pure]
def zGz{b:BinOp}{t:dg}{x y:dq}(h:zGu y=true):(eqGuard b t x y .nilIface .nilIface).run P w=.ok () w:=by
 cases y<;>first|cases h|skip
 unfold eqGuard;cases b<;>simp
def RV_ifx{u:dh}(h:RV g w .ifx u):∃t p,u=.iface t p:=by
 obtain⟨us,b,c⟩:=h;simp only[RC]at b;obtain⟨t,p,rfl⟩:=b;exact⟨t,p,c⟩
def zHU:∀{us vs:db dh},RCs g w (us.map V.at) vs->vs=us
 |[],vs,h=>by simpa [RCs]using h
 |u::r,vs,h=>by
  simp only[zUC,RCs]at h;obtain⟨d,f,rfl,b,c⟩:=h;simp only[RC]at b;rw[b.1,zHU c];rfl
def zGT{us vs:db dh}(q:zB3 us vs=true)(d:Nat):∀(fs:db Field),fs.all (zLz P us vs)=true->(Op.eqFields (d+1) us.toArray vs.toArray fs).run P w=.ok (fs.all λf=>f.name== "_"||eqAt us[f.offset]? vs[f.offset]?) w
 |[],_=>by simp[Op.eqFields]
 |f::fs,h=>by
  simp only[zUd,zUE]at h;obtain⟨p,x⟩:=h;have r:=zGT (us:=us) (vs:=vs) q d fs x;unfold zLz at p;simp only[zUE,zVU]at p;obtain⟨⟨y,z⟩,s⟩:=p;have t:∀(us:db dh) u,us[f.offset]?=some u->(part f.type us.toArray f.offset).run P w=.ok u w:=λus u c=>by
   unfold part;simp only[Sem.run_bind,zE0 y,Result.andThen_ok,z];simp[c]
  have j:∀u v,us[f.offset]?=some u->vs[f.offset]?=some v->(Op.equalIn (d+1) f.type u v).run P w=.ok (eqAt us[f.offset]? vs[f.offset]?) w->(Op.eqFields (d+1) us.toArray vs.toArray (f::fs)).run P w=.ok ((f::fs).all λf=>f.name== "_"||eqAt us[f.offset]? vs[f.offset]?) w:=λu v c i A=>by
   unfold Op.eqFields;simp only[zUd];split
   .rename_i l;have e0:(f.name== "_")=false:=by simpa using l
    simp only[Sem.run_bind,t us u c,t vs v i,Result.andThen_ok,A,e0,zWg];cases eqAt us[f.offset]? vs[f.offset]?
    .simp
    .simpa using r
   .rename_i l;have e0:(f.name== "_")=true:=by simpa using l
    simpa [e0]using r
  split at s
  .rename_i k n F B k2 c i m;obtain rfl:=zMP q c i;refine j _ _ c i ?_;rw[run_equalIn_int w d f.type k k2 n B m,c,i];rfl
  .rename_i b C c i m;refine j _ _ c i ?_;rw[run_equalIn_bool' w d f.type b C m,c,i];rfl
  .rename_i D E c i m;refine j _ _ c i ?_;rw[run_equalIn_string w d f.type D E m,c,i];rfl
  .cases s
def zS7{t:dg}{us vs:db dh}(h:zFJ P t us vs=true)(f:zB3 us vs=true):(Op.equalIn 10000 t (.agg us.toArray) (.agg vs.toArray)).run P w=.ok (zFA P t us vs) w/\P.eqGuardType P.depth t=false:=by
 unfold zFJ at h;simp only[zUE,zVU]at h;obtain⟨⟨b,i⟩,j⟩:=h;refine⟨?_,j⟩;split at b
 .rename_i fs c;have d:P.fieldsOf t=fs:=by unfold Program.fieldsOf;rw[c]
  rw[run_equalIn_struct w 9999 t _ _ (by rw[d];exact c) i];unfold zFA;rw[d];exact zGT f 9998 fs.toList b
 .cases b
def zNs{j:BinOp}{t:dg}{x y:V}{K:V->Prop}{ox oy:dq}(h:zB1 P j t (zGu oy) x y K){k l:dh}(d:RV g w x k)(f:RV g w y l) :
 ∃v,K (.at v)/\one v=true/\((do eqGuard j t ox oy k l;Go.binOp j t k l):Sem dh).run P w=.ok v w:=by
 unfold zB1 at h;split at h
 .obtain⟨hi,h⟩:=h;obtain⟨ms,c⟩:=zG3 hi;obtain⟨s,p,rfl⟩:=RV_ifx d;have b:=yG f;subst b;rcases zAy h with⟨rfl,h⟩|⟨rfl,h⟩
  .exact⟨_,h,rfl,by rw[Sem.run_bind,qT dQ rfl,Result.andThen_ok];simp only[Go.binOp,Sem.run_bind,zFh c,Result.andThen_ok,Sem.run_pure];rfl⟩
  .exact⟨_,h,rfl,by rw[Sem.run_bind,qT dQ rfl,Result.andThen_ok];simp only[Go.binOp,Sem.run_bind,zFh c,Result.andThen_ok,Sem.run_pure];rfl⟩
 .obtain⟨hi,m,h⟩:=h;obtain⟨ms,c⟩:=zG3 hi;have i:=yG d;have b:=yG f;subst i;subst b;rcases zAy h with⟨rfl,h⟩|⟨rfl,h⟩
  .exact⟨_,h,rfl,by rw[Sem.run_bind,zGz m,Result.andThen_ok];simp only[Go.binOp,Sem.run_bind,zDm c,Result.andThen_ok,Sem.run_pure];rfl⟩
  .exact⟨_,h,rfl,by rw[Sem.run_bind,zGz m,Result.andThen_ok];simp only[Go.binOp,Sem.run_bind,zDm c,Result.andThen_ok,Sem.run_pure];rfl⟩
 .obtain⟨us,vs,rfl,rfl,n,h⟩:=h;obtain⟨u,q,rfl⟩:=zCj d;obtain⟨z,r,rfl⟩:=zCj f;obtain rfl:=zHU q;obtain rfl:=zHU r;obtain⟨i,b⟩:=zS7 (w:=w) n.1 n.2;rcases zAy h with⟨rfl,h⟩|⟨rfl,h⟩
  .exact⟨_,h,rfl,by rw[Sem.run_bind,run_eqGuard_agg w _ _ _ _ _ _ b,Result.andThen_ok,run_eql_struct,i];simp[Result.andThen]⟩
  .exact⟨_,h,rfl,by rw[Sem.run_bind,run_eqGuard_agg w _ _ _ _ _ _ b,Result.andThen_ok,run_neq_struct,i];simp[Result.andThen]⟩
 .exact zOy h d f ox oy
def zR3{c:UnOp}{x:V}{K:V->Prop}(h:aUn c x K){d:dh}(f:RV g w x d):∃v,K (.at v)/\one v=true/\(Op.unary c d).run P w=.ok v w:=by
 unfold aUn at h;split at h
 .have b:=yG f;subst b;split at h
  .exact⟨_,h,rfl,by simp[Op.unary]⟩
  .cases h
 .have b:=yG f;subst b;split at h
  .exact⟨_,h,rfl,by simp[Op.unary,Op.intArith]⟩
  .exact⟨_,h,rfl,by simp[Op.unary,Op.intBits,inot,ixor,ibit]⟩
  .cases h
 .cases h
def zJ5{x:V}{i:Nat}{K:V->Prop}(h:zAd x i K){b:dh}(c:RV g w x b):∃v u,K v/\RV g w v u/\(Instr.extract b i).run P w=.ok u w:=by
 unfold zAd at h;split at h
 .rename_i vs;obtain⟨us,d,rfl⟩:=c;obtain⟨u,f,j⟩:=d.get i (vs[i]'h.1) (zUj h.1);refine⟨_,u,h.2,?_,?_⟩
  .have:vs.getD i .any=vs[i]'h.1:=by simp[h.1]
   rw[this];exact RV.of_RV1 j
  .simp[Instr.extract,f]
 .cases h
def zGR{t:dg}{i b:Nat}{d:dg}(h:fieldAt P t i=some (b,d)):∃fs f,P.underlying t=some (.struct fs)/\fs[i]?=some f/\f.offset=b/\f.type=d:=by
 unfold fieldAt at h;split at h
 .rename_i fs e;cases c:fs[i]? with
  |none=>simp[c]at h
  |some f=>simp[c]at h;exact⟨fs,f,e,c,h.1,h.2⟩
 .cases h
def zRD{t:dg}{fs:db V}{b:Nat}{us:db dh}(i:zM fs)(l:z7 P t fs b)(h:RCs g w fs us) :
 (part t us.toArray b).run P w=.ok (pack (yA P t fs b) ((us.drop b).take (P.cellsOf t))) w:=by
 have n:=l;obtain⟨m,v,p⟩:=l;have q:=yc g w fs us h;rw[xZ i]at q;unfold part;simp only[Sem.run_bind,zE0 m,Result.andThen_ok];cases j:xr P t with
 |true=>
  simp only[zUM,Sem.run_bind,xT m,Result.andThen_ok,yA,j,pack];simp only[List.extract_toArray,zWi];simp
 |false=>
  simp only[zUN,zUK,yA,j];have r:=p j;obtain⟨u,f,x⟩:=zNa i h b dM;have c:b<us.length:=dM
  have e:(us.drop b).take (P.cellsOf t)=[u]:=by
   rw[r,zVF c];rw[zUj c]at f;injection f with f
   simp[f]
  have d:(fs.getD b .any).isOne=true:=by
   have c:b<fs.length:=dM
   have:=zUb.1 i (fs[b]) (zUv c);simpa [c]using this
  have k:pack (fs.getD b .any) [u]=u:=by cases s:fs.getD b .any<;>rw[s]at d<;>simp[V.isOne]at d<;>rfl
  rw[e,k];simp[f]
def zIb{t:dg}{x:V}{f:Nat}{K:V->Prop}(h:xR P t x f K){n:dh}(p:RV g w x n):∃v u,K v/\RV g w v u/\(Instr.fieldAt t n f).run P w=.ok u w:=by
 unfold xR at h;split at h
 .rename_i fs i r c;obtain⟨j,d,k,l,rfl,rfl⟩:=zGR c;obtain⟨b,o,ds,rfl,q,s⟩:=zDF p;simp only[RC]at q;refine⟨_,.pointer (some ⟨b,o+d.offset,none⟩),h.2.2.2,zA1 (zIj h.1 h.2.1 q).1 (s.sub _ _),?_⟩;have m:¬P.cellsOf d.type=0:=by have:=h.2.2.1;omega
  simp[Instr.fieldAt,run_underlying k,l,Instr.sureAddr,fieldPlace,xT h.2.1.1,m,jJ]
 .rename_i b o i r c;obtain⟨j,d,k,l,rfl,rfl⟩:=zGR c;have y:=yG p;subst y;have m:¬P.cellsOf d.type=0:=by have:=h.2.1;omega
  refine⟨_,.pointer (some ⟨b,o+d.offset,none⟩),h.2.2,yY rfl,?_⟩;simp[Instr.fieldAt,run_underlying k,l,Instr.sureAddr,fieldPlace,xT h.1,m,jJ]
 .cases h
def zHj{t:dg}{x i:V}{K:V->Prop}(h:xp P t x i K){y z:dh}(A:RV g w x y)(hi:RV g w i z):∃v u,K v/\RV g w v u/\(Instr.indexAt t y z).run P w=.ok u w:=by
 unfold xp at h;split at h
 .rename_i el tg es k n c;obtain⟨m,l,C,p⟩:=h;have q:=kU c;have r:=yG hi;subst r;have B:=zBl A;simp only[RC]at B;rcases B with⟨rfl,_,_⟩|⟨b,o,cap,ds,d,H,I,D,E,F⟩
  .simp at l;omega
  .injection d with d _
   subst d;obtain⟨sz,f,_⟩:=E;have s:n.toNat<es.length:=dM
   have j:sz=P.cellsOf el:=by
    rw[<-C,<-f (es[n.toNat]) (zUv s)];simp[s]
   refine⟨_,.pointer (some ⟨b,o+n.toNat*sz,none⟩),p,zA1 (zL7 f D n.toNat s) (F.sub _ _),?_⟩;simp[Instr.indexAt,asIntOf,run_underlying q,l,xT m,jJ,j]
 .rename_i el b o len cap k n c;obtain⟨m,l,p⟩:=h;have q:=kU c;have r:=yG hi;subst r;have G:=yG A;subst G;refine⟨_,.pointer (some ⟨b,o+n.toNat*P.cellsOf el,none⟩),p,yY rfl,?_⟩;simp[Instr.indexAt,asIntOf,run_underlying q,l,xT m,jJ]
 .cases h
def zMT{t:dg}{x i:V}{K:V->Prop}(h:zAl P t x i K){A B:dh}(C:RV g w x A)(hi:RV g w i B):∃v u,K v/\RV g w v u/\(Instr.index t A B).run P w=.ok u w:=by
 unfold zAl at h;split at h
 .rename_i s k n;obtain⟨j,c,l⟩:=h;have m:=zEG j;have F:=yG C;have p:=yG hi;subst F;subst p;refine⟨_,_,l,yY rfl,?_⟩;have q:n.toNat<s.size:=dM
  have r:n.toNat<s.data.size:=q;have:s[n.toNat]?=some (s.data.getD n.toNat 0):=by
   rw[getElem?_pos s n.toNat q];simp only[Array.getD,r,dif_pos];rfl
  simp only[Instr.index,asIntOf,Sem.run_bind,Sem.run_pure,Result.andThen_ok,run_underlying m,if_pos c.1,this]
 .rename_i fs k n;obtain⟨j,c,l,G⟩:=h;obtain⟨e,m,D,f,H⟩:=zJK j;have p:=yG hi;subst p;obtain⟨us,y,rfl⟩:=zCj C;have d:=yc g w fs us y;rw[xZ c]at d;have q:n.toNat<us.length:=dM
  have I:n.toNat<fs.length:=dM
  have E:z7 P e fs n.toNat:=⟨D,by rw[f];omega,λ_=>f⟩;obtain⟨k1,_,_⟩:=zIj c E y;have b:=zRD (w:=w) c E y;have z:yA P e fs n.toNat=fs.getD n.toNat .any:=by unfold yA;rw[H];rfl
  rw[z]at k1 b;refine⟨_,_,G,zHQ k1,?_⟩;simp only[Instr.index,asIntOf,Sem.run_bind,Sem.run_pure,Result.andThen_ok,run_underlying m,if_pos l,xT D,f,Nat.mul_one];rw[b,f]
 .cases h
def zPK{t:dg}{x:V}{K:V->Prop}(h:aLen P t x K){l:dh}(j:RV g w x l)(i:db dg)(n:dg):∃v,K (.at v)/\one v=true/\(Builtin.len_ (t::i).toArray n #[l]).run P w=.ok v w:=by
 unfold aLen at h;split at h
 .rename_i tg es;obtain⟨el,d⟩:=zVw.1 h.1;have f:=kU d;have m:=zBl j;simp only[RC]at m;refine⟨_,h.2,rfl,?_⟩;rcases m with⟨rfl,c,_⟩|⟨b,o,cap,ds,c,_⟩
  .injection c with c _
   subst c;simp[Builtin.len_,run_underlying f,goInt]
  .injection c with c _
   subst c;simp[Builtin.len_,run_underlying f,goInt]
 .obtain⟨el,d⟩:=zVw.1 h.1;have f:=kU d;have k:=yG j;subst k;exact⟨_,h.2,rfl,by simp[Builtin.len_,run_underlying f,goInt]⟩
 .have f:=zEG h.1;have k:=yG j;subst k;exact⟨_,h.2,rfl,by simp[Builtin.len_,run_underlying f,goInt]⟩
 .cases h
def zIz{x:V}{K:V->Prop}(h:qn x K){c:dh}(d:RV g w x c):K x/\∃f,c=.pointer (some f):=by
 unfold qn at h;split at h
 .obtain⟨b,o,ds,rfl,_⟩:=zDF d;exact⟨h,_,rfl⟩
 .exact⟨h,_,yG d⟩
 .cases h
def zAW{x:da V}{d:Int}{K:Int->Prop}(h:jz x d K){b:da dh}(c:∀v,x=some v->∃u,b=some u/\RV g w v u)(f:x=none->b=none) :
 ∃n,K n/\((x=none/\b=none/\n=d)\/∃k,b=some (.int k n)):=by
 unfold jz at h;split at h
 .exact⟨_,h,.inl ⟨rfl,f rfl,rfl⟩⟩
 .rename_i k n;obtain⟨u,rfl,i⟩:=c _ rfl;exact⟨_,h,.inr ⟨k,by rw[yG i]⟩⟩
 .cases h
def zA0{k:dm}{n:Int}{y:Nat}{c:BoundsCode}(b:0<=n)(d:n<=y):(Instr.sliceBound (.int k n) y c).run P w=.ok n.toNat w:=by
 simp[Instr.sliceBound,asIntOf,b,d]
def kJ{isS:dd}{len cap:Nat}{lo hi:da dh}{l h:Int}(d:(lo=none/\l=0)\/∃k,lo=some (.int k l))(f:(hi=none/\h=len)\/∃k,hi=some (.int k h))
 (b:0<=l) (i:l<=h) (c:h<=cap):(Instr.sliceBounds isS len cap lo hi none).run P w=.ok (l.toNat,h.toNat,cap) w:=by
 unfold Instr.sliceBounds;have e:((h.toNat:Nat):Int)=h:=dM
 rcases f with⟨rfl,rfl⟩|⟨k,rfl⟩<;>rcases d with⟨rfl,rfl⟩|⟨j,rfl⟩
 .simp
 .simp only[Sem.run_bind,Sem.run_pure,Result.andThen_ok];rw[zA0 b i];simp
 .simp only[Sem.run_bind,Sem.run_pure,Result.andThen_ok];rw[zA0 dM c];simp
 .simp only[Sem.run_bind,Sem.run_pure,Result.andThen_ok];rw[zA0 dM c];simp only[Result.andThen_ok];rw[zA0 b dM];simp
end
open Go.RowKit
section
variable{P:di}{X:Cx}{g:Gh}{w:de}{a:Act}{o:dr}{st:S}{K:V->S->Prop}{KP:db dj->S->Prop}
def one_eq(v:dh):one v=v.oneCell':=by cases v<;>rfl
end
mutual
theorem zGW(g:Gh)(w:World):∀(x:V)(us:List Value),RC g w x us->∀u∈us,u.oneCell'=true
 |.any,us,h=>by simp[RC]at h
 |.at v,us,h=>by simp only[RC]at h;obtain⟨rfl,h1⟩:=h;intro u hu;simp at hu;subst hu;rw[<-one_eq];exact h1
 |.agg fs,us,h=>by simp only[RC]at h;exact zDR g w fs us h
 |.tup vs,us,h=>by simp[RC]at h
 |.lst tg es,us,h=>by
  simp only[RC]at h;rcases h with⟨_,rfl,_⟩|⟨b,o,cap,ds,rfl,_⟩<;>(intro u hu;simp at hu;subst hu;rfl)
 |.rptr x,us,h=>by simp only[RC]at h;obtain⟨b,o,ds,rfl,_⟩:=h;intro u hu;simp at hu;subst hu;rfl
 |.ifx,us,h=>by simp only[RC]at h;obtain⟨t,p,rfl⟩:=h;intro u hu;simp at hu;subst hu;rfl
 |.clo fn caps,us,h=>by simp only[RC]at h;obtain⟨ds,_,rfl⟩:=h;intro u hu;simp at hu;subst hu;rfl
theorem zDR(g:Gh)(w:World):∀(xs:List V)(us:List Value),RCs g w xs us->∀u∈us,u.oneCell'=true
 |[],us,h=>by simp only[RCs]at h;subst h;simp
 |x::xs,us,h=>by
  simp only[RCs]at h;obtain⟨u1,u2,rfl,h1,h2⟩:=h;intro u hu;rcases zUa.1 hu with hu|hu
  .exact zGW g w x u1 h1 u hu
  .exact zDR g w xs u2 h2 u hu
end
section
variable{P:di}{X:Cx}{g:Gh}{w:de}{a:Act}{o:dr}{st:S}{K:V->S->Prop}{KP:db dj->S->Prop}
def zIr{x:V}{u:dh}(h:RV g w x u)(c:zM x.flat):∃us,RCs g w x.flat us/\u.cells=us.toArray/\us.length=x.flat.length:=by
 cases x with
 |any=>simp[V.flat,zM,V.isOne]at c
 |tup vs=>simp[V.flat,zM,V.isOne]at c
 |agg fs=>
  obtain⟨us,b,rfl⟩:=zCj h;have:=yc g w fs us b;have d:zM fs:=c;rw[xZ d]at this;exact⟨us,b,rfl,this⟩
 |_=>
  obtain⟨us,b,f⟩:=h;obtain⟨v,rfl⟩:=zCc b rfl;refine⟨[v],?_,?_,rfl⟩
  .simp only[V.flat,RCs];exact⟨[v],[],rfl,b,rfl⟩
  .have i:=zGW g w _ _ b v dQ;have:u=v:=f;subst this;cases u<;>simp[Value.oneCell']at i<;>rfl
def zFL{t:dg}{x:V}{K:V->Prop}(h:qW P st t x K)(hi:Inv X.B g st w){f:dh}(i:RV g w x f):∃v u,K v/\RV g w v u/\(Instr.loadAt t f).run P w=.ok u w:=by
 unfold qW at h;split at h
 .obtain⟨b,o,ds,rfl,l,n⟩:=zDF i;refine⟨_,_,h.2,zHQ (zE2 g w _ _ l),?_⟩;simp only[Instr.loadAt,Instr.sureAddr,Sem.run_bind,Sem.run_pure,Result.andThen_ok];exact zDY h.1 l λk u p=>(n k u p).1
 .rename_i b o;have q:=yG i;subst q;split at h
  .rename_i cs k r;obtain⟨E,F,G,s,arr,el,us,y,H,z,A⟩:=hi.box b cs k r;have d:zM cs:=by unfold zM;rw[zUb];exact s
   obtain⟨m,C,D⟩:=zIj d h.1 z;refine⟨_,_,h.2,zHQ m,?_⟩;simp only[Instr.loadAt,Instr.sureAddr,Sem.run_bind,Sem.run_pure,Result.andThen_ok];refine zDY ⟨h.1.1,D,C⟩ m λj u c=>?_;rw[zU6]at c;split at c
   .rw[zV1,<-A,zU6]at c;split at c
    .rw[cell_of_row w b _ arr el (0,0) y];simpa using c
    .cases c
   .cases c
  .cases h
 .cases h
def kG{fs:db V}(h:zM fs):∀c∈fs,c.isOne=true:=zUb.1 h
def zMa{t:dg}{x y:V}{K:S->Prop}(h:jf P st t x y K)(hi:Inv X.B g st w){A n:dh}(J:RV g w x A)(L:RV g w y n) :
 ∃i w',K i/\Out X.B g w g i w'/\(Instr.storeAt t A n).run P w=.ok () w':=by
 unfold jf at h;split at h
 .rename_i b o;have M:=yG J;subst M;split at h
  .rename_i cs k C;obtain⟨N,O,D,Z,R⟩:=h;obtain⟨p1,p2,p3,q,arr,el,us,E,p6,r,T⟩:=hi.box b cs k C;have d:zM cs:=by unfold zM;rw[zUb];exact q
   have s:=yc g w cs us r;rw[xZ d]at s;obtain⟨vs,F,G,H⟩:=zIr L D;have l:=run_storeCells_at (P:=P) b o el vs 0 arr w E dM (zDR g w _ _ F);simp only[zVE]at l;have m:(us.take o++vs++us.drop (o+vs.length))=((arr.toList.take o++vs++arr.toList.drop (o+vs.length))).take (spl cs o y.flat).length:=by
    have U:(spl cs o y.flat).length=cs.length:=by simp[spl];omega
    rw[U,<-T];apply zWA;intro j;simp only[zWb,zU6,zV1,zUI,zVH,zVS];have W:min o (min cs.length arr.size)=o:=dM
    have Y:min o arr.size=o:=dM
    rw[W,Y];by_cases p:j<o
    .simp[p,show j<o+vs.length by omega,show j<cs.length by omega]
    .by_cases u:j<o+vs.length
     .simp[p,u,show j<cs.length by omega]
     .by_cases I:j<cs.length
      .simp[p,u,I,show o+vs.length+(j-(o+vs.length))<cs.length by omega]
      .simp[p,u,I,show ¬(o+vs.length+(j-(o+vs.length))<cs.length)by omega]
   refine⟨_,w.setRow b (arr.toList.take o++vs++arr.toList.drop (o+vs.length)).toArray,R,?_,?_⟩
   .refine zIT hi C E _ d4 _ (us.take o++vs++us.drop (o+vs.length)) (by simp[spl];omega) ?_ ?_ (by simpa using m.symm)
    .intro c f;simp only[spl,zUa]at f;rcases f with(f|f)|f
     .exact q c (zVG f)
     .exact kG D c f
     .exact q c (zVp f)
    .unfold spl;rw[<-H];exact jj (jj (xV d r o).1 F) (xV d r _).2
   .have v:n.cells.size=P.cellsOf t:=by rw[G];simpa using H.trans O
    have z:n.cells.toList=vs:=by rw[G]
    simp only[Instr.storeAt,Instr.sureAddr,storeVar,Sem.run_bind,Sem.run_pure,Result.andThen_ok,xT N,v,ne_eq,not_true_eq_false,zUK,z];exact l
  .cases h
 .cases h
def zJn{cs:db V}(h:aNew st cs K)(hi:Inv X.B g st w){us:db dh}(n:RCs g w cs us)(el:dg) :
 ∃v u g' i,K v i/\Out X.B g w g' i (w.alloc (.cells us.toArray el))/\RV g' (w.alloc (.cells us.toArray el)) v u/\u=.pointer (some ⟨w.heap.size,0,none⟩):=by
 obtain⟨q,r⟩:=h;have j:=yc g w cs us n;rw[xZ q]at j;have f:look st.box w.heap.size=none:=by
  cases s:look st.box w.heap.size with
  |none=>rfl
  |some p=>
   obtain⟨c,k⟩:=p;obtain⟨_,_,_,_,arr,el,us,l,_⟩:=hi.box _ c k s;have:=(zUH.1 l).1;omega
 have m:=zCk hi us.toArray el 0;refine⟨_,_,_,_,r _ f,⟨m.step,?_⟩,yY rfl,rfl⟩;have:=m.inv.addBox (b:=w.heap.size) (arr:=us.toArray) (el:=el) (cs:=cs) (us:=us) hi.base (if_pos rfl) (zBb w _) d4 (kG q) (yE m.step.later _ _ n)
  (by simp only[<-j];exact zVb) (λt x d y=>by
   obtain⟨z,A,C⟩:=d;obtain⟨_,_,_,_,_,arr,el,l,_⟩:=hi.own t x _ z A C y;have:=(zUH.1 l).1;omega) hi.newFr hi.newOb
 simpa [j]using this
def zCx{t:dg}{cs:db V}(h:xU P t=some cs):∃z,zAk P t=some z/\RCs g w cs z.cells.toList/\cs.length=z.cells.size:=by
 unfold xU at h;cases b:zAk P t with
 |none=>simp[b]at h
 |some z=>
  simp only[b,zVY]at h;split at h
  .rename_i c;injection h with h
   subst h;exact⟨z,rfl,zGk g w _ c,dQ⟩
  .cases h
def zAP{t:dg}{z:dh}(h:zAk P t=some z):∃i,P.info? t=some i/\i.zero=some z:=by
 unfold zAk at h;cases hi:P.info? t with
 |none=>simp[hi]at h
 |some i=>simp[hi]at h;exact⟨i,rfl,h⟩
def zMU{t:dg}(h:zAL P st t K)(hi:Inv X.B g st w)(c:dh) :
 ∃v u g' b w',K v b/\Out X.B g w g' b w'/\RV g' w' v u/\(Instr.alloc t true c).run P w=.ok u w':=by
 unfold zAL at h;split at h
 .rename_i cs k;obtain⟨z,d,l,_⟩:=zCx (g:=g) (w:=w) k;obtain⟨i,f,j⟩:=zAP d;obtain⟨v,u,g',b,m,n,p,q⟩:=zJn (X:=X) h hi l t;refine⟨v,u,g',b,_,m,n,p,?_⟩;subst q;simp[Instr.alloc,zeroValue,typeInfo,f,j,newVar,newRow]
 .cases h
def zP7{t:dg}{x:V}(h:aNew st x.flat K)(hi:Inv X.B g st w){c:dh}(d:RV g w x c) :
 ∃v u g' b w',K v b/\Out X.B g w g' b w'/\RV g' w' v u/\(Instr.box t c).run P w=.ok u w':=by
 obtain⟨us,f,i,n⟩:=zIr d h.1;obtain⟨v,u,g',b,j,k,l,m⟩:=zJn (X:=X) h hi f t;refine⟨v,u,g',b,_,j,k,l,?_⟩;subst m;simp[Instr.box,newVar,newRow,i]
def zDh(vs:db dh):∀(b:Nat)(k:Nat)(d:dv dh),b+k+vs.length<=d.size ->
 ((vs.zipIdx k).foldl (λcs (c,j)=>cs.setIfInBounds (b+j) c) d).toList=d.toList.take (b+k)++vs++d.toList.drop (b+k+vs.length):=by
 induction vs with
 |nil=>intro b k d h;simp
 |cons v vs l=>
  intro b k d h;simp only[List.zipIdx_cons,List.foldl_cons,zUD]at h ⊢;rw[l b (k+1) _ d4];apply zWA;intro j;simp only[Array.toList_setIfInBounds,zWb,zUI,zVH,zU6,zV1,List.getElem?_set,zVS,zWK,zUD];have m:min (b+(k+1)) d.size=b+(k+1):=dM
  have n:min (b+k) d.size=b+k:=dM
  rw[m,n];by_cases f:j<b+k
  .simp[f,show j<b+(k+1)by omega,show j<b+(k+1)+vs.length by omega,show b+k≠j by omega,show j<b+k+(vs.length+1)by omega]
  .by_cases p:j=b+k
   .subst p;simp[show b+k<b+(k+1)by omega,show b+k<b+(k+1)+vs.length by omega,show b+k<d.size by omega]
   .by_cases i:j<b+(k+1)+vs.length
    .have e:j-(b+k)=(j-(b+(k+1)))+1:=dM
     simp[f,i,show ¬j<b+(k+1)by omega,e,show j<b+k+(vs.length+1)by omega]
    .simp[f,i,show ¬j<b+(k+1)by omega,show ¬j<b+k+(vs.length+1)by omega,show b+k≠b+(k+1)+vs.length+(j-(b+(k+1)+vs.length))by omega];congr 1;omega
inductive Parts(g:Gh)(w:World):List (Nat×V)->List (Nat×Value)->Prop where
 |nil:Parts g w [] []
 |cons {i x u ps qs} (h:RV g w x u) (hs:Parts g w ps qs):Parts g w ((i,x)::ps) ((i,u)::qs)
def zIQ{d:Nat->da (Nat×Nat)}:∀{ps:db (Nat×V)}{t:db (Nat×dh)}(_:Parts g w ps t){b:db V}{us:db dh}{cs':db V}(_:zM b)(_:RCs g w b us)
 (_:zBh d b ps=some cs'),∃l,Instr.fill d us.toArray t=some l.toArray/\RCs g w cs' l/\zM cs':=by
 intro ps t z
 induction z with
 |nil=>
  intro b us cs' m q j;simp only[zBh]at j;injection j with j
  subst j;exact⟨us,rfl,q,m⟩
 |@cons i x u ps t h L A=>
  intro b us cs' m q j;simp only[zBh]at j;cases n:d i with
  |none=>rw[n]at j;cases j
  |some p=>
   obtain⟨f,r⟩:=p;simp only[n]at j;split at j
   .rename_i k;obtain⟨M,N,v⟩:=k;obtain⟨vs,B,C,D⟩:=zIr h v;have E:=yc g w b us q;rw[xZ m]at E;have s:zM (spl b f x.flat):=by
     unfold zM spl;rw[zUb];intro c k;simp only[zUa]at k;rcases k with(k|k)|k
     .exact kG m c (zVG k)
     .exact kG v c k
     .exact kG m c (zVp k)
    have F:RCs g w (spl b f x.flat) (us.take f++vs++us.drop (f+vs.length)):=by
     unfold spl;rw[<-D];exact jj (jj (xV m q f).1 B) (xV m q _).2
    obtain⟨l,G,H,I⟩:=A s F j;refine⟨l,?_,H,I⟩;simp only[Instr.fill,n,C];have J:(decide (vs.toArray.size≠r)||decide (f+vs.toArray.size > us.toArray.size))=false:=by simp;omega
    have y:=zDh vs f 0 us.toArray d4;simp only[zVE]at y;simp only[J,zUN,zUK];rw[<-G];congr 1;apply zVk;rw[<-y];simp
   .cases j
end
open Go.RowKit
section
variable{P:di}{X:Cx}{g:Gh}{w:de}{a:Act}{o:dr}{st:S}{K:V->S->Prop}{KP:db dj->S->Prop}
def zKe{α β:Type}(f:α->da β)(h:α->β):∀(l:db α),(∀x∈l,f x=some (h x))->l.mapM f=some (l.map h)
 |[],_=>rfl
 |x::r,b=>by
  simp only[zWC,b x dQ,zKe f h r λy c=>b y eP];rfl
def zMo{t:dg}{ps:db (Nat×V)}{q:db (Nat×dh)}{K:V->Prop}(h:zEn P t ps K)(C:Parts g w ps q) :
 ∃v u,K v/\RV g w v u/\(Instr.build t q.toArray).run P w=.ok u w:=by
 obtain⟨k,h⟩:=h;split at h
 .rename_i cs b;split at h
  .rename_i cs' r;obtain⟨z,l,D,M⟩:=zCx (g:=g) (w:=w) b;obtain⟨i,s,x⟩:=zAP l;have m:zM cs:=by
    unfold xU at b;rw[l]at b;simp only[zVY]at b;split at b
    .rename_i E;injection b with b
     subst b;unfold zM;rw[zUb];intro c F;obtain⟨v,G,rfl⟩:=zVA.1 F;have:=zUb.1 E v G;cases v<;>simp[one]at this<;>first|rfl|(unfold cV1;split<;>first|rfl|simp_all)
    .cases b
   obtain⟨n,H,I,N⟩:=zIQ C m D r;refine⟨_,.agg n.toArray,h,zDw I,?_⟩;refine run_build w t q.toArray n.toArray ?_;unfold zD9 at k;split at k
   .rename_i d B;have J:d.toList.mapM (λf=>(P.info? f.type).map λi=>(f.offset,i.size))=some (d.toList.map λf=>(f.offset,P.cellsOf f.type)):=
     zKe _ _ _ λf r=>by
      obtain⟨j,p,L,_⟩:=zFz (zUb.1 k f r);simp[p,L]
    unfold Program.built;simp only[s,B,x,J];have y:(λi=>(d.toList.map λf=>(f.offset,P.cellsOf f.type)).toArray[i]?)=zCA P t:=by
     funext j
     unfold zCA fieldAt;simp only[B];cases p:d[j]? with
     |none=>simp[p]
     |some f=>
      have A:hasT P f.type=true:=zUb.1 k f (by simpa using zWF p);simp[p,A]
    rw[y];simpa using H
   .cases k
  .cases h
 .cases h
def zJs{pl d:Nat->da (Nat×Nat)}(h:∀i x,pl i=some x->d i=some x):∀{l:db (Nat×dh)}{b r:dv dh},Instr.fill pl b l=some r->Instr.fill d b l=some r
 |[],_,_,c=>c
 |(i,v)::f,b,r,c=>by
  unfold Instr.fill at c ⊢;split at c
  .cases c
  .rename_i k j m;rw[h _ _ m];simp only;split at c
   .cases c
   .rename_i n;rw[if_neg n];exact zJs h c
def zKy{t:dg}{ps:db (Nat×V)}{A:db (Nat×dh)}{K:V->Prop}(h:zIf P t ps K)(E:Parts g w ps A) :
 ∃v u,K v/\RV g w v u/\(Instr.build t A.toArray).run P w=.ok u w:=by
 obtain⟨r,s,h⟩:=h;split at h
 .rename_i cs b;split at h
  .rename_i cs' F;obtain⟨z,k,G,R⟩:=zCx (g:=g) (w:=w) b;obtain⟨i,B,C⟩:=zAP k;have l:zM cs:=by
    unfold xU at b;rw[k]at b;simp only[zVY]at b;split at b
    .rename_i H;injection b with b
     subst b;unfold zM;rw[zUb];intro c I;obtain⟨v,y,rfl⟩:=zVA.1 I;have:=zUb.1 H v y;cases v<;>simp[one]at this<;>first|rfl|(unfold cV1;split<;>first|rfl|simp_all)
    .cases b
   obtain⟨p,J,L,S⟩:=zIQ E l G F;refine⟨_,.agg p.toArray,h,zDw L,?_⟩;refine run_build w t A.toArray p.toArray ?_;unfold zEt at r s;split at r
   .rename_i n e D;rw[D]at s;simp only at s;have q:hasT P e=true:=by
     cases n with
     |zero=>simp at r
     |succ n=>simpa [List.range_succ_eq_map]using s
    obtain⟨j,M,N,_⟩:=zFz q;unfold Program.built;simp only[B,D,C,M];refine zJs (λi x d=>?_) J;unfold zIF zEt at d;rw[D]at d;simp only at d;rw[zUy]at d;cases f:(List.range n)[i]? with
    |none=>rw[f]at d;cases d
    |some m=>
     rw[f]at d;have O:m=i:=by
      have:=zVK.1 f;obtain⟨T,y⟩:=this;rw[List.getElem_range]at y;exact y.symm
     subst O;simp only[zVm,zVY,q,zUM]at d;rw[N];exact d
   .exact absurd rfl r
  .cases h
 .cases h
def zLg{t:dg}{ps:db (Nat×V)}{b:db (Nat×dh)}{K:V->Prop}(h:zCM P t ps K)(c:Parts g w ps b) :
 ∃v u,K v/\RV g w v u/\(Instr.build t b.toArray).run P w=.ok u w:=by
 rcases h with h|h
 .exact zMo h c
 .exact zKy h c
def zDN{x:V}{u:dh}(h:RV g w x u)(c:zM x.flat):∃us,RC g w x us/\u.cells=us.toArray/\u=pack x us:=by
 cases x with
 |any=>simp[V.flat,zM,V.isOne]at c
 |tup vs=>simp[V.flat,zM,V.isOne]at c
 |agg fs=>
  obtain⟨us,b,rfl⟩:=zCj h;exact⟨us,by simp only[RC];exact b,rfl,rfl⟩
 |_=>
  obtain⟨us,b,d⟩:=h;obtain⟨v,rfl⟩:=zCc b rfl;refine⟨[v],b,?_,d⟩;have f:=zGW g w _ _ b v dQ;have:u=v:=d;subst this;cases u<;>simp[Value.oneCell']at f<;>rfl
def zQN:∀{ps:db (Nat×V)}{f:db (Nat×dh)}(_:Parts g w ps f)(_:∀p∈ps,zM p.2.flat){sz:Nat}(_:qL sz (ps.map (·.2)))(k:Nat)(_:kC k ps=true),
 ∃us,RCs g w (ps.map (·.2)) us/\us.length=ps.length*sz /\ 
  ∀(b:dv dh),k*sz+us.length<=b.size -> 
   Instr.fill (λi=>some (i*sz,sz)) b f=some (b.toList.take (k*sz)++us++b.toList.drop (k*sz+us.length)).toArray:=by
 intro ps f n
 induction n with
 |nil=>
  intro _ sz _ k _;refine⟨[],by simp[RCs],dQ,λb _=>?_⟩;simp[Instr.fill]
 |@cons i x u ps f h N C=>
  intro v sz z k l;simp only[kC,zUE,zWN]at l;obtain⟨rfl,l⟩:=l;obtain⟨us,D,E,F⟩:=C (λp n=>v p (by simp[n])) (λy G=>z y (by simp only[zUC,zUG];exact .inr G)) (i+1) l;obtain⟨vs,A,H,O⟩:=zDN h (v (i,x) dQ);have d:vs.length=sz:=by
   rw[qh _ _ _ _ A];exact z _ dQ
  refine⟨vs++us,?_,?_,λb I=>?_⟩
  .simp only[zUC,RCs];exact⟨vs,us,rfl,A,D⟩
  .simp only[zUI,zUD,E,d,zVP,zVz];omega
  .simp only[zUI]at I ⊢;simp only[Instr.fill,H];have J:(decide (vs.toArray.size≠sz)||decide (i*sz+vs.toArray.size > b.size))=false:=by simp;omega
   simp only[J,zUN,zUK];have q:=zDh vs (i*sz) 0 b dM;simp only[zVE]at q;have r:(List.foldl (λcs x=>cs.setIfInBounds (i*sz+x.snd) x.fst) b (vs.zipIdx 0)).size=b.size:=by
    rw[<-zVS,q];simp;omega
   have:=F ((vs.toArray.zipIdx 0).foldl (λcs (c,j)=>cs.setIfInBounds (i*sz+j) c) b) (by simp[r];rw[zVP];omega);rw[this];congr 2;have s:((vs.toArray.zipIdx 0).foldl (λcs (c,j)=>cs.setIfInBounds (i*sz+j) c) b).toList=b.toList.take (i*sz)++vs++b.toList.drop (i*sz+vs.length):=by
    rw[<-q];simp
   rw[s,zVP,zVz];apply zWA;intro j;simp only[zWb,zUI,zVH,zU6,zV1,zVS];have L:min (i*sz) b.size=i*sz:=dM
   simp only[L,d];have M:min (i*sz+sz) (i*sz+sz+(b.size-(i*sz+sz)))=i*sz+sz:=dM
   simp only[zWU,zVS,M];by_cases m:j<i*sz
   .simp[m,show j<i*sz+sz by omega,show j<i*sz+sz+us.length by omega,show j<i*sz+(sz+us.length)by omega]
   .by_cases t:j<i*sz+sz
    .simp[m,t,show j<i*sz+sz+us.length by omega,show j<i*sz+(sz+us.length)by omega,show j-i*sz<sz by omega]
    .by_cases B:j<i*sz+sz+us.length
     .simp[m,t,B,show j<i*sz+(sz+us.length)by omega,show ¬(j-i*sz<sz)by omega];congr 1;omega
     .simp[m,t,B,show ¬(j<i*sz+(sz+us.length))by omega,show ¬(i*sz+sz+us.length+(j-(i*sz+sz+us.length))<i*sz)by omega,show ¬(i*sz+sz+us.length+(j-(i*sz+sz+us.length))<i*sz+sz)by omega];congr 1;omega
def zGy(x:V):(xB x).size=x.size:=by
 cases x with
 |lst tg es=>cases tg<;>rfl
 |_=>rfl
def zF1:∀xs:db V,jh (xs.map xB)=jh xs
 |[]=>rfl
 |x::xs=>by simp[jh,zGy,zF1 xs]
def zOY(x:V):x.untag.size=x.size:=by
 cases x with
 |agg fs=>simp only[V.untag,V.size];exact zF1 fs
 |lst tg es=>exact zGy (.lst tg es)
 |any=>rfl
 |_=>rfl
def zCL:∀{xs:db V}{us:db dh},RCs g w xs us->(∀x∈xs,zM x.flat)->RCs g.bare w (xs.map V.untag) us
 |[],us,h,_=>h
 |x::xs,us,h,b=>by
  simp only[RCs,zUC]at h ⊢;obtain⟨c,d,rfl,f,i⟩:=h;exact⟨c,d,rfl,zBJ f (b x dQ),zCL i λy j=>b y (by simp[j])⟩
end
end Go.Al
end
section
namespace Go.Al
open Go.RowKit
section
variable{P:di}{X:Cx}{g:Gh}{w:de}{a:Act}{o:dr}{st:S}{K:V->S->Prop}{KP:db dj->S->Prop}
def zSv{x:V}{us:db dh}(h:RC g w x us):RCs g w x.flat us:=by
 cases x with
 |any=>simp[RC]at h
 |tup vs=>simp[RC]at h
 |agg fs=>simpa only[RC,V.flat]using h
 |_=>simp only[V.flat,RCs];exact⟨us,[],dQ,h,rfl⟩
def zEC:∀{es:db V}{ds:db dh},RCs g w es ds->RCs g w (zp es) ds
 |[],ds,h=>h
 |x::xs,ds,h=>by
  simp only[RCs]at h;obtain⟨f,i,rfl,b,c⟩:=h;exact jj (zSv b) (zEC c)
def jX{sz:Nat}{es:db V}{ds:db dh}(h:qL sz es)(b:RCs g w es ds):ds.length=es.length*sz:=by
 rw[yc g w es ds b];clear b
 induction es with
 |nil=>simp[jh]
 |cons x xs c=>
  simp only[jh,zUD,h x dQ,c λy f=>h y (by simp[f]),zVP,zVz];omega
def zBp(hi:Inv X.B g st w):look st.box w.heap.size=none:=by
 cases b:look st.box w.heap.size with
 |none=>rfl
 |some p=>
  obtain⟨c,k⟩:=p;obtain⟨_,_,_,_,arr,el,us,f,_⟩:=hi.box _ c k b;have:=(zUH.1 f).1;omega
def zD0(hi:Inv X.B g st w):∀t∈st.tg,∀d,g.tb t=some (some (w.heap.size,d))->False:=λt b d c=>by
 obtain⟨f,h,i⟩:=d;obtain⟨_,_,_,_,_,arr,el,j,_⟩:=hi.own t b _ f h i c;have:=(zUH.1 j).1;omega
def Inv.boxFr{B:Nat}(hi:Inv B g st w){b:Nat}{c:db V×Nat}(h:look st.box b=some c):g.fr b=false/\∀f o fp,zE st.ob f=some (o,fp)->b∉fp:=by
 refine⟨?_,λf o fp i j=>?_⟩
 .cases e:g.fr b with
  |false=>rfl
  |true=>have:=(hi.ex.frz b e).2.1;rw[h]at this;cases this
 .have:=((hi.ex.ob f o fp i).2.2 b j).2.2.2.1;rw[h]at this;cases this
def Inv.rowFr{B:Nat}(hi:Inv B g st w){t b:Nat}{d:Nat×Nat×Nat}(f:t∈st.tg)(h:g.tb t=some (some (b,d))):g.fr b=false/\∀c o fp,zE st.ob c=some (o,fp)->b∉fp:=by
 refine⟨?_,λc o fp i j=>((hi.ex.ob c o fp i).2.2 b j).2.2.2.2.1 t f d h⟩;cases e:g.fr b with
 |false=>rfl
 |true=>exact((hi.ex.frz b e).2.2 t f d h).elim
def new_no(hi:Inv X.B g st w){es:db V}{us:db dh}{sz:Nat}(f:qL sz es)(h:RCs g.bare w es us)(el:dg)(b:db dh)(cap:Nat)(i:es.length<=cap) :
 ∃g',Out X.B g w g' st (w.alloc (.cells (us++b).toArray el))/\RV g' (w.alloc (.cells (us++b).toArray el)) (.lst .no es) (.slice (some ⟨w.heap.size,0,none⟩) es.length cap):=by
 have c:=zCk hi (us++b).toArray el us.length;refine⟨_,c,qg ?_⟩;simp only[RC];refine .inr ⟨w.heap.size,0,cap,us,rfl,i,trivial,yE c.step.later.bare _ _ h,⟨sz,f,λ_ _ _ e=>fb⟩,?_⟩;exact zLc (w:=w) (us++b).toArray el us us.length (zUB _) dQ
def zIo(hi:Inv X.B g st w){es:db V}{us:db dh}{sz:Nat}(k:qL sz es)(l:RCs g.bare w es us)(el:dg)(f:db dh)(cap:Nat)(m:es.length<=cap)(u:cap<=maxLen)
 (p:us.length+f.length=cap*sz) (q:dd) (h:q=true->es.length≠0) :
 ∃g',Out X.B g w g' ⟨st.box,st.nx::st.tg,st.nx+1,st.ob⟩ (w.alloc (.cells (us++f).toArray el)) /\
  RV g' (w.alloc (.cells (us++f).toArray el)) (.lst (.own st.nx q sz) es) (.slice (some ⟨w.heap.size,0,none⟩) es.length cap):=by
 have i:=jX k l;have j:=zCk hi (us++f).toArray el us.length;obtain⟨v,r⟩:=j.inv.addTag rfl (some (w.heap.size,cap,es.length,sz)) (λb c n s e=>by
  injection e with e;injection e with y e;injection e with z e;injection e with A C
  subst y;subst z;subst A;subst C;exact⟨hi.base,by simp[i],m,u,zBp hi,⟨_,el,zBb w _,by simp;omega⟩,λt D x p=>zD0 hi t D x p,hi.newFr,hi.newOb⟩)
 refine⟨_,⟨j.step.trans ⟨r,.refl _ _,λ_ _=>⟨rfl,rfl⟩,λ_ _=>rfl,rfl⟩,v⟩,qg ?_⟩;simp only[RC];refine .inr ⟨w.heap.size,0,cap,us,rfl,m,⟨if_pos rfl,rfl,h⟩,yE (j.step.later.trans r).bare _ _ l,⟨sz,k,λ_ _ _ e=>by cases e;exact .inl rfl⟩,?_⟩;exact zLc (w:=w) (us++f).toArray el us us.length (zUB _) dQ
def zRu(hi:Inv X.B g st w){es:db V}{us:db dh}(l:RCs g w es us)(i:zM (zp es))(el:dg)(c:db dh)(k:Nat)(p:us.length+c.length=k) :
 ∃g',Out X.B g w g' ⟨lay st.box w.heap.size (zp es,k),st.tg,st.nx,st.ob⟩ (w.alloc (.cells (us++c).toArray el)):=by
 have f:=zEC l;have j:=yc g w _ _ f;rw[xZ i]at j;have h:=zCk hi (us++c).toArray el 0;refine⟨_,⟨h.step,?_⟩⟩;have:=h.inv.addBox (b:=w.heap.size) (arr:=(us++c).toArray) (el:=el) (cs:=zp es) (us:=us) hi.base (if_pos rfl) (zBb w _) d4 (kG i)
  (yE h.step.later _ _ f) (by simp[<-j]) (by intro t m d n;exact zD0 hi t m d n) hi.newFr hi.newOb
 have e:(us++c).toArray.size=k:=by simp;omega
 rw[e]at this;exact this
def zJe{el:dg}(h:(xU P el).map List.length=some (P.cellsOf el)):∃z,zAk P el=some z/\z.cells.size=P.cellsOf el:=by
 cases b:xU P el with
 |none=>simp[b]at h
 |some cs=>
  obtain⟨z,c,_,f⟩:=zCx (g:=⟨λ_=>0,λ_=>none,Fr.no⟩) (w:=default) b;simp[b]at h;exact⟨z,c,dM⟩
def zHI{L:Pol}{D:da Nat}{t:dg}{n:Nat}{ps:db (Nat×V)}{y:db (Nat×dh)}(h:xA P L D st t n ps K)(hi:Inv X.B g st w)(E:Parts g w ps y) :
 ∃v u g' m w',K v m/\Out X.B g w g' m w'/\RV g' w' v u/\(Instr.buildSlice t n y.toArray).run P w=.ok u w':=by
 unfold xA at h;split at h
 .cases h
 .rename_i el F;obtain⟨M,h2,U,h4,W,N,Y,G,O,b⟩:=h;have Q:=kU F;obtain⟨z,Z,q⟩:=zJe U;obtain⟨i,r,H⟩:=zAP Z;have I:qL (P.cellsOf el) (ps.map (·.2)):=λx J=>by
   obtain⟨p,k,rfl⟩:=zVA.1 J;rw[<-zOY];exact G _ (zVA.2 ⟨p,k,rfl⟩)
  obtain⟨us,R,A,q3⟩:=zQN E (λp E=>zUb.1 O p E) I 0 Y;have S:RCs g.bare w (ps.map λp=>p.2.untag) us:=by
   have:=zCL R (λx J=>by
    obtain⟨p,k,rfl⟩:=zVA.1 J;exact zUb.1 O p k)
   simpa [zVr,Function.comp_def]using this
  rw[N]at A;have aa:i.size=P.cellsOf el:=by simp[Program.cellsOf,r]
  have f:(ps.map λp=>p.2.untag).length=n:=by simp[N]
  have c:(Instr.buildSlice t n y.toArray).run P w=.ok (.slice (some ⟨w.heap.size,0,none⟩) n n) (w.alloc (.cells us.toArray el)):=by
   have T:∀C:dv dh,C.size=n*P.cellsOf el->Instr.fill (λi=>some (i*P.cellsOf el,P.cellsOf el)) C y=some us.toArray:=λC q=>by
    have:=q3 C dM;rw[this];simp only[zWa,zUl,zUQ,zUY];rw[A,<-q,<-zVS,List.drop_length,zUR]
   by_cases l:n*P.cellsOf el=0
   .have:=T #[] (by simp[l]);simp[Instr.buildSlice,run_underlying Q,xT M,l,this,newRow,show(Array.range 0:dv Nat)=#[]from rfl]
   .have:=T ((Array.range (n*P.cellsOf el)).map (z.cells[· % z.cells.size]!)) dQ;simp[Instr.buildSlice,run_underlying Q,xT M,l,zeroValue,typeInfo,r,H,this,newRow,show ¬(16777216<n*P.cellsOf el)by omega]
  split at b
  .obtain⟨g',j⟩:=zRu (X:=X) hi R b.1 el [] (n*P.cellsOf el) (by simpa using A);simp only[zUR]at j;exact⟨_,_,g',_,_,b.2 _ (zBp hi),j,yY rfl,c⟩
  .split at b
   .obtain⟨g',j,s⟩:=zIo (X:=X) hi G S el [] n dM W (by simpa using A) false (λe=>fb);simp only[zUR,f]at j s;exact⟨_,_,g',_,_,b,j,s,c⟩
   .obtain⟨g',j,s⟩:=new_no (X:=X) hi G S el [] n dM;simp only[zUR,f]at j s;exact⟨_,_,g',_,_,b,j,s,c⟩
def zHp{t el:dg}(k:P.underlying t=some (.slice el)){tg:Tag}{ys:db V}{l:dh}(n:RV g w (.lst tg ys) l)(p:qL (P.cellsOf el) ys) :
 ∃f,Src P (P.cellsOf el) t l ys.length f w/\RCs g.bare w ys f:=by
 have m:=zBl n;simp only[RC]at m;rcases m with⟨rfl,c,_⟩|⟨b,o,cap,ds,c,s,v,i,x,q⟩
 .injection c with c _
  subst c;exact⟨[],Src.ofNil w k 0,by simp[RCs]⟩
 .injection c with c _
  subst c;have h:=jX p i;refine⟨ds,Src.ofSlice w k ⟨b,o,none⟩ ys.length cap ds h (λj u r=>by rw[jJ];exact(q j u r).1) (zDR _ w _ _ i),i⟩
def zMQ{t el:dg}(p:P.underlying t=some (.slice el))(q:hasT P el=true){k:dh}{m:Nat}{c:db dh}(j:Src P (P.cellsOf el) t k m c w)(ty:dg){b n cap:Nat}{arr:dv dh}{h:dg}
 (r:w.heap[b]?=some (.cells arr h (0,0))) (f:n+m<=cap) (s:cap*P.cellsOf el<=arr.size) :
 (Builtin.append_ #[t,t] ty #[.slice (some ⟨b,0,none⟩) n cap,k]).run P w=.ok (.slice (some ⟨b,0,none⟩) (n+m) cap) (w.setRow b (arr.toList.take (n*P.cellsOf el)++c++arr.toList.drop (n*P.cellsOf el+c.length)).toArray):=by
 have l:n*P.cellsOf el+c.length<=arr.size:=by
  have:(n+m)*P.cellsOf el<=cap*P.cellsOf el:=zVV _ f;rw[zVP]at this;rw[j.newsLen];omega
 have i:=run_storeCells_at (P:=P) b (n*P.cellsOf el) h c 0 arr w r dM j.one;simp only[zVE]at i;simp[Builtin.append_,run_underlying p,xT q,j.len,f,j.cells,jJ,i]
end
open Go.RowKit
section
variable{P:di}{X:Cx}{g:Gh}{w:de}{a:Act}{o:dr}{st:S}{K:V->S->Prop}{KP:db dj->S->Prop}
def zFN{t el:dg}(y:P.underlying t=some (.slice el))(E:hasT P el=true)(A:(xU P el).map List.length=some (P.cellsOf el)){l:dh}{m:Nat}{c:db dh}
 (B:Src P (P.cellsOf el) t l m c w) (ty:dg) {base:da Addr} {n cap:Nat} {olds:db dh} (j:(Builtin.firstCells (P.cellsOf el) n (.slice base n cap)).run P w.drew=.ok olds.toArray w.drew)
 (v:cap<n+m) (C:(n+m)*P.bytesOf el<=140737488355328) (x:n+m<=maxLen) :
 ∃b f,n+m<=b/\b<=maxLen/\f.length=(b-(n+m))*P.cellsOf el /\
  (Builtin.append_ #[t,t] ty #[.slice base n cap,l]).run P w=.ok (.slice (some ⟨w.heap.size,0,none⟩) (n+m) b) (w.drew.alloc (.cells ((olds++c)++f).toArray el)):=by
 obtain⟨z,p,q⟩:=zJe A;obtain⟨i,h,r⟩:=zAP p;have k:i.size=P.cellsOf el:=by simp[Program.cellsOf,h]
 have s:i.bytes=P.bytesOf el:=by simp[Program.bytesOf,h]
 have u:=x;simp only[maxLen]at u;have D:=run_append_grow_src (P:=P) w t t ty el i z y h r base n cap olds (by rw[k];exact j) l m c (by rw[k];exact B) v dM (by rw[s];exact growslice_fits v C);refine⟨_,(Builtin.zeroCells z.cells (grownCap w (n+m) cap el-(n+m))).toList,grownCap_ge w (n+m) cap el,grownCap_le_maxLen w (n+m) cap el x,?_,?_⟩
 .rw[zVS,size_zeroCells,q]
 .rw[D];congr 3;apply zVk;simp
def zJ8{B:Nat}(hi:Inv B g st w){t:Nat}(C:t∈st.tg){b cap n sz:Nat}(D:g.tb t=some (some (b,cap,n,sz))){arr:dv dh}{el:dg}(E:w.heap[b]?=some (.cells arr el (0,0)))
 (arr':dv dh) (hs:arr'.size=arr.size) (hp:∀k,k<n*sz->arr'[k]?=arr[k]?) (m:Nat) :
 Out B g w ⟨λj=>if j=b then(n+m)*sz else g.wm j,g.tb,g.fr⟩ ⟨st.box,st.tg.erase t,st.nx,st.ob⟩ (w.setRow b arr'):=by
 obtain⟨p1,V,p3,p4,p5,W,aa,p6,p7⟩:=hi.own t C b cap n sz D;have c:∀j,j≠b->(w.setRow b arr').heap[j]?=w.heap[j]?:=λj h=>setRow_other w b j _ h;have p:=setRow_heap w b arr arr' el (0,0) E;have F:g.wm b<=(n+m)*sz:=by rw[V];exact zVV _ dM
 have q:dD g w ⟨λj=>if j=b then(n+m)*sz else g.wm j,g.tb,g.fr⟩ (w.setRow b arr'):=by
  refine⟨λj=>?_,λ_ _ e=>e,λj o Y=>?_⟩
  .show g.wm j<=if j=b then(n+m)*sz else g.wm j
   split
   .rename_i e;subst e;exact F
   .exact zUB _
  .by_cases e:j=b
   .subst e;rw[cell_of_row _ j o arr' el (0,0) p,cell_of_row _ j o arr el (0,0) E];exact hp o (by rw[V]at Y;exact Y)
   .exact World.cell?_of_block (c j e)
 have G:=hi.base;obtain⟨H,I⟩:=hi.rowFr C D;have u:∀j,g.fr j=true->j≠b:=λj h e=>by subst e;rw[H]at h;cases h
 refine⟨⟨q,⟨rfl,rfl,rfl,dQ,λj h=>c j dM⟩,λj h=>⟨c j (u j h),if_neg (u j h)⟩,λj h=>if_neg dM,rfl⟩,?_⟩
 .have s:=hi.dropTag t;have ab:b<w.heap.size:=(zUH.1 E).1;refine⟨by simpa using s.base,?_,s.tag,?_,s.dist,s.nodup,λj h=>?_,s.names,s.ex.step q dQ rfl rfl (λi o fp v j h=>?_) (λ_ e _=>e) (λ_ _ e=>e)⟩
  .intro i cs k v;obtain⟨J,M,N,O,l,r,Q,R,S,T,q8⟩:=hi.box i cs k v;have f:i≠b:=λe=>by subst e;rw[p5]at v;cases v
   exact⟨J,by show(if i=b then _ else g.wm i)=0;rw[if_neg f];exact M,N,O,l,r,Q,by rw[c i f];exact R,S,yE q _ _ T,q8⟩
  .intro Z x i y n' U z;have A:=zWX x;obtain⟨J,M,N,O,R,l,r,S,T⟩:=hi.own Z A i y n' U z;have f:i≠b:=λe=>by
    subst e;have:=hi.dist t C Z A i _ _ D z;subst this;exact(zWn hi.nodup) x
   exact⟨J,by show(if i=b then _ else g.wm i)=_;rw[if_neg f];exact M,N,O,R,l,r,by rw[c i f];exact S,T⟩
  .show(if j=b then _ else g.wm j)=0;simp only[setRow_size]at h;rw[if_neg dM];exact hi.fresh j h
  .have f:j≠b:=λe=>by subst e;exact I i o fp v h
   exact⟨c j f,if_neg f⟩
def zGL{sz:Nat}{xs ys:db V}(h:qL sz xs)(b:qL sz ys):qL sz (xs++ys):=λx c=>(zUa.1 c).elim (h x) (b x)
def append_nil{t el:dg}(p:P.underlying t=some (.slice el))(x:hasT P el=true)(H:(xU P el).map List.length=some (P.cellsOf el))
 {q:Tag} {ys:db V} (r:qL (P.cellsOf el) ys) (I:ys.length*P.bytesOf el<=140737488355328) (R:ys.length<=maxLen)
 (hi:Inv X.B g st w) {y:dh} (J:RV g w (.lst q ys) y) (ty:dg) (z:K (.lst (.own st.nx true (P.cellsOf el)) ys) ⟨st.box,st.nx::st.tg,st.nx+1,st.ob⟩) :
 ∃v u g' i w',K v i/\Out X.B g w g' i w'/\RV g' w' v u/\(Builtin.append_ #[t,t] ty #[.slice none 0 0,y]).run P w=.ok u w':=by
 obtain⟨A,b,C⟩:=zHp p J r;by_cases D:ys.length=0
 .have s:ys=[]:=zVh D;subst s;obtain⟨M,N⟩:=hi.addTag rfl none (λ_ _ _ _ e=>fb);have j:=b.len;have k:=b.cells;simp only[zUF]at j k;refine⟨_,.slice none 0 0,_,_,w,z,⟨⟨N,.refl _ _,λ_ _=>⟨rfl,rfl⟩,λ_ _=>rfl,rfl⟩,M⟩,qg ?_,?_⟩
  .simp only[RC];exact .inl ⟨trivial,trivial,if_pos rfl,rfl⟩
  .simp[Builtin.append_,run_underlying p,xT x,j,k]
 .obtain⟨l,f,E,O,F,c⟩:=zFN p x H b ty (base:=none) (n:=0) (cap:=0) (olds:=[]) (by simp[Builtin.firstCells]) dM (by simpa using I) dM;simp only[zUY,zUQ]at E F c;have h:=zCB hi (w.drawn+1);have m:=jX r C;obtain⟨g',G,Q⟩:=zIo (X:=X) (w:=w.drew) h.inv r (yE h.step.later.bare _ _ C) el f l E O (by rw[m,F,<-zVP];congr 1;omega) true (λ_=>D);exact⟨_,_,g',_,_,z,⟨h.step.trans G.step,G.inv⟩,Q,c⟩
def zOT{t el:dg}(hu:P.underlying t=some (.slice el))(h1:hasT P el=true)(hz:(xU P el).map List.length=some (P.cellsOf el))
 {ac:Tag} {ys:db V} (R:qL (P.cellsOf el) ys) {C:Nat} {O:dd} {es:db V} (p:C∈st.tg) (hb:(es.length+ys.length)*P.bytesOf el<=140737488355328) (hm:es.length+ys.length<=maxLen)
 (hi:Inv X.B g st w) {us ux:dh} (ad:RV g w (.lst (.own C O (P.cellsOf el)) es) us) (A:RV g w (.lst ac ys) ux) (ty:dg)
 (m:K (.lst (.own st.nx O (P.cellsOf el)) (es++ys)) ⟨st.box,st.nx::st.tg.erase C,st.nx+1,st.ob⟩) :
 ∃v u g' S w',K v S/\Out X.B g w g' S w'/\RV g' w' v u/\(Builtin.append_ #[t,t] ty #[us,ux]).run P w=.ok u w':=by
 have hl:=zBl ad;simp only[RC]at hl;have q:=hi.dropTag C;rcases hl with⟨rfl,l,ak,rfl⟩|⟨b,o,cap,ds,l,hc,⟨r,rfl,ae⟩,H,⟨sz,T,U⟩,ha⟩
 .injection l with l _
  subst l;simp only[zUQ]at m;exact append_nil (st:=⟨st.box,st.tg.erase C,st.nx,st.ob⟩) hu h1 hz R (by simpa using hb) (by simpa using hm) q A ty m
 .injection l with l _
  subst l;obtain⟨p1,p2,p3,p4,p5,arr,D,p6,p7⟩:=hi.own C p b cap es.length _ r;obtain⟨f,E,I⟩:=zHp hu A R;have F:ds.length=es.length*P.cellsOf el:=by
   rcases U C O _ rfl with e|e
   .rw[yc _ w es ds H];exact(yc _ w es ds H).symm.trans (jX (λx A=>(T x A).trans e.symm) H)
   .subst e;simp only[RCs]at H;subst H;simp
  have W:qL (P.cellsOf el) es:=by
   rcases U C O _ rfl with e|e
   .exact λx A=>(T x A).trans e.symm
   .subst e;exact λx A=>by cases A
  have J:=jX R I;have Y:O=true->(es++ys).length≠0:=λe=>by have:=ae e;simp;intro h;subst h;simp at this
  by_cases i:es.length+ys.length<=cap
  .have y:=zMQ hu h1 E ty p6 i dM;have ag:(es.length+ys.length)*P.cellsOf el<=cap*P.cellsOf el:=zVV _ i;rw[zVP]at ag;have Z:arr.toList.take (es.length*P.cellsOf el)=ds:=by
    apply zWA;intro k;rw[zU6];split
    .have m:k<ds.length:=dM
     have:=(ha k ds[k] (by simp[m])).1;rw[zUY,cell_of_row w b k arr D (0,0) p6]at this;rw[zUj m,<-this];simp
    .rw[zWD dM]
   have G:(arr.toList.take (es.length*P.cellsOf el)++f++arr.toList.drop (es.length*P.cellsOf el+f.length)).toArray.size=arr.size:=by simp;omega
   have Q:=zJ8 (B:=X.B) hi p r p6 (arr.toList.take (es.length*P.cellsOf el)++f++arr.toList.drop (es.length*P.cellsOf el+f.length)).toArray G
    (λk m=>by
     rw[zWW,zVB,zWM d4,zU6,if_pos m];simp) ys.length
   have z:=setRow_heap w b arr (arr.toList.take (es.length*P.cellsOf el)++f++arr.toList.drop (es.length*P.cellsOf el+f.length)).toArray D (0,0) p6;obtain⟨i2,l2⟩:=Q.inv.addTag rfl (some (b,cap,es.length+ys.length,P.cellsOf el)) (λb' c n s e=>by
    injection e with e;injection e with e1 e;injection e with e2 e;injection e with e3 e4
    subst e1;subst e2;subst e3;subst e4;refine⟨p1,if_pos rfl,i,p4,p5,⟨_,D,z,by rw[G];exact p7⟩,λt ht x A=>?_,(hi.rowFr p r).1,(hi.rowFr p r).2⟩;have ah:=zWX ht;have:=hi.dist C p t ah b _ x r A;subst this;exact(zWn hi.nodup) ht)
   refine⟨_,_,_,_,_,m,⟨Q.step.trans ⟨l2,.refl _ _,λ_ _=>⟨rfl,rfl⟩,λ_ _=>rfl,rfl⟩,i2⟩,qg ?_,y⟩;have ai:=yE (Q.step.later.trans l2).bare _ _ (jj H I);simp only[RC];refine .inr ⟨b,0,cap,ds++f,by rw[zUI],by rw[zUI];exact i,⟨by rw[zUI];exact if_pos rfl,rfl,Y⟩,ai,
    ⟨P.cellsOf el,zGL W R,λ_ _ _ e=>by cases e;exact .inl rfl⟩,?_⟩
   intro k u m;have aj:k<ds.length+f.length:=by
    rcases zUx k (ds++f).length with h|h
    .simpa using h
    .rw[zWD h]at m;cases m
   refine⟨?_,?_⟩
   .rw[zUY,cell_of_row _ b k _ D (0,0) z,Z,zWW,zWM (by simpa using aj)];exact m
   .show 0+k<if b=b then(es.length+ys.length)*P.cellsOf el else g.wm b
    rw[if_pos rfl,zVP];omega
  .have aa:(Builtin.firstCells (P.cellsOf el) es.length (.slice (some ⟨b,0,none⟩) es.length cap)).run P w.drew=.ok ds.toArray w.drew:=
    run_firstCells_some w.drew _ es.length ⟨b,0,none⟩ es.length cap ds F (λj u hj=>by rw[jJ];exact(ha j u hj).1)
   obtain⟨ab,M,c1,c2,c3,y⟩:=zFN hu h1 hz E ty aa dM hb hm;have N:=zCB q (w.drawn+1);obtain⟨g',Q,hv⟩:=zIo (X:=X) (w:=w.drew) N.inv (zGL W R) (yE N.step.later.bare _ _ (jj H I)) el M ab (by simpa using c1) c2
    (by rw[zUI,F,J,c3,<-zVP,<-zVP];congr 1;omega) O Y
   rw[zUI]at hv;exact⟨_,_,g',_,_,m,⟨N.step.trans Q.step,Q.inv⟩,hv,y⟩
end
open Go.RowKit
section
variable{P:di}{X:Cx}{g:Gh}{w:de}{a:Act}{o:dr}{st:S}{K:V->S->Prop}{KP:db dj->S->Prop}
def Inv.sameBox{B:Nat}{g:Gh}{st:S}{w:de}(h:Inv B g st w){f:db (Nat×db V×Nat)}(e:∀j,look f j=look st.box j):Inv B g ⟨f,st.tg,st.nx,st.ob⟩ w:=
 h.weaken ⟨λb c i=>(e b).symm.trans i,λ_ k=>k,λl=>l,λb i=>(e b).trans i,zUB _,λ_ _ h=>h⟩
def zJl(hi:Inv X.B g st w){fs:db V}{us:db dh}(h:RCs g w fs us)(i:zM fs)(el:dg)(c:db dh)(k:Nat)(n:us.length+c.length=k) :
 ∃g',Out X.B g w g' ⟨lay st.box w.heap.size (fs,k),st.tg,st.nx,st.ob⟩ (w.alloc (.cells (us++c).toArray el)):=by
 have j:=yc g w _ _ h;rw[xZ i]at j;have f:=zCk hi (us++c).toArray el 0;refine⟨_,⟨f.step,?_⟩⟩;have:=f.inv.addBox (b:=w.heap.size) (arr:=(us++c).toArray) (el:=el) (cs:=fs) (us:=us) hi.base (if_pos rfl) (zBb w _) d4 (kG i)
  (yE f.step.later _ _ h) (by simp[<-j]) (by intro t l d m;exact zD0 hi t l d m) hi.newFr hi.newOb
 have e:(us++c).toArray.size=k:=by simp;omega
 rw[e]at this;exact this
def zG6{fs:db V}(h:zM fs)(n:Nat):zM (fs.take n):=by
 unfold zM at *;rw[zUb]at *;exact λc b=>h c (zVG b)
def zFi{fs b:db V}(h:zM fs)(c:zM b):zM (fs++b):=by
 unfold zM at *;rw[List.all_append,h,c];rfl
def zEW{t el:dg}(A:P.underlying t=some (.slice el))(C:hasT P el=true)(D:(xU P el).map List.length=some (P.cellsOf el))
 {m:Nat} {p:db V} {c:db dh} {s:dh} (E:m*P.bytesOf el<=140737488355328) (H:m<=maxLen) (I:m≠0) (q:zM p)
 (hi:Inv X.B g st w) (j:Src P (P.cellsOf el) t s m c w) (F:RCs g w p c) (k:c.length=m*P.cellsOf el) (ty:dg)
 (G:∀b cap,look st.box b=none->m<=cap->K (.at (.slice (some ⟨b,0,none⟩) m cap)) ⟨lay st.box b (p,cap*P.cellsOf el),st.tg,st.nx,st.ob⟩) :
 ∃v u g' l w',K v l/\Out X.B g w g' l w'/\RV g' w' v u/\(Builtin.append_ #[t,t] ty #[.slice none 0 0,s]).run P w=.ok u w':=by
 obtain⟨f,i,x,J,y,h⟩:=zFN A C D j ty (base:=none) (n:=0) (cap:=0) (olds:=[]) (by simp[Builtin.firstCells]) dM (by simpa using E) dM;simp only[zUY,zUQ]at x y h;have r:=zCB hi (w.drawn+1);obtain⟨g',z⟩:=zJl (X:=X) (w:=w.drew) r.inv (yE r.step.later _ _ F) q el i (f*P.cellsOf el) (by rw[k,y,<-zVP];congr 1;omega);exact⟨_,_,g',_,_,G _ f (zBp hi) x,⟨r.step.trans z.step,z.inv⟩,yY rfl,h⟩
def zEr{t el:dg}(R:P.underlying t=some (.slice el))(S:hasT P el=true)(Z:(xU P el).map List.length=some (P.cellsOf el))
 {m:Nat} {x:db V} {c:db dh} {T:dh} {b len cap:Nat} {cs:db V} (U:look st.box b=some (cs,cap*P.cellsOf el)) (aa:len<=cap) (I:len*P.cellsOf el<=cs.length)
 (hb:(len+m)*P.bytesOf el<=140737488355328) (hm:len+m<=maxLen) (y:zM x)
 (hi:Inv X.B g st w) (p:Src P (P.cellsOf el) t T m c w) (z:RCs g w x c) (r:c.length=m*P.cellsOf el) (ty:dg)
 (W:∀J f,look (wipe st.box b) J=none->len+m<=f->K (.at (.slice (some ⟨J,0,none⟩) (len+m) f)) ⟨lay (wipe st.box b) J (cs.take (len*P.cellsOf el)++x,f*P.cellsOf el),st.tg,st.nx,st.ob⟩) :
 ∃v u g' A w',K v A/\Out X.B g w g' A w'/\RV g' w' v u/\(Builtin.append_ #[t,t] ty #[.slice (some ⟨b,0,none⟩) len cap,T]).run P w=.ok u w':=by
 obtain⟨p1,p2,p3,p4,arr,M,us,N,p6,Y,p8⟩:=hi.box b cs _ U;have i:zM cs:=by unfold zM;rw[zUb];exact p4
 have C:=yc g w cs us Y;rw[xZ i]at C;have O:=yc g w _ _ z;rw[xZ y]at O;have k:RCs g w (cs.take (len*P.cellsOf el)++x) (us.take (len*P.cellsOf el)++c):=jj (xV i Y _).1 z;have l:=zFi (zG6 i (len*P.cellsOf el)) y;have q:us.take (len*P.cellsOf el)=arr.toList.take (len*P.cellsOf el):=by
  rw[<-p8,zWd];congr 1;omega
 by_cases h:len+m<=cap
 .have n:=zMQ R S p ty N h dM;have Q:(len+m)*P.cellsOf el<=cap*P.cellsOf el:=zVV _ h;rw[zVP]at Q;have D:(arr.toList.take (len*P.cellsOf el)++c++arr.toList.drop (len*P.cellsOf el+c.length)).toArray.size=arr.size:=by simp;omega
  have E:=zIT (B:=X.B) hi U N _ D (cs.take (len*P.cellsOf el)++x) (us.take (len*P.cellsOf el)++c) d4 (kG l) k (by
   rw[q];have e:(cs.take (len*P.cellsOf el)++x).length=(arr.toList.take (len*P.cellsOf el)++c).length:=by simp;omega
   rw[e];exact zWs)
  refine⟨_,_,_,_,_,W b cap (by rw[yR,if_pos rfl]) h,⟨E.step,?_⟩,yY rfl,n⟩;refine E.inv.sameBox λj=>?_;rw[zO,zO,yR];by_cases e:b=j
  .rw[if_pos e,if_pos e]
  .rw[if_neg e,if_neg e,if_neg e]
 .have F:(Builtin.firstCells (P.cellsOf el) len (.slice (some ⟨b,0,none⟩) len cap)).run P w.drew=.ok (us.take (len*P.cellsOf el)).toArray w.drew:=
   run_firstCells_some w.drew _ len ⟨b,0,none⟩ len cap _ d4 (λj u G=>by
    rw[jJ,zUY];show w.cell? _=_;rw[cell_of_row w b j arr M (0,0) N];rw[q,zU6]at G;split at G
    .simpa using G
    .cases G)
  obtain⟨f,s,c1,c2,c3,n⟩:=zFN R S Z p ty F dM hb hm;have H:=zCB (hi.dropBox b) (w.drawn+1);obtain⟨g',E⟩:=zJl (X:=X) (w:=w.drew) H.inv (yE H.step.later _ _ k) l el s (f*P.cellsOf el) (by
   rw[zUI,zVH,c3,r,C,Nat.min_eq_left I,<-zVP,<-zVP];congr 1;omega)
  exact⟨_,_,g',_,_,W _ f (zBp H.inv) c1,⟨H.step.trans E.step,E.inv⟩,yY rfl,n⟩
def zOH{t el:dg}(s:P.underlying t=some (.slice el)){b m cap:Nat}{cs:db V}{k:Nat}(hi:Inv X.B g st w)(v:look st.box b=some (cs,k))(x:m*P.cellsOf el<=cs.length) :
 ∃c,Src P (P.cellsOf el) t (.slice (some ⟨b,0,none⟩) m cap) m c w/\RCs g w (cs.take (m*P.cellsOf el)) c/\zM (cs.take (m*P.cellsOf el))/\c.length=m*P.cellsOf el:=by
 obtain⟨C,D,E,y,arr,n,us,z,F,q,A⟩:=hi.box b cs _ v;have f:zM cs:=by unfold zM;rw[zUb];exact y
 have p:=yc g w cs us q;rw[xZ f]at p;have r:=(xV f q (m*P.cellsOf el)).1;have h:(us.take (m*P.cellsOf el)).length=m*P.cellsOf el:=by simp;omega
 have i:us.take (m*P.cellsOf el)=arr.toList.take (m*P.cellsOf el):=by
  rw[<-A,zWd];congr 1;omega
 refine⟨us.take (m*P.cellsOf el),Src.ofSlice w s ⟨b,0,none⟩ m cap _ h (λj u l=>?_) (zDR _ w _ _ r),r,zG6 f _,h⟩;rw[jJ,zUY];rw[cell_of_row w b j arr n (0,0) z];rw[i,zU6]at l;split at l
 .simpa using l
 .cases l
def zLE{es:db V}{u:dh}(h:RV g w (.lst .nil es) u):u=.slice none 0 0:=by
 have h:=zBl h;simp only[RC]at h;rcases h with⟨_,c,_⟩|⟨b,o,cap,ds,_,_,f,_⟩
 .injection c
 .exact f.elim
def zML{L:Pol}{M:da Nat}{t S:dg}{s x:V}(h:qz P L M st t S s x K)(hi:Inv X.B g st w){us T:dh}(j:RV g w s us)(I:RV g w x T)(ty:dg) :
 ∃v u g' J w',K v J/\Out X.B g w g' J w'/\RV g' w' v u/\(Builtin.append_ #[t,S] ty #[us,T]).run P w=.ok u w':=by
 unfold qz at h;split at h
 .rename_i el U ys D;obtain⟨rfl,E,F,W,G,l⟩:=h;have q:=kU D;split at l
  .obtain⟨r,f,i⟩:=l;have e:=zLE j;subst e;split at i
   .obtain⟨y,c,z⟩:=zHp q I G;exact zEW q E F r f (λe=>i.1 (zVh e)) i.2.1 hi c (zEC (zBT g w _ _ z)) (jX G z) ty i.2.2
   .exact append_nil q E F G r f hi I ty i
  .rename_i Z nb sz es;obtain⟨r,rfl,f,i,H⟩:=l;exact zOT q E F G r f i hi j I ty H
  .rename_i b len cap;have e:=yG j;subst e;split at l
   .rename_i cs k N;obtain⟨_,rfl,r,f,i,H,n,p⟩:=l;obtain⟨y,c,z⟩:=zHp q I G;exact zEr q E F N r f i H n hi c (zEC (zBT g w _ _ z)) (jX G z) ty p
   .cases l
  .cases l
 .rename_i el bs m O D;obtain⟨rfl,E,F,W,G,l⟩:=h;have q:=kU D;have e:=yG I;subst e;split at l
  .cases l
  .rename_i Y kk Q;obtain⟨r,f⟩:=l;obtain⟨y,c,z,A,C⟩:=zOH (cap:=O) q hi Q r;split at f
   .obtain⟨i,H,n,p⟩:=f;have e:=zLE j;subst e;exact zEW q E F i H n A hi c z C ty p
   .rename_i b len cap;have e:=yG j;subst e;split at f
    .rename_i cs k N;obtain⟨rfl,i,H,n,p,R⟩:=f;exact zEr q E F N i H n p A hi c z C ty R
    .cases f
   .cases f
 .cases h
def zPu{tg:Tag}{es:db V}(h:zGs g tg)(b:es=[]):zGs g (zGh tg es):=by
 subst b;cases tg with
 |nil=>trivial
 |no=>exact h.elim
 |own t c s=>obtain⟨_,rfl⟩:=h;simp[zGh,zx,zGs]
def zRB{tg:Tag}{es:db V}{b o cap:Nat}(h:zFa g es.length b o cap tg):zGh tg es=.no:=by
 cases tg with
 |nil=>exact h.elim
 |no=>rfl
 |own t c s=>
  cases c with
  |false=>rfl
  |true=>have:=h.2.2 rfl;cases es<;>simp at this ⊢;simp[zGh,zx]
def zBP{sz:Nat}:∀{es:db V}{ds:db dh}(_:qL sz es)(_:RCs g w es ds)(n:Nat),RCs g w (es.take n) (ds.take (n*sz))/\RCs g w (es.drop n) (ds.drop (n*sz))
 |[],ds,_,h,n=>by simp only[RCs]at h;subst h;simp[RCs]
 |x::xs,ds,c,h,n=>by
  have j:=h;simp only[RCs]at h;obtain⟨b,k,rfl,f,l⟩:=h;have i:=qh g w x b f;rw[c x dQ]at i;cases n with
  |zero=>simp only[zUl,zUf,zWa];exact⟨by simp[RCs],j⟩
  |succ n=>
   obtain⟨k1,k2⟩:=zBP (es:=xs) (ds:=k) (λy m=>c y (by simp[m])) l n;have p:(n+1)*sz=b.length+n*sz:=by rw[zVP,zVz,i];omega
   rw[p,zWe,zWf];simp only[zUS,zUX];exact⟨by simp only[RCs];exact⟨b,_,rfl,f,k1⟩,k2⟩
def zJt{e:Env}(b:Rel X g e st a w)(x:da dq):(∀v,x.map e.ev=some v->∃u,x.map a.eval=some u/\RV g w v u)/\(x.map e.ev=none->x.map a.eval=none):=by
 cases x with
 |none=>exact⟨λv h=>by simp at h,λ_=>rfl⟩
 |some x=>exact⟨λv h=>by simp at h;subst h;exact⟨_,rfl,b.ev x⟩,λh=>by simp at h⟩
def zMr{t:dg}{x:V}{lo hi:da V}{K:V->Prop}(h:ja P t x lo hi K){R:dh}{c j:da dh}(y:RV g w x R)
 (m:(∀v,lo=some v->∃u,c=some u/\RV g w v u)/\(lo=none->c=none)) (n:(∀v,hi=some v->∃u,j=some u/\RV g w v u)/\(hi=none->j=none)) :
 ∃v u,K v/\RV g w v u/\(Instr.sliceAt t R c j none).run P w=.ok u w:=by
 have O:∀{l:Int},((lo=none/\c=none/\l=0)\/∃k,c=some (.int k l))->(c=none/\l=0)\/∃k,c=some (.int k l):=λh=>h.imp (λh=>⟨h.2.1,h.2.2⟩) id;unfold ja at h;split at h
 .rename_i tg es;split at h
  .cases h
  .rename_i el D;have z:=kU D;obtain⟨G,E,h⟩:=h;obtain⟨l,h,A⟩:=zAW h m.1 m.2;obtain⟨f,h,B⟩:=zAW h n.1 n.2;obtain⟨⟨I,b1,H⟩,q⟩:=h;have S:=zBl y;simp only[RC]at S;rcases S with⟨rfl,p,W⟩|⟨b,o,cap,ds,p,Y,Z,Q,⟨sz,r,aa⟩,T⟩
   .injection p with p _
    subst p;simp only[zUF]at H;have e1:l=0:=dM
    have e2:f=0:=by simp at H;omega
    subst e1;subst e2;have i:=kJ (P:=P) (w:=w) (isS:=true) (len:=0) (cap:=0) (lo:=c) (hi:=j) (O A) (B.imp (λh=>⟨h.2.1,h.2.2⟩) id) dM dM dQ;refine⟨_,.slice none 0 0,q,qg ?_,?_⟩
    .simp only[RC];exact .inl ⟨dQ,trivial,zPu W rfl⟩
    .simp[Instr.sliceAt,Instr.slice,run_underlying z,i,xT G]
   .injection p with p _
    subst p;have F:f<=(cap:Int):=dM
    have i:=kJ (P:=P) (w:=w) (isS:=true) (len:=es.length) (cap:=cap) (lo:=c) (hi:=j) (O A) (B.imp (λh=>⟨h.2.1,h.2.2⟩) id) I b1 F;have J:es=[]\/sz=P.cellsOf el:=by
     rcases E with E|E
     .exact .inl E
     .cases es with
      |nil=>exact .inl rfl
      |cons x xs=>exact .inr ((r x dQ).symm.trans (E x dQ))
    have M:(Instr.sliceAt t (.slice (some ⟨b,o,none⟩) es.length cap) c j none).run P w=.ok (.slice (if cap=l.toNat then some ⟨b,o,none⟩else some ⟨b,o+l.toNat*P.cellsOf el,none⟩) (f.toNat-l.toNat) (cap-l.toNat)) w:=by
     simp only[Instr.sliceAt,Instr.slice,Sem.run_bind,run_underlying z,Result.andThen_ok,i,xT G,Sem.run_pure];congr 2;split
     .rfl
     .simp[jJ]
    refine⟨_,_,q,qg ?_,M⟩;rw[zRB Z];have C:((es.take f.toNat).drop l.toNat).length=f.toNat-l.toNat:=by simp;omega
    simp only[RC];refine .inr ⟨b,if cap=l.toNat then o else o+l.toNat*P.cellsOf el,cap-l.toNat,(ds.take (f.toNat*sz)).drop (l.toNat*sz),?_,by rw[C];omega,trivial,?_,?_,?_⟩
    .rw[C];split<;>rfl
    .exact(zBP (λx y=>r x (zVG y)) (zBP r Q f.toNat).1 l.toNat).2
    .exact⟨sz,λx y=>r x (zVG (zVp y)),λ_ _ _ e=>fb⟩
    .have ab:ds.length=es.length*sz:=jX r Q;by_cases N:cap=l.toNat
     .rw[if_pos N];have:(ds.take (f.toNat*sz)).drop (l.toNat*sz)=[]:=by
       apply zWS;rw[zVH];have:f.toNat*sz<=l.toNat*sz:=zVV _ dM;omega
      rw[this];intro k u q;simp at q
     .rw[if_neg N];rcases J with rfl|rfl
      .simp only[RCs]at Q;subst Q;intro k u q;simp at q
      .have:=T.sub (l.toNat*P.cellsOf el) (f.toNat*P.cellsOf el-l.toNat*P.cellsOf el)
       rwa [List.take_drop,Nat.add_sub_cancel' (zVV _ dM)]at this
 .rename_i b o len cap;have e:=yG y;subst e;split at h
  .cases h
  .rename_i el D;have z:=kU D;obtain⟨G,h⟩:=h;obtain⟨l,h,A⟩:=zAW h m.1 m.2;obtain⟨f,h,B⟩:=zAW h n.1 n.2;obtain⟨⟨I,b1,H⟩,q⟩:=h;have i:=kJ (P:=P) (w:=w) (isS:=true) (len:=len) (cap:=cap) (lo:=c) (hi:=j) (O A) (B.imp (λh=>⟨h.2.1,h.2.2⟩) id) I b1 H;refine⟨_,_,q,yY rfl,?_⟩;simp only[Instr.sliceAt,Instr.slice,Sem.run_bind,run_underlying z,Result.andThen_ok,i,xT G,Sem.run_pure];congr 2;by_cases N:cap=l.toNat
   .rw[if_pos N,if_pos dM]
   .rw[if_neg N,if_neg dM];simp[jJ]
 .rename_i s;have z:=zEG h.1;have e:=yG y;subst e;obtain⟨l,h,A⟩:=zAW h.2 m.1 m.2;obtain⟨f,h,B⟩:=zAW h n.1 n.2;obtain⟨⟨I,b1,H⟩,q⟩:=h;have i:=kJ (P:=P) (w:=w) (isS:=false) (len:=s.size) (cap:=s.size) (lo:=c) (hi:=j) (O A) (B.imp (λh=>⟨h.2.1,h.2.2⟩) id) I b1 H;refine⟨_,_,q,yY rfl,?_⟩;simp[Instr.sliceAt,Instr.slice,run_underlying z,i]
 .rename_i fs;obtain⟨G,E,h3,rfl,rfl,q⟩:=h;obtain⟨e,z,he,Y,T⟩:=zJK G;obtain⟨b,o,ds,rfl,q1,q2⟩:=zDF y;have A:=m.2 rfl;have B:=n.2 rfl;subst A;subst B;have i:=kJ (P:=P) (w:=w) (isS:=false) (len:=fs.length) (cap:=fs.length) (lo:=none) (hi:=none) (l:=0) (h:=fs.length) (.inl ⟨rfl,rfl⟩) (.inl ⟨rfl,rfl⟩) dM dM dM;have U:0<fs.length:=List.length_pos_iff.2 h3;refine⟨_,.slice (some ⟨b,o,none⟩) fs.length fs.length,q,qg ?_,?_⟩
  .simp only[RC];exact .inr ⟨b,o,fs.length,ds,rfl,zUB _,trivial,by simpa only[RC]using q1,⟨1,λx y=>zDi (zUb.1 E x y),λ_ _ _ e=>fb⟩,q2⟩
  .simp only[Instr.sliceAt,Sem.run_bind,run_underlying z,Result.andThen_ok,Instr.sureAddr,Sem.run_pure,i,xT he];congr 2;rw[if_neg dM];simp[jJ]
 .cases h
end
open Go.RowKit
section
variable{P:di}{X:Cx}{g:Gh}{w:de}{a:Act}{o:dr}{st:S}{K:V->S->Prop}{KP:db dj->S->Prop}
def zJv{t e:dg}(h:mapT P t=some e):∃k,P.underlying t=some (.map k e)/\P.underlying k=some .string:=by
 unfold mapT at h;split at h
 .rename_i k e' b;split at h
  .rename_i c;injection h with h
   subst h;exact⟨k,b,c⟩
  .cases h
 .cases h
def zBi{k:dg}(c:P.underlying k=some .string)(b:dd)(n:Nat)(s:dk):(Instr.checkKey b (n+1) k (.string s)).run P w=.ok () w:=by
 unfold Instr.checkKey;simp[Sem.run_bind,run_underlying c]
def zBF{k:dg}(b:P.underlying k=some .string){s:dk}{es:db MapEntry}{r:da (Nat×dh)}(h:Instr.findNow .string (.string s) es 0=some r):(Instr.findKey k (.string s) es).run P w=.ok r w:=by
 unfold Instr.findKey;simp[Sem.run_bind,run_underlying b,h]
def zB0{b c:Nat}{arr:dv MapEntry}(f:w.heap[b]?=some (.map arr c)):(getObj b).run P w=.ok (.map arr c) w:=by simp[getObj,Sem.run,f]
def zRt(z:dh)(h:one z=true):z=pack (cV1 z) [z]:=by
 unfold cV1;split<;>first|rfl|(simp[one]at h;done)|simp_all [pack]
def RV1_nm{x:V}{u:dh}(h:RV1 g.bare w x u):RV1 g w x u:=by
 obtain⟨us,b,c⟩:=h;exact⟨us,zE2 g w x us b,c⟩
def zI0{v:V}{u:dh}(h:RV1 g w v u)(c b:dd):RV g w (outV c v b) (if c=true then .tuple #[u,.bool b]else u):=by
 unfold outV;split
 .exact⟨[u,.bool b],.cons h (.cons ⟨[.bool b],by simp[RC,one],rfl⟩ .nil),rfl⟩
 .exact RV.of_RV1 h
def zMO{t:dg}{x i:V}{c:dd}{K:V->Prop}(h:zAO P st t x i c K)(hi:Inv X.B g st w){E F:dh}(G:RV g w x E)(n:RV g w i F) :
 ∃v u,K v/\RV g w v u/\(Instr.lookup t E F c).run P w=.ok u w:=by
 unfold zAO at h;split at h
 .rename_i e s J;obtain⟨k,p,f⟩:=zJv J;have M:=yG n;subst M;split at h
  .rename_i z N;obtain⟨H,h⟩:=h;obtain⟨O,q,r⟩:=zAP N;have l:(zeroValue e).run P w=.ok z w:=by simp[zeroValue,typeInfo,q,r]
   have m:RV1 g w (cV1 z) z:=⟨[z],zK4 g w z H,zRt z H⟩;split at h
   .have y:=yG G;subst y;refine⟨_,_,h,zI0 m c false,?_⟩;have Q:Instr.findNow .string (.string s) [] 0=some none:=rfl;simp[Instr.lookup,Sem.run_bind,run_underlying p,zBi f,zBF f Q,l]
   .rename_i b;have y:=yG G;subst y;split at h
    .rename_i o fp R;obtain⟨⟨_,arr,A,I,S⟩,_⟩:=hi.ex.ob b _ fp R;rcases zEI s 0 S with⟨C,D⟩|⟨v,u,j,C,D,T,_,_,_⟩
     .rw[C]at h;refine⟨_,_,h,zI0 m c false,?_⟩;simp[Instr.lookup,Sem.run_bind,run_underlying p,zB0 I,zBi f,zBF f D,l]
     .rw[C]at h;refine⟨_,_,h,zI0 (RV1_nm D) c true,?_⟩;simp[Instr.lookup,Sem.run_bind,run_underlying p,zB0 I,zBi f,zBF f T]
    .cases h
   .cases h
  .cases h
 .cases h
def zK(k:Nat)(c:OV×db Nat)(r:db (Nat×OV×db Nat))(b:Nat):zE ((k,c)::r) b=if k=b then some c else zE r b:=rfl
def zJ9(h:zHB st K)(hi:Inv X.B g st w)(t:dg) :
 ∃v u g' n w',K v n/\Out X.B g w g' n w'/\RV g' w' v u/\(Instr.makeMap t none).run P w=.ok u w':=by
 have x:zE st.ob w.heap.size=none:=by
  cases D:zE st.ob w.heap.size with
  |none=>rfl
  |some p=>exact absurd ((hi.ex.ob _ p.1 p.2 D).2.2 _ (hi.ex.ob _ p.1 p.2 D).2.1).2.1 (zWu _)
 have y:=zBp hi;have z:=zD0 hi;have i:∀b,b<w.heap.size->(w.alloc (.map #[] 0)).heap[b]?=w.heap[b]?:=λb m=>zD5 w _ b m;have G:(w.alloc (.map #[] 0)).heap.size=w.heap.size+1:=dQ
 have E:dD g w g (w.alloc (.map #[] 0)):=zFg hi.fresh i (λ_=>zUB _) (λ_ _ e=>e);have m:dC X.B w (w.alloc (.map #[] 0)):=(Below.refl _ _).alloc hi.base _;have f:=hi.grow (w':=w.alloc (.map #[] 0)) E dM i (λ_ _=>rfl) (λb m=>hi.fresh b dM) rfl rfl;refine⟨_,.map (some w.heap.size),g,_,w.alloc (.map #[] 0),h _ x,⟨⟨E,m,λb m=>⟨i b (hi.ex.frz b m).1,rfl⟩,λ_ _=>rfl,rfl⟩,?_⟩,yY rfl,rfl⟩;refine⟨f.base,f.box,f.tag,f.own,f.dist,f.nodup,f.fresh,f.names,f.ex.frz,λb o fp c=>?_,λb o fp F o' q j l k A C=>?_,f.ex.ft⟩
 .rw[zK]at c;split at c
  .rename_i r;injection c with c
   injection c with H s
   subst r;subst H;subst s;refine⟨⟨rfl,#[],0,zBb w _,rfl⟩,dQ,λj I=>?_⟩;have:j=w.heap.size:=by simpa using I
   subst this;exact⟨hi.base,dM,hi.fresh _ (zUB _),y,z,hi.newFr⟩
  .exact f.ex.ob b o fp c
 .rw[zK]at l k;split at l
  .rename_i r;injection l with l
   injection l with _ s
   subst r;subst s;have:j=w.heap.size:=by simpa using A
   subst this;split at k
   .assumption
   .exact absurd C (hi.newOb F o' q k)
  .split at k
   .rename_i r;injection k with k
    injection k with _ s
    subst r;subst s;have:j=w.heap.size:=by simpa using C
    subst this;exact absurd A (hi.newOb b o fp l)
   .exact f.ex.obd b o fp F o' q j l k A C
def zCR{w:de}{b:Nat}{o:Obj}(o':Obj)(h:w.heap[b]?=some o):(w.putObj b o').heap[b]?=some o':=by
 have c:=(zUH.1 h).1;simp[World.putObj,c]
def zAa{w:de}{b c:Nat}{arr:dv MapEntry}(h:w.heap[b]?=some (.map arr c))(o:Nat):w.cell? ⟨b,o,none⟩=none:=by simp[World.cell?,h]
def zFY{B:Nat}(hi:Inv B g st w){b v clock':Nat}{o o':MC}{fp:db Nat}{arr arr':dv MapEntry}(H:zE st.ob b=some (.mp o,fp))(I:w.heap[b]?=some (.map arr v))
 (hr:MapR g (w.putObj b (.map arr' clock')) o' arr'.toList):Out B g w g ⟨st.box,st.tg,st.nx,(b,.mp o',fp)::st.ob⟩ (w.putObj b (.map arr' clock')):=by
 obtain⟨⟨J,_⟩,hm,A⟩:=hi.ex.ob b _ fp H;subst J;obtain⟨j1,j2,j3,j4,j5,j6⟩:=A b dQ;have c:∀j,j≠b->(w.putObj b (.map arr' clock')).heap[j]?=w.heap[j]?:=λj h=>World.putObj_heap_other h;have q:=zCR (.map arr' clock') I;have i:(w.putObj b (.map arr' clock')).heap.size=w.heap.size:=by simp[World.putObj]
 have x:dD g w g (w.putObj b (.map arr' clock')):=⟨λ_=>zUB _,λ_ _ e=>e,λj o ho=>by
  by_cases e:j=b
  .subst e;rw[zAa q,zAa I]
  .exact World.cell?_of_block (c j e)⟩
 have C:∀{j:Nat}{a:dv dh}{el:dg}{m:Nat×Nat},w.heap[j]?=some (.cells a el m)->j≠b:=λh e=>by subst e;rw[I]at h;cases h
 refine⟨⟨x,⟨rfl,rfl,rfl,by rw[i];exact zUB _,λj h=>c j dM⟩,λj h=>⟨c j (λe=>by subst e;rw[j6]at h;cases h),rfl⟩,λ_ _=>rfl,rfl⟩,?_⟩;refine⟨by rw[i];exact hi.base,λr cs k f=>?_,hi.tag,λt ht r cap n sz M=>?_,hi.dist,hi.nodup,λj h=>hi.fresh j (by rw[i]at h;exact h),hi.names,λj h=>?_,λr N p f=>?_,λb1 o1 O b2 N p j h1 h2 h3 h4=>?_,hi.ex.ft⟩
 .obtain⟨Q,R,S,T,l,y,U,F,G,V,q8⟩:=hi.box r cs k f;exact⟨Q,R,S,T,l,y,U,(c r (C F)).trans F,G,yE x _ _ V,q8⟩
 .obtain⟨Q,R,S,T,F,l,y,G,V⟩:=hi.own t ht r cap n sz M;exact⟨Q,R,S,T,F,l,y,(c r (C G)).trans G,V⟩
 .rw[i];exact hi.ex.frz j h
 .rw[zK]at f;split at f
  .rename_i D;injection f with f
   injection f with e2 W
   subst D;subst e2;subst W;refine⟨⟨rfl,arr',clock',q,hr⟩,hm,λj hj2=>?_⟩;rw[i];exact A j hj2
  .rename_i D;obtain⟨k1,k2,k3⟩:=hi.ex.ob r N p f;refine⟨k1.local x (λj hj2=>c j (λe=>?_)),k2,λj hj2=>by rw[i];exact k3 j hj2⟩;subst e;exact D (hi.ex.obd j (.mp o) [j] r N p j H f dQ hj2)
 .have s:∀{Y:Nat}{E:OV}{z:db Nat},zE ((b,.mp o',[b])::st.ob) Y=some (E,z)->∃Z,zE st.ob Y=some (Z,z):=λ{Y E z} u=>by
   rw[zK]at u;split at u
   .rename_i D;injection u with u
    injection u with _ W
    subst D;subst W;exact⟨.mp o,H⟩
   .exact⟨E,u⟩
  obtain⟨E,u⟩:=s h1;obtain⟨Z,h6⟩:=s h2;exact hi.ex.obd b1 E O b2 Z p j u h6 h3 h4
def zH6{w:de}{b c:Nat}{arr:dv MapEntry}(o':Obj)(h:w.heap[b]?=some (.map arr c)):(setObj b o').run P w=.ok () (w.putObj b o'):=by
 have f:=(zUH.1 h).1;simp[setObj,Sem.run,World.putObj,h]
def zHY(s:dk):(Instr.keyThatStays (.string s) (.string s)).run P w=.ok (.string s) w:=by
 unfold Instr.keyThatStays;have:Instr.sameBits 10000 (.string s) (.string s)=true:=zNE s;simp[this]
def zIa{t:dg}{x i y:V}{K:S->Prop}(h:qd P st t x i y K)(hi:Inv X.B g st w){J M l:dh}(R:RV g w x J)(D:RV g w i M)(T:RV g w y l) :
 ∃z w',K z/\Out X.B g w g z w'/\(Instr.mapUpdate t J M l).run P w=.ok () w':=by
 unfold qd at h;cases E:mapT P t with
 |none=>simp only[E]at h
 |some e=>
 simp only[E]at h;obtain⟨k,U,F⟩:=zJv E;split at h
 .rename_i b s _;have W:=yG D;subst W;have Y:=yG R;subst Y;split at h
  .rename_i o fp C;obtain⟨G,N⟩:=h;obtain⟨⟨_,arr,c,f,H⟩,_⟩:=hi.ex.ob b _ fp C;have A:RV1 g.bare w y.untag l:=by
    have Z:RV1 g w y l:=zRd T (λe=>by subst e;simp[V.flat,V.isOne]at G) (λvs e=>by subst e;simp[V.flat,V.isOne]at G);obtain⟨us,k1,k2⟩:=Z;exact⟨us,zBJ k1 (by unfold zM;exact G),by rw[zCz];exact k2⟩
   have m:∀r,(Instr.findKey k (.string s) arr.toList).run P w=.ok r w->(Instr.mapUpdate t (.map (some b)) (.string s) l).run P w=(match r with
    |some (j,_)=>(do let key <-Instr.keyThatStays (((arr[j]?).map (·.key)).getD (.string s)) (.string s);setObj b (.map (arr.modify j λe=>{ e with key,val:=l }) c):Sem dc).run P w
    |none=>(setObj b (.map (arr.push { key:=.string s,val:=l,born:=c }) (c+1))).run P w):=λr hf=>by
    unfold Instr.mapUpdate;simp only[Sem.run_bind,run_underlying U,Result.andThen_ok,zB0 f,zBi F,hf];cases r with
    |none=>rfl
    |some p=>obtain⟨j,u⟩:=p;simp only[Sem.run_bind]
   rcases zEI s 0 H with⟨O,Q⟩|⟨v,u,j,O,Q,h7,h8,h9,I⟩
   .refine⟨_,_,N,?_,(m none (zBF F Q)).trans (zH6 _ f)⟩;refine zFY hi C f ?_;have:=zKx s A c H O;have aa:=(zFY (o':=o) (arr':=arr) (clock':=c) hi C f (H.later ⟨λ_=>zUB _,λ_ _ e=>e,λq o _=>by
     by_cases e:q=b
     .subst e;rw[zAa (zCR _ f),zAa f]
     .exact World.cell?_of_block (World.putObj_heap_other e)⟩)).step.later
    have n:dD g w g (w.putObj b (.map (arr.push { key:=.string s,val:=l,born:=c }) (c+1))):=⟨λ_=>zUB _,λ_ _ e=>e,λq o _=>by
     by_cases e:q=b
     .subst e;rw[zAa (zCR _ f),zAa f]
     .exact World.cell?_of_block (World.putObj_heap_other e)⟩
    have:=this.later n;simpa using this
   .refine⟨_,w.putObj b (.map (arr.modify (0+j) λe=>{ e with key:=.string s,val:=l }) c),N,?_,(m (some (0+j,u)) (zBF F h7)).trans ?_⟩
    rotate_left
    .have e3:((arr[0+j]?).map (·.key)).getD (.string s)=.string s:=by
      rw[zUY];rw[<-zVJ,h9];rfl
     simp only[e3,Sem.run_bind,zHY,Result.andThen_ok];exact zH6 _ f
    .refine zFY hi C f ?_;have n:dD g w g (w.putObj b (.map (arr.modify (0+j) λe=>{ e with key:=.string s,val:=l }) c)):=⟨λ_=>zUB _,λ_ _ e=>e,λq o _=>by
      by_cases e:q=b
      .subst e;rw[zAa (zCR _ f),zAa f]
      .exact World.cell?_of_block (World.putObj_heap_other e)⟩
     have:=(I _ _ A).later n;rw[zUY]at this ⊢;simpa using this
  .cases h
 .cases h
def zLx{g:Gh}{w:de}:∀{es:db V}{us vs:db dh},atsV es=some us->RCs g w es vs->vs=us
 |[],us,vs,h,b=>by
  injection h with h;subst h
  simpa [RCs]using b
 |x::r,us,vs,h,b=>by
  simp only[RCs]at b;obtain⟨l,m,rfl,f,i⟩:=b;unfold atsV at h;split at h
  .rename_i e;cases e
  .rename_i v n e;injection e with j k
   subst j k;cases c:atsV r with
   |none=>rw[c]at h;cases h
   |some ms=>
    rw[c]at h;injection h with h
    subst h;simp only[RC]at f;rw[f.1,zLx c i];rfl
  .cases h
def zRb{x:V}(h:zOo x=true):∃v,x=.at v:=by cases x<;>first|exact⟨_,rfl⟩|cases h
def zMz{α:Type}(f:α->V)(h:α->dh):∀(l:db α),(∀x∈l,RV g w (f x) (h x))->(l.map f).all zOo=true->RCs g.bare w (l.map f) (l.map h)
 |[],_,_=>by simp[RCs]
 |x::r,i,b=>by
  simp only[zUC,zUd,zUE]at b ⊢;have j:=zMz f h r (λy k=>i y (zUW _ k)) b.2;have c:=i x (zUz ..);simp only[RCs];refine⟨[h x],r.map h,rfl,?_,j⟩;obtain⟨v,m⟩:=zRb b.1;rw[m]at c ⊢;have e:=yG c;have o:=zPV c;rw[e];simp[RC,o]
def zOU{f:Fn}{first caps:db dq}{c:dq->V}{b:dq->dh}{K:V->Prop}(h:zIO f (first.map c) (caps.map c) K)(i:∀x,RV g w (c x) (b x)):first=[]/\∃v,K v/\RV g w v (.func f #[] (caps.map b).toArray):=by
 unfold zIO at h;split at h
 .rename_i n j;obtain⟨k,l⟩:=h;refine⟨by simpa using j,_,l,⟨[.func (.func n) #[] (caps.map b).toArray],?_,rfl⟩⟩;simp only[RC];exact⟨caps.map b,zMz c b caps (λx _=>i x) k,rfl⟩
 .cases h
def zKC{t:dg}{x:V}{K:V->Prop}(h:zE5 P t x K){c:dh}(i:RV g w x c):∃v u,K v/\RV g w v u/\(Instr.makeInterface t c).run P w=.ok u w:=by
 obtain⟨j,h⟩:=h;have b:(Instr.makeInterface t c).run P w=.ok (.iface t c) w:=run_makeInterface _ t c j;split at h
 .rename_i v;have e:=yG i;subst e;exact⟨_,_,h,yY rfl,b⟩
 .obtain⟨us,k,l⟩:=zCj i;split at h
  .rename_i m f;obtain rfl:=zLx f k;subst l;exact⟨_,_,h,yY rfl,b⟩
  .exact⟨_,_,h,RV.of_RV1 ⟨[.iface t c],⟨_,_,rfl⟩,rfl⟩,b⟩
 .exact⟨_,_,h,⟨[.iface t c],by simp only[RC];exact⟨t,c,rfl⟩,rfl⟩,b⟩
def zMd{w':de}{v:dh}{Q:dA->Act->de->Prop}{K:Act->de->Prop}(h:(execOp a.eval o).run P w=.halt (.panic v) w')(b:Q (.panic [{ v,recovered:=false }]) a w'):o.wp P a w K Q:=by
 unfold Oper.wp Oper.upon;rw[h];exact b
def zMV{x:V}{KP:db dj->Prop}(h:zIW x KP){b:dh}(c:RV g w x b):∃v,KP [{ v,recovered:=false }]/\(Instr.panic b).run P w=.halt (.panic v) w:=by
 unfold zIW at h;split at h
 .have e:=yG c;subst e;exact⟨_,h,rfl⟩
 .cases h
end
open Go.RowKit
section
variable{P:di}{L:Pol}{X:Cx}{g:Gh}{w:de}{a:Act}{o:dr}{e:Env}{st:S}{K:V->S->Prop}{KP:db dj->S->Prop}
def zFs{x:V}{u:dh}(h:RV1 g.bare w x u):RV1 g w x u:=let⟨us,h1,h2⟩:=h;⟨us,zE2 g w x us h1,h2⟩
def zJq{xs:db V}{us:db dh}(h:RVs g.bare w xs us):RVs g w xs us:=by
 induction h with
 |nil=>exact .nil
 |cons h _ b=>exact .cons (zFs h) b
def zQj{x:V}{u:dh}(h:RV g.bare w x u):RV g w x u:=by
 cases x with
 |any=>trivial
 |tup vs=>obtain⟨us,b,c⟩:=h;exact⟨us,zJq b,c⟩
 |_=>exact zFs h
def zJa(b:Rel X g e st a w):∀(xs:db dq),(∀x∈xs.map e.ev,zM x.flat)->RVs g.bare w ((xs.map e.ev).map V.untag) (xs.map a.eval)
 |[],_=>.nil
 |x::xs,h=>by
  obtain⟨us,c,_,f⟩:=zDN (b.ev x) (h _ dQ);exact .cons ⟨us,zBJ c (h _ dQ),by rw[f,zCz]⟩ (zJa b xs λy i=>h y eV)
def zH5{xs ys:db V}{us vs:db dh}(h:RVs g w xs us)(b:RVs g w ys vs):RVs g w (xs++ys) (us++vs):=by
 induction h with
 |nil=>exact b
 |cons h _ c=>exact .cons h c
def zB6:∀{xs:db V}{us:db dh},zM xs->RCs g w xs us->RVs g w xs us
 |[],us,_,h=>by simp only[RCs]at h;subst h;exact .nil
 |x::xs,us,b,h=>by
  simp only[zM,zUd,zUE]at b;simp only[RCs]at h;obtain⟨i,j,rfl,c,f⟩:=h;obtain⟨u,rfl⟩:=zCc c b.1;refine .cons ⟨[u],c,?_⟩ (zB6 b.2 f);cases x<;>simp[V.isOne]at b<;>rfl
def zHM(b:Rel X g e st a w):∀(xs:db dq),(∀x∈xs.map e.ev,zM x.flat)->RVs g w (xs.map e.ev) (xs.map a.eval)
 |[],_=>.nil
 |x::xs,h=>by
  obtain⟨us,c,_,f⟩:=zDN (b.ev x) (h _ dQ);exact .cons ⟨us,c,f⟩ (zHM b xs λy i=>h y eV)
def zNQ{xs as:db V}(h:Sub xs as):∀{us:db dh},RVs g w xs us->RVs g.bare w (xs.map V.untag) us->RVs g w as us:=by
 induction h with
 |nil=>intro us h _;exact h
 |keep _ b=>
  intro us h c;cases h with
  |cons p q=>cases c with
   |cons i f=>exact .cons p (b q f)
 |drop _ b=>
  intro us h c;cases h with
  |cons p q=>cases c with
   |cons i f=>exact .cons (zFs i) (b q f)
def zKg{b:Nat->Nat}{c:Nat->da (da (Nat×Nat×Nat×Nat))}(f h:Fr)(w:de):dD ⟨b,c,f⟩ w ⟨b,c,h⟩ w:=⟨λ_=>zUB _,λ_ _ e=>e,λ_ _ _=>rfl⟩
def RV.fr{b:Nat->Nat}{c:Nat->da (da (Nat×Nat×Nat×Nat))}{w:de}(f i:Fr){x:V}{u:dh}(h:RV ⟨b,c,f⟩ w x u):RV ⟨b,c,i⟩ w x u:=h.later (zKg f i w)
def RVs.fr{b:Nat->Nat}{c:Nat->da (da (Nat×Nat×Nat×Nat))}{w:de}(f i:Fr){xs:db V}{us:db dh}(h:RVs ⟨b,c,f⟩ w xs us):RVs ⟨b,c,i⟩ w xs us:=h.later (zKg f i w)
def zPi(i:Rel X g e st a w){f:dt}{args:db V}{r:V}(h:jS P f args r){vs:db dh}(p:RVs g.bare w args vs) :
 Calls P f vs.toArray w λm w'=>∃v g',m=.returned v/\Out X.B g w g' st w'/\RV g' w' r v:=by
 refine(h g.wm w vs i.inv.fresh (i.gl.mono i.inv.base) (p.fr g.fr Fr.no)).mono ?_;rintro m w' ⟨v,j,rfl,q,c,s⟩;have k:=i.inv.base;have n:dD g w ⟨j,g.tb,g.fr⟩ w':=⟨c.later.wm,λ_ _ e=>e,c.later.cell⟩;refine⟨v,⟨j,g.tb,g.fr⟩,rfl,⟨⟨n,c.below.mono k,λb l=>⟨c.below.block b (i.inv.ex.frz b l).1,c.wmB b (i.inv.ex.frz b l).1⟩,λb l=>c.wmB b dM,rfl⟩,i.inv.grow n c.below.size (λb l=>c.below.block b l) (λb l=>c.wmB b l) q rfl rfl⟩,zQj (g:=⟨j,g.tb,g.fr⟩) (RV.fr Fr.no g.fr s)⟩
def zKm{n:dt}(h:xY P n=true)(args:dv dh):(callFunc n args).run P w=.ok (.enter n args) w:=by
 unfold xY at h;cases b:P.funcs[n]? with
 |none=>simp[b]at h
 |some c=>
  simp only[b,zUE,bne_iff_ne,ne_eq]at h;have i:c.body.isNone=false:=by cases j:c.body<;>simp[j]at h ⊢
  have f:c.body≠none:=by intro e;rw[e]at i;cases i
  simp[callFunc,b,h.1,f]
def zNm{c:Call}{f:dq}(E:o.op=.call c)(N:c.callee=.value f)(j:Rel X g e st a w){O:db Nat}(h:zC0 P L O (e.ev f) (c.args.toList.map e.ev) st K KP) :
 o.wp P a w (zID X g w o a K) (zIK X g w a KP):=by
 unfold zC0 at h;split at h
 .rename_i n caps F;obtain⟨q,k,p,h⟩:=h;have b:∀x∈c.args.toList.map e.ev,zM x.flat:=λx Q=>zUb.1 k x Q;have J:=j.ev f;rw[F]at J;obtain⟨ds,l,G⟩:=zQB J;have A:(execOp a.eval o).run P w=.ok (.enter n ((c.args.toList.map a.eval++ds).toArray)) w:=by
   unfold execOp;rw[E];simp only[resolve,N,G,Deferred.ofValue,Sem.run_bind,Sem.run_pure,Result.andThen_ok,invoke];rw[zKm q];congr 2;apply zVk;simp
  have s:=zJa j c.args.toList b;unfold Oper.wp Oper.upon;rw[A];simp only;split at h
  .obtain⟨rfl,r,R,H⟩:=h;simp only[RCs]at l;subst l;rw[zUR];refine(zPi j R s).mono ?_;rintro D w' ⟨v,g',rfl,y,z⟩;exact⟨v,r,g',st,rfl,y,z,H⟩
  split at h
  .obtain⟨as,r,i,h,H⟩:=h;have t:RVs g w (as++caps) (c.args.toList.map a.eval++ds):=by
    exact zH5 (zNQ i (zHM j c.args.toList b) s) (zB6 p (zBT g w _ _ l))
   refine(h X.B g w _ j.inv j.gl t).mono ?_;rintro D w' ⟨g',m,y,z,u⟩;cases D with
   |returned v=>
    obtain⟨S,I,C,rfl⟩:=u;injection C with C
    subst C;exact⟨v,S,g',m,rfl,⟨y,z⟩,I,H⟩
   |panicked M=>cases u.1
   |outgrown=>exact u.elim
  .obtain⟨as,i,h⟩:=h;have t:RVs g w (as++caps) (c.args.toList.map a.eval++ds):=by
    exact zH5 (zNQ i (zHM j c.args.toList b) s) (zB6 p (zBT g w _ _ l))
   refine(h X.B g w _ j.inv j.gl t).mono ?_;rintro D w' ⟨g',m,y,z,u⟩;cases D with
   |returned v=>obtain⟨r,I,_,C⟩:=u;exact⟨v,r,g',m,rfl,⟨y,z⟩,I,C⟩
   |panicked M=>exact⟨M,g',m,rfl,rfl,⟨y,z⟩,u⟩
   |outgrown=>exact u.elim
 .cases h
def zHE(b:Rel X g e st a w):∀(ps:db (Nat×dq)),Parts g w (ps.map λp=>(p.1,e.ev p.2)) (ps.map λp=>(p.1,a.eval p.2))
 |[]=>.nil
 |p::ps=>.cons (b.ev p.2) (zHE b ps)
def zQI(h:aop P L e st o K KP)(q:Rel X g e st a w):o.wp P a w (zID X g w o a K) (zIK X g w a KP):=by
 unfold aop at h;split at h
 .rename_i x l;exact qS q.inv (by unfold execOp;rw[l];rfl) (q.ev x) h
 .rename_i x l;exact qS q.inv (by unfold execOp;rw[l];rfl) (q.ev x) h
 .rename_i c x y l;obtain⟨v,t,z,H,A⟩:=zN0 h (q.ev c) (q.ev x) (q.ev y);exact qS q.inv (u:=if t then a.eval x else a.eval y) (by unfold execOp;rw[l];simp[H,asBool]) A z
 .rename_i W t x y yt l;obtain⟨v,z,I,j⟩:=zNs (P:=P) (ox:=x) (oy:=y) h (q.ev x) (q.ev y);exact qS q.inv d8 (yY I) z
 .rename_i W t x l;obtain⟨v,z,I,j⟩:=zR3 (P:=P) h (q.ev x);exact qS q.inv d8 (yY I) z
 .rename_i x i l;obtain⟨v,u,z,A,j⟩:=zJ5 (P:=P) h (q.ev x);exact qS q.inv d8 A z
 .rename_i t x f l;obtain⟨v,u,z,A,j⟩:=zIb h (q.ev x);exact qS q.inv d8 A z
 .rename_i t x i l;obtain⟨v,u,z,A,j⟩:=zHj h (q.ev x) (q.ev i);exact qS q.inv d8 A z
 .rename_i t x i l;obtain⟨v,u,z,A,j⟩:=zMT h (q.ev x) (q.ev i);exact qS q.inv d8 A z
 .rename_i t x l;obtain⟨v,u,z,A,j⟩:=zFL h.2 q.inv (q.ev x);exact qS q.inv d8 A z
 .rename_i t x y l;obtain⟨B,w',z,D,j⟩:=zMa h.2 q.inv (q.ev x) (q.ev y);exact zIB eT ⟨undef,.any,g,B,rfl,D,trivial,z⟩
 .rename_i t l;obtain⟨v,u,g',B,w',z,D,A,j⟩:=zMU h q.inv (.tuple #[]);exact zAS d8 ⟨u,v,g',B,rfl,D,A,z⟩
 .rename_i t x l;obtain⟨v,u,g',B,w',z,D,A,j⟩:=zP7 (P:=P) (t:=t) h q.inv (q.ev x);exact zAS d8 ⟨u,v,g',B,rfl,D,A,z⟩
 .rename_i t parts l;obtain⟨v,u,z,A,j⟩:=zLg h (zHE q parts.toList);refine qS q.inv ?_ A z;unfold execOp;rw[l];refine kO ?_;have:(parts.map λx=>(x.1,a.eval x.2))=(parts.toList.map λp=>(p.1,a.eval p.2)).toArray:=by apply zVk;simp
  rw[<-j,<-this]
 .rename_i t n parts l;obtain⟨v,u,g',B,w',z,D,A,j⟩:=zHI h q.inv (zHE q parts.toList);refine zAS ?_ ⟨u,v,g',B,rfl,D,A,z⟩;unfold execOp;rw[l];refine kO ?_;have:(parts.map λx=>(x.1,a.eval x.2))=(parts.toList.map λp=>(p.1,a.eval p.2)).toArray:=by apply zVk;simp
  rw[<-j,<-this]
 .rename_i x l;obtain⟨z,ad,Y⟩:=zIz h (q.ev x);refine qS q.inv (u:=a.eval x) ?_ (q.ev x) z;unfold execOp;rw[l];simp[Y]
 .rename_i t x lo hi Z l;obtain⟨O,h⟩:=h;have J:Z=none:=by simpa using O
  subst J;obtain⟨v,u,z,A,j⟩:=zMr h (q.ev x) (zJt q lo) (zJt q hi);exact qS q.inv d8 A z
 .rename_i c l;split at h
  .rename_i f H;exact zNm l H q h
  .rename_i b H;unfold zAb at h;have M:∀{u w'},(builtin b c.argTypes o.type (c.args.map λ|.const _=>true|_=>false) (c.args.toList.map a.eval).toArray).run P w=.ok (.value u) w'->(execOp a.eval o).run P w=.ok (.value u) w':=by
    intro u w' hh;unfold execOp;rw[l];simp only[resolve,H,Sem.run_bind,Sem.run_pure,Result.andThen_ok,invoke];rw[<-hh];congr 2;apply zVk;simp
   split at h
   .rename_i t U x F s;have Q:∃ox,c.args.toList=[ox]/\e.ev ox=x:=by
     cases E:c.args.toList with
     |nil=>simp[E]at s
     |cons ox C=>cases C with
      |nil=>simp[E]at s;exact⟨ox,rfl,s⟩
      |cons _ _=>simp[E]at s
    obtain⟨ox,G,rfl⟩:=Q;obtain⟨v,z,I,j⟩:=zPK (P:=P) h (q.ev ox) U o.type;refine qS q.inv (M ?_) (yY I) z;have N:c.argTypes=(t::U).toArray:=by apply zVk;simpa using F
    rw[G,N];exact kO j
   .rename_i t V x y F s;have Q:∃ox oy,c.args.toList=[ox,oy]/\e.ev ox=x/\e.ev oy=y:=by
     cases E:c.args.toList with
     |nil=>simp[E]at s
     |cons ox C=>cases C with
      |nil=>simp[E]at s
      |cons oy C=>cases C with
       |nil=>simp[E]at s;exact⟨ox,oy,rfl,s.1,s.2⟩
       |cons _ _=>simp[E]at s
    obtain⟨ox,oy,G,rfl,rfl⟩:=Q;obtain⟨v,u,g',B,w',z,D,A,j⟩:=zML (P:=P) h q.inv (q.ev ox) (q.ev oy) o.type;refine zAS (M ?_) ⟨u,v,g',B,rfl,D,A,z⟩;have N:c.argTypes=#[t,V]:=by apply zVk;simpa using F
    have R:V=t:=by
     unfold qz at h;split at h
     .exact h.1
     .exact h.1
     .cases h
    subst R;rw[G,N];exact kO j
   .cases h
  .exact h.elim
 .rename_i t r l;obtain⟨S,h⟩:=h;have T:r=none:=by simpa using S
  subst T;obtain⟨v,u,g',B,w',z,D,A,j⟩:=zJ9 (P:=P) h q.inv t;exact zAS d8 ⟨u,v,g',B,rfl,D,A,z⟩
 .rename_i t x i c l;obtain⟨v,u,z,A,j⟩:=zMO h q.inv (q.ev x) (q.ev i);exact qS q.inv d8 A z
 .rename_i t m k y l;obtain⟨B,w',z,D,j⟩:=zIa h q.inv (q.ev m) (q.ev k) (q.ev y);exact zIB eT ⟨undef,.any,g,B,rfl,D,trivial,z⟩
 .rename_i t x l;obtain⟨v,u,z,A,j⟩:=zKC h (q.ev x);exact qS q.inv d8 A z
 .rename_i fn first caps l;obtain⟨hf,v,z,A⟩:=zOU (first:=first.toList) (caps:=caps.toList) h q.ev;have N:first=#[]:=by apply zVk;simpa using hf
  subst N;refine qS q.inv (u:=.func fn #[] (caps.toList.map a.eval).toArray) ?_ A z;unfold execOp;rw[l];have R:(caps.toList.map a.eval).toArray=caps.map a.eval:=by apply zVk;simp
  rw[R];simp[Instr.makeFunc]
 .rename_i x l;obtain⟨v,z,j⟩:=zMV (P:=P) h (q.ev x);refine zMd (v:=v) (by unfold execOp;rw[l];simp[j,Sem.run_bind,Result.andThen]) ⟨_,g,st,rfl,rfl,Out.refl q.inv,z⟩
 .cases h
end
open Go.RowKit
section
variable{P:di}{L:Pol}{X:Cx}{g:Gh}{w:de}{a:Act}{o:dr}{e:Env}{st:S}{KP:db dj->S->Prop}
def ji(ds:db (da Nat))(e:Env)(c:da (Nat×dd)):da dd:=
 match c with
 |none=>some true
 |some (j,b)=>
  match ds.getD j none with
  |none=>none
  |some d=>match e.get d with
   |.at (.bool t)=>some (t==b)
   |.tup []=>some false
   |_=>none
def zv(P:di)(L:Pol)(ds:db (da Nat))(KP:db dj->S->Prop)(o:dr)(K:Env->S->Prop)(e:Env)(st:S):Prop:=
 match ji ds e o.guard with
 |none=>False
 |some c=>if c=true then aop P L e st o (λv b=>K (e.putO o.dst v) b) KP else K (e.putO o.dst (.tup [])) st
def AL(P:di)(L:Pol)(ds:db (da Nat))(KP:db dj->S->Prop):db dr->(Env->S->Prop)->Env->S->Prop
 |[],K,e,st=>K e st
 |o::os,K,e,st=>zv P L ds KP o (AL P L ds KP os K) e st
def zNd(o:dr):dd:=match o.op with|.defer _=>false|_=>true
def zDO(N:NF)(l:db dr):dd:=l.all λo=>(match o.dst with|some d=>N.ok d|none=>true)&&zNd o
def zNo{ops:dv dr}{ds:db (da Nat)}(m:ds=ops.toList.map (·.dst))(s:Rel X g e st a w){c:dd}(h:ji ds e o.guard=some c):Region.wanted o (yielded ops a.tmps)=c:=by
 unfold ji at h;unfold Region.wanted;cases u:o.guard with
 |none=>rw[u]at h;injection h with h; 
 |some p=>
  obtain⟨j,b⟩:=p;rw[u]at h;simp only at h ⊢;cases i:ds.getD j none with
  |none=>rw[i]at h;cases h
  |some d=>
   rw[i]at h;simp only at h;split at h
   .rename_i t q;injection h with h
    have r:(ops[j]?).bind (·.dst)=some d:=by
     subst m;simp only[zUV,zUy,zVJ]at i;cases f:ops[j]? with
     |none=>simp[f]at i
     |some x=>simpa [f]using i
    have n:=s.env d;rw[q]at n;have k:=yG n;have l:a.tmps[d]?=some (.bool t):=by
     rw[zVX]at k;cases f:a.tmps[d]? with
     |none=>rw[f]at k;simp[undef]at k
     |some v=>rw[f]at k;simpa using k
    have:yielded ops a.tmps j=some t:=by unfold yielded;rw[r];simp[l]
    rw[this,<-h];cases t<;>cases b<;>rfl
   .rename_i q;injection h with h
    have r:(ops[j]?).bind (·.dst)=some d:=by
     subst m;simp only[zUV,zUy,zVJ]at i;cases f:ops[j]? with
     |none=>simp[f]at i
     |some x=>simpa [f]using i
    have n:=s.env d;rw[q]at n;obtain⟨us,k,l⟩:=n;cases k;have:yielded ops a.tmps j=none:=by
     unfold yielded;rw[r];rw[zVX]at l;cases f:a.tmps[d]? with
     |none=>simp[f]
     |some v=>rw[f]at l;simp at l;simp[f,l]
    rw[this,<-h];rfl
   .cases h
def zMF{N:NF}{l:db dr}(h:zDO N l=true)(b:o∈l):∀t,o.dst=some t->N.ok t=true:=by
 intro t c;have:=(zUE _ _▸zUb.1 h o b).1;rw[c]at this;simpa using this
def zDa{N:NF}{l:db dr}(h:zDO N l=true)(b:o∈l):∀c,o.op≠.defer c:=by
 intro c e;have:=(zUE _ _▸zUb.1 h o b).2;unfold zNd at this;rw[e]at this;cases this
def Goes(X:Cx)(g:Gh)(w:de)(Q:dA->Env->S->Prop):dA->Act->de->Prop:=
 λc f w'=>∃g' e' b,dB X.B g w g' w'/\Rel X g' e' b f w'/\Q c e' b
def zGx{ops:dv dr}{ds:db (da Nat)}(q:ds=ops.toList.map (·.dst)){Q:dA->Env->S->Prop}(F:∀c s,KP c s->Q (.panic c) [] s)
 {i:Nat} (G:ops[i]?=some o) (j:∀t,o.dst=some t->X.N.ok t=true) {K:Env->S->Prop} (h:zv P L ds KP o K e st) {g0:Gh} {w0:de} (y:dB X.B g0 w0 g w) (l:Rel X g e st a w) :
 wpOp P ops (Goes X g0 w0 Q) i (λf w'=>∃g' e' b,dB X.B g0 w0 g' w'/\Rel X g' e' b f w'/\K e' b) a w:=by
 unfold zv at h;unfold wpOp;simp only[G];cases z:ji ds e o.guard with
 |none=>rw[z]at h;exact h.elim
 |some c=>
  rw[z]at h;simp only at h;rw[zNo q l z];cases c with
  |false=>
   simp only[zUN,zUK]at h ⊢;exact⟨g,_,st,y,l.put (x:=.tup []) (u:=undef) (Later.refl _ _) (Below.refl _ _) l.inv ⟨[],.nil,rfl⟩ _ j,h⟩
  |true=>
   simp only[zUM]at h ⊢;have H:=zQI h l;refine .inl ?_;have A:∀(r:Result Next),o.upon P a (zID X g w o a λv b=>K (e.putO o.dst v) b) (zIK X g w a KP) r ->
    o.upon P a (λf w'=>∃g' e' b,dB X.B g0 w0 g' w'/\Rel X g' e' b f w'/\K e' b) (Goes X g0 w0 Q) r:=by
    have C:∀f w',zID X g w o a (λv b=>K (e.putO o.dst v) b) f w'->∃g' e' b,dB X.B g0 w0 g' w'/\Rel X g' e' b f w'/\K e' b:=by
     rintro f w' ⟨u,v,g',b,rfl,k1,k2,I⟩;exact⟨g',_,b,y.trans k1.step,l.put k1.step.later k1.step.below k1.inv k2 _ j,I⟩
    have D:∀E f w',zIK X g w a KP E f w'->Goes X g0 w0 Q E f w':=by
     rintro E f w' ⟨c,g',b,rfl,rfl,k1,k2⟩;exact⟨g',[],b,y.trans k1.step,⟨k1.inv,λk=>trivial,l.size,l.df,l.gl.below k1.step.below k1.step.later.wm⟩,F c b k2⟩
    intro r m;cases r with
    |ok n w'=>
     cases n<;>simp only[Oper.upon]at m ⊢ <;>
      first
       |exact C _ _ m
       |exact m.elim
       |exact Calls.mono m (λ(J:Ending) M p=>by
        cases J with
        |returned v=>exact C _ _ p
        |panicked U=>exact D _ _ _ p
        |outgrown=>obtain⟨O,R,T⟩:=p;exact⟨O,R,D _ _ _ T⟩)
       |exact Rows.mono m (λ_ _ p=>C _ _ p)
    |halt x w'=>cases x<;>simp only[Oper.upon]at m ⊢<;>first|exact D _ _ _ m|exact m.elim
   exact A _ H
def zL2{ops:dv dr}{ds:db (da Nat)}(m:ds=ops.toList.map (·.dst)){Q:dA->Env->S->Prop}(u:∀c s,KP c s->Q (.panic c) [] s){K:Env->S->Prop}(v:∀e s,K e s->Q .normal e s){g0:Gh}{w0:de} :
 ∀(l:db dr)(k:Nat)(_:∀j,l[j]?=ops[k+j]?)(_:∀o∈l,∀t,o.dst=some t->X.N.ok t=true){e:Env}{st:S}{g:Gh}{a:Act}{w:de},
  AL P L ds KP l K e st->dB X.B g0 w0 g w->Rel X g e st a w->wpList P ops (Goes X g0 w0 Q) l a w
 |[],k,_,_,e,st,g,a,w,h,n,p=>⟨g,e,st,n,p,v e st h⟩
 |o::l,k,x,y,e,st,g,a,w,h,n,p=>by
  have z:ops[k]?=some o:=by simpa using(x 0).symm
  have i:=zGx m u z (y o dQ) h n p;unfold wpOp at i;simp only[z]at i;unfold wpList;have b:∀q w',(∃g' e' f,dB X.B g0 w0 g' w'/\Rel X g' e' f q w'/\AL P L ds KP l K e' f)->wpList P ops (Goes X g0 w0 Q) l q w':=by
   rintro q w' ⟨g',e',f,k1,k2,A⟩;exact zL2 m u v l (k+1) (λj=>by have:=x (j+1);simpa [zWJ,zWm 1 j]using this) (λo C=>y o (by simp[C])) A k1 k2
  split
  .rename_i r;simp only[r,zUM]at i;exact i.imp (Oper.wp_mono b) id
  .rename_i r;simp only[r]at i;exact b _ _ i
def zTg{P:di}{o:dr}{a:Act}{w:de}{i:da Nat}{n:Nat}{next:Act->de->Prop}{Q:dA->Act->de->Prop}(m:∀c,o.op≠.defer c)(h:o.wp P a w next Q):o.wpIn (fen i) n P a w next Q:=by
 refine⟨λ_ _=>trivial,?_⟩;rw[Oper.semAt_eq _ _ _ m];unfold Oper.wp at h;generalize(execOp a.eval o).run P w=r at h;have j:∀{b:String}{args:dv dh}{w':de}{R:dh->de->Prop},Rows P b args w' R->RowsIn (fen i) (n-1) P b args w' R:=λk c cs _=>let⟨v,w2,r,st⟩:=k c cs;⟨v,w2,r,stepsIn_wide.2 st⟩
 have l:∀{f:dt}{args:dv dh}{w':de}{R:Ending->de->Prop},Calls P f args w' R->CallsIn (fen i) (n-1) P f args w' R:=λk=>(callsIn_wide (n:=n-1)).2 k;cases r with
 |ok x w'=>
  cases x<;>simp only[Oper.upon,Oper.uponIn]at h ⊢ <;>
   first
    |exact h
    |exact⟨λe=>fb,l h⟩
    |exact⟨λe=>fb,j h⟩
    |exact h.elim
 |halt x w'=>cases x<;>simp only[Oper.upon,Oper.uponIn]at h ⊢<;>exact h
def zB8{P:di}{ops:dv dr}{q:da Nat}{n:Nat}{Q:dA->Act->de->Prop}(f:∀o∈ops.toList,∀c,o.op≠.defer c)(j:¬LetsOut Q):∀(l:db Nat)(a:Act)(w:de),wpOps P ops Q l a w->wpOpsIn (fen q) n P ops Q l a w
 |[],a,w,h=>h
 |i::b,a,w,h=>by
  unfold wpOps at h;unfold wpOpsIn;cases m:ops[i]? with
  |none=>rw[m]at h;exact zB8 f j b a w h
  |some o=>
   rw[m]at h;simp only at h ⊢;have r:o∈ops.toList:=by simpa using zWF m
   split
   .rename_i p;rw[if_pos p]at h;rcases h with h|h
    .exact zTg (f o r) (Oper.wp_mono (λs w' k=>zB8 f j b s w' k) h)
    .exact absurd h.2 j
   .rename_i p;rw[if_neg p]at h;exact⟨λ_ _=>trivial,zB8 f j b _ w h⟩
def zF3{X:Cx}{g:Gh}{w:de}{Q:dA->Env->S->Prop}(b:∀e s,¬Q .outgrown e s):¬LetsOut (Goes X g w Q):=λ⟨_,_,_,_,_,_,_,h⟩=>b _ _ h
def inQ(Q:dA->Env->S->Prop):dA->Env->S->Prop
 |.normal,e,s=>Q .normal e s
 |.panic c,e,s=>Q (.panic c) e s
 |_,_,_=>False
def zHK{X:Cx}{g:Gh}{w:de}{Q:dA->Env->S->Prop}:∀b c w',Goes X g w (inQ Q) b c w'->Goes X g w Q b c w':=by
 rintro b c w' ⟨g',e',f,k1,k2,h⟩;refine⟨g',e',f,k1,k2,?_⟩;cases b<;>first|exact h|exact h.elim
def zOV{Q:dA->Env->S->Prop}{id:Nat}{l:db dr}(ds:db (da Nat))(b:l.map (·.dst)=ds)(m:zDO X.N l=true)
 (h:AL P L ds (λc s=>Q (.panic c) [] s) l (λe' s'=>Q .normal e' s') e st):awp P X (.region id l.toArray false) Q e st:=by
 intro g a w n;have f:∀o∈l.toArray.toList,∀c,o.op≠.defer c:=λo i=>zDa m (by simpa using i);have p:wpList P l.toArray (Goes X g w (inQ Q)) l a w:=zL2 (ops:=l.toArray) (ds:=ds) (by simpa using b.symm) (λ_ _ k=>k) (λ_ _ k=>k) l 0 (λj=>dQ) (λo i=>zMF m i) h (Step.refl _ _ _) n;refine wpIn_mono (wpIn_region (zB8 f (zF3 λ_ _ k=>k) _ a w ?_)) zHK;have q:=wpOps_eq_wpList (P:=P) (ops:=l.toArray) (Q:=Goes X g w (inQ Q)) l 0 (λj=>dQ);rw[List.range_eq_range'];rw[show l.toArray.size=l.length from dQ,q];exact p
end
open Go.RowKit
abbrev _root_.du:=@ResultVar
def yx(P:di):db du->Env->S->(db V->Prop)->Prop
 |[],_,_,K=>K []
 |.tmp t::rs,e,st,K=>zM (e.get t).flat/\yx P rs e st λxs=>K ((e.get t).untag::xs)
 |.cell p t::rs,e,st,K=>qW P st t (e.get p) λv=>zM v.flat/\yx P rs e st λxs=>K (v.untag::xs)
def finV:db V->V
 |[x]=>x
 |xs=>.tup xs
def qJ:Nat->db V->Env
 |_,[]=>[]
 |n,x::xs=>(n,x)::qJ (n+1) xs
def retE(P:di)(rs:db du)(Q:Outc->S->Prop):dA->Env->S->Prop
 |.normal,e,st|.ret,e,st=>yx P rs e st λxs=>Q (.ret (finV xs)) st
 |.panic c,_,st=>Q (.pan c) st
 |_,_,_=>False
def jD(P:di):db du->Env->S->(db V->Prop)->Prop
 |[],_,_,K=>K []
 |.tmp t::rs,e,st,K=>zM (e.get t).flat/\jD P rs e st λxs=>K (e.get t::xs)
 |.cell p t::rs,e,st,K=>qW P st t (e.get p) λv=>zM v.flat/\jD P rs e st λxs=>K (v::xs)
def retER(P:di)(rs:db du)(Q:Outc->S->Prop):dA->Env->S->Prop
 |.normal,e,st|.ret,e,st=>jD P rs e st λxs=>∃b,st.sub b/\Q (.ret (finV xs)) b
 |.panic c,_,st=>Q (.pan c) st
 |_,_,_=>False
section
variable{P:di}{X:Cx}{g:Gh}{w:de}{a:Act}{e:Env}{st:S}
def zJY:∀(xs:db V)(n k:Nat),(qJ n xs).get k=if n<=k/\k<n+xs.length then xs.getD (k-n) .any else .any
 |[],n,k=>by simp[qJ,Env.get]
 |x::xs,n,k=>by
  simp only[qJ,Env.get];by_cases h:n=k
  .subst h;simp
  .rw[if_neg h,zJY xs (n+1) k];by_cases b:n+1<=k/\k<n+1+xs.length
   .rw[if_pos b,if_pos d4];have:k-n=(k-(n+1))+1:=dM
    rw[this];simp
   .rw[if_neg b,if_neg d4]
def zEB{B N:Nat}{args:db V}{vs:db dh}(hi:Inv B g st w)(f:GlobOk B g.wm w)(i:RVs g w args vs)(p:args.length<=N) :
 Rel ⟨B,⟨N,[]⟩,none,[]⟩ g (qJ 0 args) st { tmps:=vs.toArray++Array.replicate (N-vs.toArray.size) undef,defers:=[] } w:=by
 have q:=i.length;refine⟨hi,λk=>?_,by simp;omega,rfl,f⟩;rw[zJY];split
 .rename_i h;have j:k<args.length:=dM
  obtain⟨u,c,l⟩:=i.get k args[k] (zUj j);have b:k<vs.length:=dM
  have m:args.getD (k-0) .any=args[k]:=by simp[j]
  rw[m];have n:(vs.toArray++Array.replicate (N-vs.toArray.size) undef).getD k undef=u:=by
   rw[zUj b]at c;injection c with c
   rw[zVX,Array.getElem?_append_left eG];simp[b,c]
  rw[n];exact RV.of_RV1 l
 .trivial
def zG0{x:V}{u:dh}(h:RV g w x u)(b:zM x.flat):RV1 g.bare w x.untag u:=by
 obtain⟨us,c,_,f⟩:=zDN h b;exact⟨us,zBJ c b,by rw[f,zCz]⟩
def zBI(b:dv dh):du->Sem dh
 |.tmp t=>pure (b.getD t undef)
 |.cell p t=>do loadVar t (<-asAddr (b.getD p undef))
def zAG:∀{rs:db du}{K:db V->Prop}(_:yx P rs e st K)(_:Rel X g e st a w),∃xs us,K xs/\RVs g.bare w xs us /\
 (rs.mapM (zBI a.tmps)).run P w=.ok us w
 |[],K,h,f=>⟨[],[],h,.nil,dQ⟩
 |.tmp t::rs,K,h,f=>by
  obtain⟨l,m⟩:=h;obtain⟨xs,us,k1,k2,n⟩:=zAG m f;refine⟨_,a.tmps.getD t undef::us,k1,.cons (zG0 (f.env t) l) k2,?_⟩;simp only[zWC,Sem.run_bind,zBI,Sem.run_pure,Result.andThen_ok];rw[n];rfl
 |.cell p t::rs,K,h,f=>by
  obtain⟨v,u,⟨l,m⟩,s,c⟩:=zFL h f.inv (f.env p);obtain⟨xs,us,k1,k2,n⟩:=zAG m f;have i:∃r,a.tmps.getD p undef=.pointer (some r):=by
   have k:=f.env p;replace h:qW P st t (e.get p) (λv=>zM v.flat/\yx P rs e st λxs=>K (v.untag::xs)):=h;unfold qW at h;split at h
   .rename_i y q;rw[q]at k;obtain⟨b,o,ds,x,_⟩:=zDF k;exact⟨_,x⟩
   .rename_i b o q;rw[q]at k;exact⟨_,yG k⟩
   .cases h
  obtain⟨r,j⟩:=i;refine⟨_,u::us,k1,.cons (zG0 s l) k2,?_⟩;rw[j]at c;simp only[Instr.loadAt,Instr.sureAddr,Sem.run_bind,Sem.run_pure,Result.andThen_ok]at c;simp only[zWC,Sem.run_bind,zBI,j,asAddr,Sem.run_pure,Result.andThen_ok,c];rw[n];rfl
def zEN{xs:db V}{us:db dh}(h:RVs g w xs us):RV g w (finV xs) (if h:us.toArray.size=1 then us.toArray[0]else .tuple us.toArray):=by
 cases h with
 |nil=>simp[finV];exact⟨[],.nil,rfl⟩
 |cons h b=>
  cases b with
  |nil=>simp[finV];exact RV.of_RV1 h
  |cons c b=>
   simp[finV];exact⟨_,.cons h (.cons c b),rfl⟩
def zAQ{b:Func}{us:db dh}(h:(b.results.toList.mapM (zBI a.tmps)).run P w=.ok us w) :
 (results b a.tmps).run P w=.ok (if h:us.toArray.size=1 then us.toArray[0]else .tuple us.toArray) w:=by
 have e:results b a.tmps=(do let vs <-b.results.mapM (zBI a.tmps);pure (if h:vs.size=1 then vs[0]else .tuple vs)):=by
  unfold results;congr 1
 rw[e,Array.mapM_eq_mapM_toList];have:(Functor.map List.toArray (b.results.toList.mapM (zBI a.tmps))).run P w=.ok us.toArray w:=by
  rw[<-bind_pure_comp,Sem.run_bind,h];rfl
 rw[Sem.run_bind,this];rfl
def zHz{x:V}{u:dh}(h:RV g w x u)(b:zM x.flat):RV1 g w x u:=by
 obtain⟨us,c,_,f⟩:=zDN h b;exact⟨us,c,f⟩
def zCN:∀{rs:db du}{K:db V->Prop}(_:jD P rs e st K)(_:Rel X g e st a w),∃xs us,K xs/\RVs g w xs us /\
 (rs.mapM (zBI a.tmps)).run P w=.ok us w
 |[],K,h,f=>⟨[],[],h,.nil,dQ⟩
 |.tmp t::rs,K,h,f=>by
  obtain⟨l,m⟩:=h;obtain⟨xs,us,k1,k2,n⟩:=zCN m f;refine⟨_,a.tmps.getD t undef::us,k1,.cons (zHz (f.env t) l) k2,?_⟩;simp only[zWC,Sem.run_bind,zBI,Sem.run_pure,Result.andThen_ok];rw[n];rfl
 |.cell p t::rs,K,h,f=>by
  obtain⟨v,u,⟨l,m⟩,s,c⟩:=zFL h f.inv (f.env p);obtain⟨xs,us,k1,k2,n⟩:=zCN m f;have i:∃r,a.tmps.getD p undef=.pointer (some r):=by
   have k:=f.env p;replace h:qW P st t (e.get p) (λv=>zM v.flat/\jD P rs e st λxs=>K (v::xs)):=h;unfold qW at h;split at h
   .rename_i y q;rw[q]at k;obtain⟨b,o,ds,x,_⟩:=zDF k;exact⟨_,x⟩
   .rename_i b o q;rw[q]at k;exact⟨_,yG k⟩
   .cases h
  obtain⟨r,j⟩:=i;refine⟨_,u::us,k1,.cons (zHz s l) k2,?_⟩;rw[j]at c;simp only[Instr.loadAt,Instr.sureAddr,Sem.run_bind,Sem.run_pure,Result.andThen_ok]at c;simp only[zWC,Sem.run_bind,zBI,j,asAddr,Sem.run_pure,Result.andThen_ok,c];rw[n];rfl
def zJg{f:dt}{k:Func}{c:dE}{args:db V}{Q:Outc->S->Prop}{N:Nat}{rs:db du}(x:P.funcs[f]?=some k)(y:k.body=some c)(z:k.ntmps=N)(q:k.results=rs.toArray)(A:args.length<=N)
 (h:∀B,awp P ⟨B,⟨N,[]⟩,none,[]⟩ c (retER P rs Q) (qJ 0 args) st):FnC P f args st Q:=by
 intro B g w vs hi s C;refine calls_of_wp x y ?_;have D:=zEB (N:=N) hi s C A;rw[z];refine wpIn_wide.1 (wpIn_mono (h B g _ w D) ?_);rintro E t w' ⟨g',e',b,u,m,i⟩;have n:k.results.toList=rs:=by rw[q]
 subst n;have j:jD P k.results.toList e' b (λxs=>∃p,b.sub p/\Q (.ret (finV xs)) p)->t.defers=[]/\∃v,(results k t.tmps).run P w'=.ok v w' /\
  ∃g' b,dB B g w g' w'/\Inv B g' b w'/\∃r,RV g' w' r v/\Q (.ret r) b:=by
  intro i;obtain⟨xs,us,⟨p,k0,k1⟩,k2,F⟩:=zCN i m;exact⟨m.df,_,zAQ F,g',p,u,m.inv.weaken k0,_,zEN k2,k1⟩
 cases E with
 |normal=>exact j i
 |ret=>exact j i
 |panic c=>exact⟨m.df,g',b,u,m.inv,i⟩
 |exit id=>exact i.elim
 |goto l=>exact i.elim
 |outgrown=>exact i.elim
def zMc{f:dt}{n:Func}{c:dE}{args:db V}{r:V}{N:Nat}{rs:db du}(I:P.funcs[f]?=some n)(s:n.body=some c)(J:n.ntmps=N)(A:n.results=rs.toArray)(M:args.length<=N)
 (h:∀B,awp P ⟨B,⟨N,[]⟩,none,[]⟩ c (retE P rs λoc _=>oc=.ret r) (qJ 0 args) ⟨[],[],0,[]⟩):jS P f args r:=by
 intro G w vs C D O;refine calls_of_wp I s ?_;have hi:Inv w.heap.size ⟨G,λ_=>none,Fr.no⟩ ⟨[],[],0,[]⟩ w:=
  ⟨zUB _,(λb cs k u=>(by cases u)),(λt p=>(by cases p)),(λt p=>(by cases p)),(λt p=>(by cases p)),zUp,C,λ_ _=>rfl,⟨(λb s=>by cases s),(λb o fp u=>(by cases u)),(λb o fp U o' Q j u=>(by cases u)),(λt p=>by cases p)⟩⟩
 have R:=zEB (N:=N) hi D O M;rw[J];refine wpIn_wide.1 (wpIn_mono (h _ _ _ w R) ?_);rintro S H w' ⟨g',e',E,z,F,i⟩;have x:n.results.toList=rs:=by rw[A]
 subst x;have m:yx P n.results.toList e' E (λxs=>(Outc.ret (finV xs))=.ret r)->H.defers=[]/\∃v,(results n H.tmps).run P w'=.ok v w' /\
  ∃y q,Ending.returned v=.returned y/\(∀b,w'.heap.size<=b->q b=0)/\dB w.heap.size ⟨G,λ_=>none,Fr.no⟩ w ⟨q,λ_=>none,Fr.no⟩ w'/\RV ⟨q,λ_=>none,Fr.no⟩ w' r y:=by
  intro i;obtain⟨xs,us,k1,k2,T⟩:=zAG i F;injection k1 with k1
  subst k1;exact⟨F.df,_,zAQ T,_,g'.wm,rfl,F.inv.fresh,⟨⟨z.later.wm,(λ_ _ e=>fb),z.later.cell⟩,z.below,(λb s=>by cases s),z.wmB,rfl⟩,RV.fr _ _ (zEN k2)⟩
 cases S with
 |normal=>exact m i
 |ret=>exact m i
 |panic c=>cases i
 |exit id=>exact i.elim
 |goto l=>exact i.elim
 |outgrown=>exact i.elim
end
section
variable{P:di}{L:Pol}{ds:db (da Nat)}{KP:db dj->S->Prop}{os:db dr}{K:Env->S->Prop}{e:Env}{st:S}
variable{d:da Nat}{ty:dg}{pos:String}{af:dv Edge}
def zk:AL P L ds KP [] K e st=K e st:=rfl
def zu(x:dq):AL P L ds KP (⟨d,.move x,ty,pos,af,none⟩::os) K e st=AL P L ds KP os K (e.putO d (e.ev x)) st:=rfl
def yb(x:dq):AL P L ds KP (⟨d,.assign x,ty,pos,af,none⟩::os) K e st=AL P L ds KP os K (e.putO d (e.ev x)) st:=rfl
def zDB(c x y:dq):AL P L ds KP (⟨d,.pick c x y,ty,pos,af,none⟩::os) K e st=zCT (e.ev c) (e.ev x) (e.ev y) λv=>AL P L ds KP os K (e.putO d v) st:=rfl
def qK(b:BinOp)(t:dg)(x y:dq)(c:dg):AL P L ds KP (⟨d,.binOp b t x y c,ty,pos,af,none⟩::os) K e st=zB1 P b t (zGu y) (e.ev x) (e.ev y) λv=>AL P L ds KP os K (e.putO d v) st:=rfl
def zIE(b:UnOp)(t:dg)(x:dq):AL P L ds KP (⟨d,.unOp b t x,ty,pos,af,none⟩::os) K e st=aUn b (e.ev x) λv=>AL P L ds KP os K (e.putO d v) st:=rfl
def zl(t:dg)(x:dq)(f:Nat):AL P L ds KP (⟨d,.fieldAddr t x f,ty,pos,af,none⟩::os) K e st=xR P t (e.ev x) f λv=>AL P L ds KP os K (e.putO d v) st:=rfl
def xe(t:dg)(x i:dq):AL P L ds KP (⟨d,.indexAddr t x i,ty,pos,af,none⟩::os) K e st=xp P t (e.ev x) (e.ev i) λv=>AL P L ds KP os K (e.putO d v) st:=rfl
def zQ1(t:dg)(x i:dq):AL P L ds KP (⟨d,.index t x i,ty,pos,af,none⟩::os) K e st=zAl P t (e.ev x) (e.ev i) λv=>AL P L ds KP os K (e.putO d v) st:=rfl
def zTN{pf rf:dt->dd}{b own:Nat->dd}{c:Nat->db Nat}(x:dq)(v:V):ldK ⟨pf,b,own,rf,[],c⟩ x v:=by
 cases x<;>first|trivial|(intro p f;cases f)
def yL{pf rf:dt->dd}{b own:Nat->dd}{c:Nat->db Nat}(t:dg)(x:dq):AL P ⟨pf,b,own,rf,[],c⟩ ds KP (⟨d,.load t x,ty,pos,af,none⟩::os) K e st=qW P st t (e.ev x) λv=>AL P ⟨pf,b,own,rf,[],c⟩ ds KP os K (e.putO d v) st:=
 propext ⟨λh=>h.2,λh=>⟨zTN x _,h⟩⟩
def zSi{pf rf:dt->dd}{c own:Nat->dd}{kl:db (Nat×Nat)}(x:dq)(v:V):stK ⟨pf,c,own,rf,kl,λ_=>[]⟩ x v:=by
 cases x<;>first|trivial|(intro b o _ h;cases h)
def jI{pf rf:dt->dd}{c own:Nat->dd}(t:dg)(x y:dq):AL P ⟨pf,c,own,rf,[],λ_=>[]⟩ ds KP (⟨d,.store t x y,ty,pos,af,none⟩::os) K e st=jf P st t (e.ev x) (e.ev y) λb=>AL P ⟨pf,c,own,rf,[],λ_=>[]⟩ ds KP os K (e.putO d .any) b:=
 propext ⟨λh=>h.2,λh=>⟨zSi x _,h⟩⟩
def zLp(t:dg):AL P L ds KP (⟨d,.alloc t,ty,pos,af,none⟩::os) K e st=zAL P st t λv b=>AL P L ds KP os K (e.putO d v) b:=rfl
def zK1(t:dg)(x:dq):AL P L ds KP (⟨d,.box t x,ty,pos,af,none⟩::os) K e st=aNew st (e.ev x).flat λv b=>AL P L ds KP os K (e.putO d v) b:=rfl
def zHH(t:dg)(ps:db (Nat×dq)):AL P L ds KP (⟨d,.build t ps.toArray,ty,pos,af,none⟩::os) K e st=zCM P t (ps.map λp=>(p.1,e.ev p.2)) λv=>AL P L ds KP os K (e.putO d v) st:=rfl
def zCt(t:dg)(n:Nat)(ps:db (Nat×dq)):AL P L ds KP (⟨d,.buildSlice t n ps.toArray,ty,pos,af,none⟩::os) K e st=xA P L d st t n (ps.map λp=>(p.1,e.ev p.2)) λv b=>AL P L ds KP os K (e.putO d v) b:=rfl
def yB(x:dq):AL P L ds KP (⟨d,.nilCheck x,ty,pos,af,none⟩::os) K e st=qn (e.ev x) λv=>AL P L ds KP os K (e.putO d v) st:=rfl
def zRM(t:dg)(x:dq)(lo hi:da dq):AL P L ds KP (⟨d,.slice t x lo hi none,ty,pos,af,none⟩::os) K e st=(true=true/\ja P t (e.ev x) (lo.map e.ev) (hi.map e.ev) λv=>AL P L ds KP os K (e.putO d v) st):=rfl
def zDf(t:dg)(x:dq):AL P L ds KP (⟨d,.call ⟨.builtin .len,#[x],#[t]⟩,ty,pos,af,none⟩::os) K e st=aLen P t (e.ev x) λv=>AL P L ds KP os K (e.putO d v) st:=rfl
def zGI(t c:dg)(x y:dq):AL P L ds KP (⟨d,.call ⟨.builtin .append,#[x,y],#[t,c]⟩,ty,pos,af,none⟩::os) K e st=qz P L d st t c (e.ev x) (e.ev y) λv b=>AL P L ds KP os K (e.putO d v) b:=rfl
def zBB:V->dd->Prop->Prop->Prop
 |.at (.bool t),b,A,B=>if t=b then A else B
 |.tup [],_,_,B=>B
 |_,_,_,_=>False
def zRF(f:Op)(j:Nat)(b:dd)(t:Nat)(h:ds.getD j none=some t):AL P L ds KP (⟨d,f,ty,pos,af,some (j,b)⟩::os) K e st =
 zBB (e.get t) b (AL P L ds KP (⟨d,f,ty,pos,af,none⟩::os) K e st) (AL P L ds KP os K (e.putO d (.tup [])) st):=by
 show zv P L ds KP ⟨d,f,ty,pos,af,some (j,b)⟩ (AL P L ds KP os K) e st=zBB (e.get t) b (zv P L ds KP ⟨d,f,ty,pos,af,none⟩ (AL P L ds KP os K) e st) _;unfold zv zBB ji;simp only[h];cases i:e.get t with
 |tup vs=>cases vs<;>rfl
 |any=>rfl
 |agg fs=>rfl
 |lst tg es=>rfl
 |rptr x=>rfl
 |ifx=>rfl
 |clo k caps=>rfl
 |_=>
  rename_i v;cases v with
  |bool c=>cases c<;>cases b<;>rfl
  |_=>rfl
def zCQ(b:dd)(A B:Prop):zBB (.at (.bool b)) b A B=A:=by simp[zBB]
def zGV(A B:Prop):zBB (.at (.bool false)) true A B=B:=rfl
def zSq{f:dt}{xs:db dq}{b:dv dg}(r:V)(c:L.pf f=true)(i:xY P f=true)(j:((xs.map e.ev).all λx=>x.flat.all V.isOne)=true)(k:jS P f ((xs.map e.ev).map V.untag) r)
 (h:AL P L ds KP os K (e.putO d r) st):AL P L ds KP (⟨d,.call ⟨.value (.func f),xs.toArray,b⟩,ty,pos,af,none⟩::os) K e st:=by
 show xY P f=true/\_/\_/\_;refine⟨i,j,rfl,?_⟩;rw[if_pos c];exact⟨rfl,r,k,h⟩
def jZ{f:dt}{xs:db dq}{q:dv dg}{Q:Outc->S->Prop}(as:db V)(t:L.pf f=false)(u:L.rf f=false)(y:klb L d=[])(z:xY P f=true)(A:((xs.map e.ev).all λx=>x.flat.all V.isOne)=true)(j:Sub (xs.map e.ev) as)(C:FnC P f as st Q)
 (h:∀r s,Q (.ret r) s->AL P L ds KP os K (e.putO d r) s) (l:∀c s,Q (.pan c) s->KP c s):AL P L ds KP (⟨d,.call ⟨.value (.func f),xs.toArray,q⟩,ty,pos,af,none⟩::os) K e st:=by
 show xY P f=true/\_/\_/\_;refine⟨z,A,rfl,?_⟩;rw[if_neg fc,if_neg (by simp[u])];refine⟨as,j,?_⟩;intro B g w vs hi m p;rw[zUR]at p;refine(C B g w vs hi m p).mono ?_;rintro D w' ⟨g',i,E,F,n⟩;refine⟨g',i,E,F,?_⟩;cases D with
 |returned v=>obtain⟨r,G,H⟩:=n;exact⟨r,G,(λb k=>by replace k:b∈klb L d:=k;rw[y]at k;cases k),h r i H⟩
 |panicked c=>exact l c i n
 |outgrown=>exact n.elim
def zBN{f:dt}{xs:db dq}{i:dv dg}(as:db V)(r:V)(j:L.pf f=false)(k:L.rf f=true)(l:xY P f=true)(m:((xs.map e.ev).all λx=>x.flat.all V.isOne)=true)(b:Sub (xs.map e.ev) as)(n:FnC P f as st λoc c=>oc=.ret r/\c=st)
 (h:AL P L ds KP os K (e.putO d r) st):AL P L ds KP (⟨d,.call ⟨.value (.func f),xs.toArray,i⟩,ty,pos,af,none⟩::os) K e st:=by
 show xY P f=true/\_/\_/\_;refine⟨l,m,rfl,?_⟩;rw[if_neg (by simp[j]),if_pos k];exact⟨as,r,b,by rw[zUR];exact n,h⟩
def xP{x c:V}(h:x=c)(b:dd)(A B:Prop):zBB x b A B=zBB c b A B:=by rw[h]
def xi{c b x f y i:V}(h:c=b)(j:x=f)(k:y=i)(K:V->Prop):zCT c x y K=zCT b f i K:=by rw[h,j,k]
def x7(P:di)(b:BinOp)(t:dg){x c y f:V}(h:x=c)(i:y=f)(K:V->Prop):aBin P b t x y K=aBin P b t c f K:=by rw[h,i]
def qP(b:UnOp){x c:V}(h:x=c)(K:V->Prop):aUn b x K=aUn b c K:=by rw[h]
def yX{x b:V}(h:x=b)(i:Nat)(K:V->Prop):zAd x i K=zAd b i K:=by rw[h]
def xL(P:di)(t:dg){x b:V}(h:x=b)(f:Nat)(K:V->Prop):zPo P t x f K=zPo P t b f K:=by rw[h]
def yN(P:di)(t:dg){x b:V}(h:x=b)(f:Nat)(K:V->Prop):xR P t x f K=xR P t b f K:=by rw[h]
def yO(P:di)(t:dg){x b i c:V}(h:x=b)(f:i=c)(K:V->Prop):xp P t x i K=xp P t b c K:=by rw[h,f]
def xQ(P:di)(t:dg){x b i c:V}(h:x=b)(f:i=c)(K:V->Prop):zAl P t x i K=zAl P t b c K:=by rw[h,f]
def xn(P:di){st b:S}(f:st=b)(t:dg){x c:V}(h:x=c)(K:V->Prop):qW P st t x K=qW P b t c K:=by rw[h,f]
def xE(P:di){st b:S}(i:st=b)(t:dg){x c y f:V}(h:x=c)(j:y=f)(K:S->Prop):jf P st t x y K=jf P b t c f K:=by rw[h,i,j]
def xx{st b:S}(i:st=b){c f:db V}(h:c=f)(K:V->S->Prop):aNew st c K=aNew b f K:=by rw[h,i]
def xN(P:di){st b:S}(c:st=b)(t:dg)(K:V->S->Prop):zAL P st t K=zAL P b t K:=by rw[c]
def xG(P:di)(t:dg){ps b:db (Nat×V)}(h:ps=b)(K:V->Prop):zEn P t ps K=zEn P t b K:=by rw[h]
def yI(P:di)(L:Pol)(d:da Nat){st b:S}(f:st=b)(t:dg)(n:Nat){ps c:db (Nat×V)}(h:ps=c)(K:V->S->Prop):xA P L d st t n ps K=xA P L d b t n c K:=by rw[h,f]
def yT{x b:V}(h:x=b)(K:V->Prop):qn x K=qn b K:=by rw[h]
def xD(P:di)(t:dg){x f:V}{lo b hi c:da V}(h:x=f)(i:lo=b)(j:hi=c)(K:V->Prop):ja P t x lo hi K=ja P t f b c K:=by rw[h,i,j]
def x9(P:di)(t:dg){x b:V}(h:x=b)(K:V->Prop):aLen P t x K=aLen P t b K:=by rw[h]
def xy{x b y c:V}(h:x=b)(f:y=c)(K:V->Prop):aMax x y K=aMax b c K:=by rw[h,f]
def yh(P:di)(L:Pol)(d:da Nat){st b:S}(j:st=b)(t c:dg){x f y i:V}(h:x=f)(k:y=i)(K:V->S->Prop):qz P L d st t c x y K=qz P L d b t c f i K:=by rw[h,j,k]
end
open Go.RowKit
def Pt(h:(V->Prop)->Prop):Prop:=∀K,h K->∃v,K v/\∀b,b v->h b
section
variable{P:di}{L:Pol}{X:Cx}{e:Env}{st:S}{KP:db dj->S->Prop}
def zQn(c x y:V):Pt (zCT c x y):=λK h=>by
 unfold zCT at *;split at h
 .exact⟨_,h,λ_ k=>k⟩
 .cases h
def zTS(b:BinOp)(k:dm)(x y:Int):Pt (aInt b k x y):=λK h=>by
 cases b<;>simp only[aInt]at h ⊢
 case quo=>exact⟨_,h.2,λ_ q=>⟨h.1,q⟩⟩
 case rem=>exact⟨_,h.2,λ_ q=>⟨h.1,q⟩⟩
 case shl=>exact⟨_,h.2,λ_ q=>⟨h.1,q⟩⟩
 case shr=>exact⟨_,h.2,λ_ q=>⟨h.1,q⟩⟩
 all_goals exact⟨_,h,λ_ q=>q⟩
def zTH(b:BinOp)(x y:dk):Pt (aStr b x y):=λK h=>by
 cases b<;>simp only[aStr]at h ⊢
 case add=>exact⟨_,h.2,λ_ q=>⟨h.1,q⟩⟩
 all_goals exact⟨_,h,λ_ q=>q⟩
def zCO(b:BinOp)(x y:dd):Pt (kY b x y):=λK h=>by
 cases b<;>simp only[kY]at h ⊢
 all_goals exact⟨_,h,λ_ q=>q⟩
def zTM(i:BinOp)(t:dg)(x y:V):Pt (aBin P i t x y):=λK h=>by
 unfold aBin at *;split at h
 .obtain⟨v,b,c⟩:=zTS _ _ _ _ K h.2;exact⟨v,b,λf k=>⟨h.1,c f k⟩⟩
 .obtain⟨v,b,c⟩:=zCO _ _ _ K h.2;exact⟨v,b,λf k=>⟨h.1,c f k⟩⟩
 .obtain⟨v,b,c⟩:=zTH _ _ _ K h;exact⟨v,b,λf k=>c f k⟩
 .obtain⟨v,b,c⟩:=zCO _ _ _ K h.2;exact⟨v,b,λf k=>⟨h.1,c f k⟩⟩
 .obtain⟨v,b,c⟩:=zCO _ _ _ K h.2;exact⟨v,b,λf k=>⟨h.1,c f k⟩⟩
 .cases h
def zQe(j:BinOp)(t:dg)(c:dd)(x y:V):Pt (zB1 P j t c x y):=λK h=>by
 unfold zB1 at *;split at h
 .obtain⟨v,b,f⟩:=zCO _ _ _ K h.2;exact⟨v,b,λi k=>⟨h.1,f i k⟩⟩
 .obtain⟨v,b,f⟩:=zCO _ _ _ K h.2.2;exact⟨v,b,λi k=>⟨h.1,h.2.1,f i k⟩⟩
 .obtain⟨us,vs,l,m,n,h⟩:=h;obtain⟨v,b,f⟩:=zCO _ _ _ K h;exact⟨v,b,λi k=>⟨us,vs,l,m,n,f i k⟩⟩
 .exact zTM j t x y K h
def pt_aUn(b:UnOp)(x:V):Pt (aUn b x):=λK h=>by
 unfold aUn at *;split at h
 .split at h
  .exact⟨_,h,λ_ k=>k⟩
  .cases h
 .split at h
  .exact⟨_,h,λ_ k=>k⟩
  .exact⟨_,h,λ_ k=>k⟩
  .cases h
 .cases h
def zMf(x:V)(i:Nat):Pt (zAd x i):=λK h=>by
 unfold zAd at *;split at h
 .exact⟨_,h.2,λ_ k=>⟨h.1,k⟩⟩
 .cases h
def zKB(t:dg)(x:V)(f:Nat):Pt (xR P t x f):=λK h=>by
 unfold xR at *;split at h
 .exact⟨_,h.2.2.2,λ_ k=>⟨h.1,h.2.1,h.2.2.1,k⟩⟩
 .exact⟨_,h.2.2,λ_ k=>⟨h.1,h.2.1,k⟩⟩
 .cases h
def zJ6(t:dg)(x i:V):Pt (xp P t x i):=λK h=>by
 unfold xp at *;split at h
 .exact⟨_,h.2.2.2,λ_ k=>⟨h.1,h.2.1,h.2.2.1,k⟩⟩
 .exact⟨_,h.2.2,λ_ k=>⟨h.1,h.2.1,k⟩⟩
 .cases h
def zQQ(t:dg)(x i:V):Pt (zAl P t x i):=λK h=>by
 unfold zAl at *;split at h
 .exact⟨_,h.2.2,λ_ k=>⟨h.1,h.2.1,k⟩⟩
 .exact⟨_,h.2.2.2,λ_ k=>⟨h.1,h.2.1,h.2.2.1,k⟩⟩
 .cases h
def zKz(x:V):Pt (qn x):=λK h=>by
 unfold qn at *;split at h
 .exact⟨_,h,λ_ k=>k⟩
 .exact⟨_,h,λ_ k=>k⟩
 .cases h
def zO7(t:dg)(ps:db (Nat×V)):Pt (zEn P t ps):=λK h=>by
 unfold zEn at *;obtain⟨b,h⟩:=h;split at h
 .split at h
  .exact⟨_,h,λ_ k=>⟨b,k⟩⟩
  .cases h
 .cases h
def zOM(t:dg)(ps:db (Nat×V)):Pt (zCM P t ps):=λK h=>by
 rcases h with h|h
 .obtain⟨v,b,f⟩:=zO7 t ps K h;exact⟨v,b,λc k=>.inl (f c k)⟩
 .unfold zIf at h;obtain⟨i,b,h⟩:=h;split at h
  .rename_i cs j;split at h
   .rename_i cs' l;exact⟨_,h,λc k=>.inr ⟨i,b,by rw[j];simp only[l];exact k⟩⟩
   .cases h
  .cases h
def zNg(t:dg)(x:V):Pt (aLen P t x):=λK h=>by
 unfold aLen at *;split at h
 .exact⟨_,h.2,λ_ k=>⟨h.1,k⟩⟩
 .exact⟨_,h.2,λ_ k=>⟨h.1,k⟩⟩
 .exact⟨_,h.2,λ_ k=>⟨h.1,k⟩⟩
 .cases h
def zBa{x:da V}{d:Int}{K:Int->Prop}(h:jz x d K):∃n,K n/\∀b,b n->jz x d b:=by
 unfold jz at *;split at h
 .exact⟨_,h,λ_ k=>k⟩
 .exact⟨_,h,λ_ k=>k⟩
 .cases h
def zQD(t:dg)(x:V)(lo hi:da V):Pt (ja P t x lo hi):=λK h=>by
 unfold ja at *;split at h
 .split at h
  .cases h
  .obtain⟨b,i,h⟩:=h;obtain⟨l,h,c⟩:=zBa h;obtain⟨m,h,f⟩:=zBa h;exact⟨_,h.2,λ_ k=>⟨b,i,c _ (f _ ⟨h.1,k⟩)⟩⟩
 .split at h
  .cases h
  .obtain⟨b,h⟩:=h;obtain⟨l,h,c⟩:=zBa h;obtain⟨m,h,f⟩:=zBa h;exact⟨_,h.2,λ_ k=>⟨b,c _ (f _ ⟨h.1,k⟩)⟩⟩
 .obtain⟨b,h⟩:=h;obtain⟨l,h,c⟩:=zBa h;obtain⟨m,h,f⟩:=zBa h;exact⟨_,h.2,λ_ k=>⟨b,c _ (f _ ⟨h.1,k⟩)⟩⟩
 .exact⟨_,h.2.2.2.2.2,λ_ k=>⟨h.1,h.2.1,h.2.2.1,h.2.2.2.1,h.2.2.2.2.1,k⟩⟩
 .cases h
def zHG(st:S)(t:dg)(x:V):Pt (qW P st t x):=λK h=>by
 unfold qW at *;split at h
 .exact⟨_,h.2,λ_ k=>⟨h.1,k⟩⟩
 .split at h
  .exact⟨_,h.2,λ_ k=>⟨h.1,k⟩⟩
  .cases h
 .cases h
def cls(L:Pol)(o:dr):Nat:=
 match o.op with
 |.move _|.assign _=>if o.guard.isNone=true then 0 else 1
 |.pick ..|.binOp ..|.convert ..|.unOp ..|.extract ..|.field ..|.fieldAddr ..|.indexAddr ..|.index ..|.build ..|.nilCheck _|.slice ..=>1
 |.load ..=>3
 |.buildSlice ..=>if(o.dst.map L.wr).getD false=true then 5 else if(o.dst.map L.own).getD false=true then 4 else 1
 |.call c=>(match c.callee with
  |.builtin .len|.builtin .max=>1
  |.builtin .append=>if(o.dst.map L.wr).getD false=true then 5 else 4
  |.value (.func n)=>if L.pf n=true then 2 else 5
  |_=>5)
 |_=>5
def zP8(b c:Nat):dd:=
 decide (b<=2)||c==0||(b==3&&decide (c<=4))||(b==4&&decide (c<=3))
def zFD{o:dr}(l:cls L o<=2){K:V->S->Prop}(h:aop P L e st o K KP):∃v,K v st/\∀i p A,p v i->aop P L e i o p A:=by
 obtain⟨I,J,ty,pos,af,Q⟩:=o;have j:∀(z:(V->Prop)->Prop),Pt z->(z λv=>K v st)->∃v,K v st/\∀(i:S)(p:V->S->Prop)(_:db dj->S->Prop),p v i->z λv=>p v i:=by
  intro z B h;obtain⟨v,s,u⟩:=B _ h;exact⟨v,s,λi p _ k=>u (λv=>p v i) k⟩
 cases J<;>simp only[cls]at l<;>simp only[aop]at h ⊢ <;>
  first
   |(refine⟨_,h,λ_ _ _ k=>k⟩)
   |exact j _ (zQn _ _ _) h
   |exact j _ (zQe _ _ _ _ _) h
   |exact j _ (pt_aUn _ _) h
   |exact j _ (zMf _ _) h
   |exact j _ (zKB _ _ _) h
   |exact j _ (zJ6 _ _ _) h
   |exact j _ (zQQ _ _ _) h
   |exact j _ (zOM _ _) h
   |exact j _ (zKz _) h
   |(omega)
   |skip
 case slice t x lo hi R=>
  obtain⟨v,s,u⟩:=zQD _ _ _ _ _ h.2;exact⟨v,s,λi p _ k=>⟨h.1,u _ k⟩⟩
 case buildSlice t n ps=>
  split at l
  .omega
  .split at l
   .omega
   .rename_i s u;unfold xA at h ⊢;split at h
    .cases h
    .obtain⟨C,D,E,F,G,H,M,N,O,y⟩:=h;rw[if_neg s,if_neg u]at y;exact⟨_,y,λi p _ k=>⟨C,D,E,F,G,H,M,N,O,by rw[if_neg s,if_neg u];exact k⟩⟩
 case call c=>
  obtain⟨q,args,T⟩:=c;cases q with
  |invoke r m=>simp at l
  |value f=>
   simp only at h l ⊢;cases f with
   |func n=>
    simp only at l;split at l
    .rename_i B;simp only[Env.ev]at h ⊢;unfold zC0 at h ⊢;simp only[if_pos B]at h ⊢;obtain⟨C,D,E,F,r,G,H⟩:=h;exact⟨r,H,λi p _ k=>⟨C,D,E,F,r,G,k⟩⟩
    .omega
   |tmp t=>simp at l
   |const v=>simp at l
   |global g=>simp at l
  |builtin b=>
   simp only at h l ⊢;unfold zAb at h ⊢;split at h
   .exact j _ (zNg _ _) h
   .simp only at l;split at l<;>omega
   .cases h
def More(st f:S):Prop:=∀b c,Go.Al.look st.box b=some c->Go.Al.look f.box b=some c
def More.of_eq{st f:S}(h:f.box=st.box):More st f:=λb c i=>by rw[h];exact i
def zNz{st c:S}(h:More st c)(t:dg)(x:V)(K:V->Prop)(b:qW P st t x K):qW P c t x K:=by
 unfold qW at *;split at b
 .exact b
 .split at b
  .rename_i cs k f;simp only[h _ _ f];exact b
  .cases b
 .cases b
def newB(L:Pol)(o:dr):dd:=
 match o.op with
 |.alloc _|.box ..|.lookup ..=>true
 |.buildSlice ..=>(o.dst.map L.wr).getD false
 |_=>false
def wrB(L:Pol)(o:dr):dd:=
 match o.op with
 |.alloc _|.box ..|.store ..=>true
 |.buildSlice ..=>(o.dst.map L.wr).getD false
 |.call ⟨.builtin .append,_,_⟩=>(o.dst.map L.wr).getD false
 |_=>false
def adr(o:dr):dd:=
 match o.op with
 |.nilCheck _|.fieldAddr ..=>true
 |_=>false
def rdB(L:Pol)(o:dr):dd:=
 match o.op with
 |.call c=>(match c.callee with|.value (.func n)=>!L.pf n&&L.rf n|_=>false)
 |_=>false
def kpB(L:Pol)(f b:dr):dd:=
 match f.op with
 |.load _ x=>(match x with
  |.tmp u=>(match b.op with
   |.call c=>(match c.callee with|.value _=>(match b.dst with|some d=>L.kl.contains (d,u)|none=>false)|_=>false)
   |.store _ y _=>(match y with|.tmp a=>L.kl.contains (1000000+a,u)|_=>false)
   |_=>false)
  |_=>false)
 |_=>false
def kkey(o:dr):da Nat:=
 match o.op with
 |.store _ y _=>(match y with|.tmp a=>some (1000000+a)|_=>none)
 |_=>o.dst
def zBX(L:Pol)(b c:dr):dd:=
 zP8 (cls L b) (cls L c)||(cls L b==3&&newB L c)||(wrB L b&&adr c)||(rdB L b&&decide (cls L c<=3))||kpB L b c
def zT1{o:dr}(i:rdB L o=true){K:V->S->Prop}(h:aop P L e st o K KP):∃v,K v st/\∀l,l v st->aop P L e st o l KP:=by
 obtain⟨p,q,ty,pos,af,C⟩:=o;cases q<;>simp only[rdB]at i<;>try(simp at i;done)
 rename_i c;obtain⟨j,args,D⟩:=c;cases j with
 |invoke r m=>simp at i
 |builtin b=>simp at i
 |value f=>
  cases f with
  |func n=>
   simp only[zUE,zVU]at i;simp only[aop,Env.ev]at h ⊢;unfold zC0 at h ⊢;have s:¬L.pf n=true:=by rw[i.1];simp
   simp only[if_neg s,if_pos i.2]at h ⊢;obtain⟨u,x,y,as,r,z,A,B⟩:=h;exact⟨r,B,λl k=>⟨u,x,y,as,r,z,A,k⟩⟩
  |tmp t=>simp at i
  |const v=>simp at i
  |global g=>simp at i
def zRr{r s:dr}(f:kpB L r s=true){K:V->S->Prop}(h:aop P L e st r K KP):∃v,K v st/\∀s' l,(∀b∈klb L (kkey s),Go.Al.look s'.box b=Go.Al.look st.box b)->l v s'->aop P L e s' r l KP:=by
 obtain⟨F,H,ty,pos,af,I⟩:=r;unfold kpB at f;split at f
 .rename_i t x m;simp only at m;subst m;split at f
  .rename_i u;split at f
   .rename_i c n;split at f
    .split at f
     .rename_i d G;obtain⟨p,h⟩:=h;obtain⟨v,A,B⟩:=zHG _ _ _ _ h;refine⟨v,A,λs' l C k=>⟨p,?_⟩⟩;have D:(d,u)∈L.kl:=by simpa using f
      have i:=B (λv=>l v s') k;have j:kkey s=some d:=by unfold kkey;rw[n];exact G
      unfold qW at i ⊢;split at i
      .exact i
      .rename_i b o E;rw[C b (by rw[j];exact p (d,u) D rfl b o E)];exact i
      .cases i
     .cases f
    .cases f
   .rename_i J y z q;split at f
    .rename_i a;obtain⟨p,h⟩:=h;obtain⟨v,A,B⟩:=zHG _ _ _ _ h;refine⟨v,A,λs' l C k=>⟨p,?_⟩⟩;have D:(1000000+a,u)∈L.kl:=by simpa using f
     have i:=B (λv=>l v s') k;have j:kkey s=some (1000000+a):=by unfold kkey;rw[q]
     unfold qW at i ⊢;split at i
     .exact i
     .rename_i b o E;rw[C b (by rw[j];exact p (1000000+a,u) D rfl b o E)];exact i
     .cases i
    .cases f
   .cases f
  .cases f
 .cases f
def zN6{N m:dr}(i:kpB L N m=true){K:V->S->Prop}(h:aop P L e st m K KP):aop P L e st m (λv s=>(∀b∈klb L (kkey m),Go.Al.look s.box b=Go.Al.look st.box b)/\K v s) KP:=by
 unfold kpB at i;split at i
 .split at i
  .split at i
   .rename_i c j;split at i
    .rename_i f n;obtain⟨t,O,ty,pos,af,Q⟩:=m;simp only at j;subst j;simp only[aop,n]at h ⊢;unfold zC0 at h ⊢;split at h
     .obtain⟨u,x,A,k⟩:=h;refine⟨u,x,A,?_⟩;split at k
      .rename_i C;rw[if_pos C];obtain⟨p,r,q,D⟩:=k;exact⟨p,r,q,λ_ _=>rfl,D⟩
      .rename_i C;rw[if_neg C];split at k
       .rename_i l;rw[if_pos l];obtain⟨as,r,p,q,D⟩:=k;exact⟨as,r,p,q,λ_ _=>rfl,D⟩
       .rename_i l;rw[if_neg l];obtain⟨as,p,q⟩:=k;refine⟨as,p,λB g w vs hi E F=>(q B g w vs hi E F).mono ?_⟩;rintro R w' ⟨g',G,k1,k2,H⟩;refine⟨g',G,k1,k2,?_⟩;cases R with
        |returned v=>obtain⟨r,T,J,U⟩:=H;exact⟨r,T,J,J,U⟩
        |panicked Z=>exact H
        |outgrown=>exact H
     .cases h
    .cases i
   .rename_i t2 y z j;split at i
    .rename_i a;obtain⟨t,O,ty,pos,af,Q⟩:=m;simp only at j;subst j;simp only[aop]at h ⊢;obtain⟨M,h⟩:=h;refine⟨M,?_⟩;unfold jf at *;split at h
     .rename_i b o F;split at h
      .obtain⟨u,x,A,k,W⟩:=h;refine⟨u,x,A,k,λb2 I=>?_,W⟩;rw[zO,if_neg (λY=>by subst Y;exact M b o F I)]
      .cases h
     .cases h
    .cases i
   .cases i
  .cases i
 .cases i
def zDy{o:dr}(f:cls L o=3){K:V->S->Prop}(h:aop P L e st o K KP):∃v,K v st/\∀b c i,More st b->c v b->aop P L e b o c i:=by
 obtain⟨j,l,ty,pos,af,r⟩:=o;cases l<;>simp only[cls]at f<;>try(first|omega|(split at f<;>first|omega|(split at f<;>omega)))
 case load t x=>
  simp only[aop]at h ⊢;obtain⟨m,h⟩:=h;obtain⟨v,n,p⟩:=zHG _ _ _ _ h;exact⟨v,n,λb c _ q k=>⟨m,zNz q _ _ _ (p (λv=>c v b) k)⟩⟩
end
end Go.Al
end
section
namespace Go.Al
open Go.RowKit
section
variable{P:di}{L:Pol}{X:Cx}{e:Env}{st:S}{KP:db dj->S->Prop}
def zK8{o:dr}(a:cls L o=4){K:V->S->Prop}(h:aop P L e st o K KP):∃v l,l.box=st.box/\K v l/\∀q C,q v l->aop P L e st o q C:=by
 obtain⟨G,H,ty,pos,af,R⟩:=o;cases H<;>simp only[cls]at a<;>try(first|omega|(split at a<;>omega))
 case buildSlice t n ps=>
  split at a
  .omega
  .rename_i p;split at a
   .rename_i F;simp only[aop]at h ⊢;unfold xA at h ⊢;split at h
    .cases h
    .obtain⟨u,x,y,z,A,i,I,J,M,s⟩:=h;rw[if_neg p,if_pos F]at s;exact⟨_,⟨st.box,st.nx::st.tg,st.nx+1,st.ob⟩,rfl,s,λq _ k=>⟨u,x,y,z,A,i,I,J,M,by rw[if_neg p,if_pos F];exact k⟩⟩
   .omega
 case call c=>
  obtain⟨j,args,T⟩:=c;cases j with
  |invoke r m=>simp at a
  |value f=>cases f<;>simp only at a<;>first|omega|(split at a<;>omega)
  |builtin b=>
   simp only[aop]at h a ⊢;unfold zAb at h ⊢;split at h
   .simp only at a;omega
   .simp only at a ⊢;split at a
    .omega
    .rename_i p;unfold qz at h ⊢;split at h
     .obtain⟨u,x,y,z,A,i⟩:=h;split at i
      .obtain⟨D,E,B⟩:=i;rw[if_neg p]at B;exact⟨_,⟨st.box,st.nx::st.tg,st.nx+1,st.ob⟩,rfl,B,λq _ k=>⟨u,x,y,z,A,D,E,by rw[if_neg p];exact k⟩⟩
      .obtain⟨D,E,B,N,O⟩:=i;exact⟨_,⟨st.box,st.nx::st.tg.erase _,st.nx+1,st.ob⟩,rfl,O,λq _ k=>⟨u,x,y,z,A,D,E,B,N,k⟩⟩
      .split at i
       .exact absurd i.1 p
       .cases i
      .cases i
     .exact absurd h.2.2.2.2.1 p
     .cases h
   .cases h
def zHR{f:dt}{args:db V}{Q j:Outc->S->Prop}(h:FnC P f args st Q)(k:∀o s,Q o s->j o s):FnC P f args st j:=by
 intro B g w vs hi a l;refine(h B g w vs hi a l).mono ?_;rintro m w' ⟨g',b,n,p,i⟩;refine⟨g',b,n,p,?_⟩;cases m with
 |returned v=>obtain⟨r,q,t⟩:=i;exact⟨r,q,k _ _ t⟩
 |panicked c=>exact k _ _ i
 |outgrown=>exact i
def zJo{cs:db V}{K a:V->S->Prop}(h:aNew st cs K)(c:∀v s,K v s->a v s):aNew st cs a:=⟨h.1,λb f=>c _ _ (h.2 b f)⟩
def zKd{o:da Nat}{t C:dg}{s x:V}{K D:V->S->Prop}(h:qz P L o st t C s x K)(m:∀v s,K v s->D v s):qz P L o st t C s x D:=by
 unfold qz at *;split at h
 .obtain⟨q,r,u,y,z,a⟩:=h;refine⟨q,r,u,y,z,?_⟩;split at a
  .obtain⟨f,i,c⟩:=a;refine⟨f,i,?_⟩;split at c
   .rename_i A;rw[if_pos A];exact⟨c.1,c.2.1,λb cap j k=>m _ _ (c.2.2 b cap j k)⟩
   .rename_i A;rw[if_neg A];exact m _ _ c
  .obtain⟨f,i,c,l,p⟩:=a;exact⟨f,i,c,l,m _ _ p⟩
  .split at a
   .obtain⟨E,f,i,c,l,p,F,B⟩:=a;exact⟨E,f,i,c,l,p,F,λb cap j k=>m _ _ (B b cap j k)⟩
   .cases a
  .cases a
 .obtain⟨q,r,u,y,z,a⟩:=h;refine⟨q,r,u,y,z,?_⟩;split at a
  .cases a
  .obtain⟨a,n⟩:=a;refine⟨a,?_⟩;split at n
   .obtain⟨f,i,c,l⟩:=n;exact⟨f,i,c,λb cap j k=>m _ _ (l b cap j k)⟩
   .split at n
    .obtain⟨f,i,c,l,p,B⟩:=n;exact⟨f,i,c,l,p,λb cap j k=>m _ _ (B b cap j k)⟩
    .cases n
   .cases n
 .cases h
def zHV{c:da Nat}{t:dg}{n:Nat}{ps:db (Nat×V)}{K k:V->S->Prop}(h:xA P L c st t n ps K)(f:∀v s,K v s->k v s):xA P L c st t n ps k:=by
 unfold xA at *;split at h
 .cases h
 .obtain⟨l,m,o,p,q,r,u,x,y,a⟩:=h;refine⟨l,m,o,p,q,r,u,x,y,?_⟩;split at a
  .rename_i i;rw[if_pos i];exact⟨a.1,λb z=>f _ _ (a.2 b z)⟩
  .rename_i i;rw[if_neg i];split at a
   .rename_i j;rw[if_pos j];exact f _ _ a
   .rename_i j;rw[if_neg j];exact f _ _ a
def kR{o:dr}{K q:V->S->Prop}(h:aop P L e st o K KP)(f:∀v s,K v s->q v s):aop P L e st o q KP:=by
 by_cases u:cls L o<=2
 .obtain⟨v,l,a⟩:=zFD u h;exact a st q KP (f _ _ l)
 .obtain⟨z,I,ty,pos,af,J⟩:=o;cases I<;>simp only[cls]at u<;>try(first|omega|(split at u<;>omega))
  case load t x=>obtain⟨v,l,a⟩:=zDy (o:=⟨z,.load t x,ty,pos,af,J⟩) rfl h;exact a st q KP (More.of_eq rfl) (f _ _ l)
  case store t x y=>
   simp only[aop]at h ⊢;obtain⟨M,h⟩:=h;refine⟨M,?_⟩;unfold jf at *;split at h
   .split at h
    .obtain⟨A,B,C,j,N⟩:=h;exact⟨A,B,C,j,f _ _ N⟩
    .cases h
   .cases h
  case alloc t=>
   simp only[aop]at h ⊢;unfold zAL at *;split at h
   .exact zJo h f
   .cases h
  case box t x=>exact zJo h f
  case buildSlice t n ps=>exact zHV h f
  case call c=>
   simp only[aop]at h ⊢;split at h
   .unfold zC0 at *;split at h
    .obtain⟨A,B,C,j⟩:=h;refine⟨A,B,C,?_⟩;split at j
     .rename_i D;rw[if_pos D];obtain⟨E,r,F,G⟩:=j;exact⟨E,r,F,f _ _ G⟩
     .rename_i D;rw[if_neg D];split at j
      .rename_i p;rw[if_pos p];obtain⟨as,r,E,F,G⟩:=j;exact⟨as,r,E,F,f _ _ G⟩
      .rename_i p;rw[if_neg p];exact j.imp λas j=>⟨j.1,zHR j.2 λoc s H=>by cases oc<;>first|exact⟨H.1,f _ _ H.2⟩|exact H⟩
    .cases h
   .unfold zAb at *;split at h
    .obtain⟨v,l,a⟩:=zNg _ _ _ h;exact a _ (f _ _ l)
    .exact zKd h f
    .cases h
   .exact h.elim
  case makeInterface t x=>
   simp only[aop]at h ⊢;unfold zE5 at *;obtain⟨l,a⟩:=h;refine⟨l,?_⟩;revert a;split
   .exact λa=>f _ _ a
   .split<;>exact λa=>f _ _ a
   .exact λa=>f _ _ a
  case makeFunc R first caps=>
   simp only[aop]at h ⊢;unfold zIO at *;revert h;split
   .exact λh=>⟨h.1,f _ _ h.2⟩
   .exact λh=>h
  case makeMap t r=>exact⟨h.1,λb O=>f _ _ (h.2 b O)⟩
  case lookup t x i c=>
   simp only[aop]at h ⊢;unfold zAO at *;split at h
   .split at h
    .obtain⟨l,a⟩:=h;refine⟨l,?_⟩;split at a
     .exact f _ _ a
     .split at a
      .split at a
       .exact f _ _ a
       .exact f _ _ a
      .cases a
     .cases a
    .cases h
   .cases h
  case mapUpdate t m k y=>
   simp only[aop]at h ⊢;unfold qd at *;split at h
   .split at h
    .exact⟨h.1,f _ _ h.2⟩
    .cases h
   .cases h
  case panic x=>exact h
  all_goals first|exact h.elim|(simp only[aop]at h)
def zBY(l:db (Nat×db V×Nat)):∃b,Go.Al.look l b=none:=by
 have h:∀l:db (Nat×db V×Nat),∃n,∀b,n<=b->Go.Al.look l b=none:=by
  intro l
  induction l with
  |nil=>exact⟨0,λ_ _=>rfl⟩
  |cons p r f=>
   obtain⟨n,a⟩:=f;obtain⟨k,c⟩:=p;refine⟨max n (k+1),λb i=>?_⟩;show(if k=b then some c else Go.Al.look r b)=none;rw[if_neg dM,a b dM]
 obtain⟨n,a⟩:=h l;exact⟨n,a n (zUB _)⟩
def zQc{o:dr}(k:wrB L o=true){C:Prop}(h:aop P L e st o (λ_ _=>C) KP):C:=by
 obtain⟨H,I,ty,pos,af,M⟩:=o;have l:∀{cs:db V},aNew st cs (λ_ _=>C)->C:=λh=>by
  obtain⟨b,i⟩:=zBY st.box;exact h.2 b i
 cases I<;>simp only[wrB]at k<;>try(simp at k;done)
 case alloc t=>
  simp only[aop]at h;unfold zAL at h;split at h
  .exact l h
  .cases h
 case box t x=>exact l h
 case store t x y=>
  simp only[aop]at h;replace h:=h.2;unfold jf at h;split at h
  .split at h
   .exact h.2.2.2.2
   .cases h
  .cases h
 case buildSlice t n ps=>
  simp only[aop]at h;unfold xA at h;split at h
  .cases h
  .obtain⟨B,D,E,F,G,a,p,N,O,q⟩:=h;rw[if_pos k]at q;obtain⟨b,i⟩:=zBY st.box;exact q.2 b i
 case call c=>
  obtain⟨j,args,R⟩:=c;cases j with
  |invoke r m=>simp at k
  |value f=>simp at k
  |builtin b=>
   cases b<;>simp only at k<;>try(simp at k;done)
   simp only[aop]at h;unfold zAb at h;split at h
   .contradiction
   .unfold qz at h;split at h
    .obtain⟨B,D,E,F,G,a⟩:=h;split at a
     .obtain⟨u,v,s⟩:=a;rw[if_pos k]at s;obtain⟨b,i⟩:=zBY st.box;exact s.2.2 b _ i (zUB _)
     .exact a.2.2.2.2
     .split at a
      .obtain⟨S,u,v,s,z,J,T,A⟩:=a;obtain⟨b,i⟩:=zBY (wipe st.box _);exact A b _ i (zUB _)
      .cases a
     .cases a
    .obtain⟨B,D,E,F,G,a⟩:=h;split at a
     .cases a
     .obtain⟨a,p⟩:=a;split at p
      .obtain⟨u,v,s,z⟩:=p;obtain⟨b,i⟩:=zBY st.box;exact z b _ i (zUB _)
      .split at p
       .obtain⟨u,v,s,z,J,A⟩:=p;obtain⟨b,i⟩:=zBY (wipe st.box _);exact A b _ i (zUB _)
       .cases p
      .cases p
    .cases h
   .cases h
def zRQ{o:dr}(i:adr o=true){K:V->S->Prop}(h:aop P L e st o K KP):∃v,∀a j b,aop P L e a o j b↔j v a:=by
 obtain⟨k,l,ty,pos,af,m⟩:=o;cases l<;>simp only[adr]at i<;>try(simp at i;done)
 case nilCheck x=>
  simp only[aop]at h ⊢;unfold qn at *;split at h
  .rename_i c;simp only[c];exact⟨_,λ_ _ _=>zVD⟩
  .rename_i c;simp only[c];exact⟨_,λ_ _ _=>zVD⟩
  .cases h
 case fieldAddr t x f=>
  simp only[aop]at h ⊢;unfold xR at *;split at h
  .exact⟨_,λ_ _ _=>⟨λq=>q.2.2.2,λq=>⟨h.1,h.2.1,h.2.2.1,q⟩⟩⟩
  .exact⟨_,λ_ _ _=>⟨λq=>q.2.2,λq=>⟨h.1,h.2.1,q⟩⟩⟩
  .cases h
def zQu{o:dr}(k:newB L o=true){K:V->S->Prop}(h:aop P L e st o K KP):aop P L e st o (λv s=>More st s/\K v s) KP:=by
 have a:∀(b:Nat)(c:db V×Nat)(tg:db Nat)(n:Nat)(m:db (Nat×OV×db Nat)),Go.Al.look st.box b=none->More st ⟨lay st.box b c,tg,n,m⟩:=λb c tg n m f p r l=>by
  show Go.Al.look (lay st.box b c) p=some r;rw[zO];by_cases q:b=p
  .subst q;rw[f]at l;cases l
  .rw[if_neg q];exact l
 obtain⟨u,y,ty,pos,af,I⟩:=o;cases y<;>simp only[newB]at k<;>try(simp at k;done)
 case alloc t=>
  simp only[aop]at h ⊢;unfold zAL at *;split at h
  .exact⟨h.1,λb f=>⟨a _ _ _ _ _ f,h.2 b f⟩⟩
  .cases h
 case box t x=>exact⟨h.1,λb f=>⟨a _ _ _ _ _ f,h.2 b f⟩⟩
 case lookup t x i c=>
  simp only[aop]at h ⊢;unfold zAO at *;split at h
  .split at h
   .refine⟨h.1,?_⟩;replace h:=h.2;split at h
    .exact⟨More.of_eq rfl,h⟩
    .split at h
     .split at h
      .exact⟨More.of_eq rfl,h⟩
      .exact⟨More.of_eq rfl,h⟩
     .cases h
    .cases h
   .cases h
  .cases h
 case buildSlice t n ps=>
  simp only[aop]at h ⊢;unfold xA at *;split at h
  .cases h
  .obtain⟨z,A,B,C,D,E,F,G,H,j⟩:=h;rw[if_pos k]at j;exact⟨z,A,B,C,D,E,F,G,H,by rw[if_pos k];exact⟨j.1,λb f=>⟨a _ _ _ _ _ f,j.2 b f⟩⟩⟩
def zGN{o:dr}{e':Env}(h:∀x∈o.op.operands,e.ev x=e'.ev x)(K:V->S->Prop):aop P L e st o K KP=aop P L e' st o K KP:=by
 obtain⟨u,v,ty,pos,af,B⟩:=o;have i:∀ps:dv (Nat×dq),(∀x∈(ps.toList.map (·.2)).toArray,e.ev x=e'.ev x)->(ps.toList.map λp=>(p.1,e.ev p.2))=ps.toList.map λp=>(p.1,e'.ev p.2):=λps y=>
  zVQ λp z=>by rw[y p.2 (by simp only[List.mem_toArray,zVA];exact⟨p,z,rfl⟩)]
 cases v<;>simp only[Op.operands]at h<;>simp only[aop]
 case build t ps=>rw[i ps h]
 case buildSlice t n ps=>rw[i ps h]
 case slice t x lo hi C=>
  have k:=h x dQ;have l:lo.map e.ev=lo.map e'.ev:=by cases lo<;>simp_all
  have A:hi.map e.ev=hi.map e'.ev:=by cases hi<;>simp_all
  rw[k,l,A]
 case makeFunc D first caps=>
  have k:first.toList.map e.ev=first.toList.map e'.ev:=zVQ λx j=>h x (by simp only[zWo];exact .inl (by simpa using j));have l:caps.toList.map e.ev=caps.toList.map e'.ev:=zVQ λx j=>h x (by simp only[zWo];exact .inr (by simpa using j));rw[k,l]
 case call c=>
  have a:c.args.toList.map e.ev=c.args.toList.map e'.ev:=zVQ λx j=>h x (by simp only[Call.operands,zWo];exact .inr (by simpa using j));cases s:c.callee with
  |value f=>
   have q:e.ev f=e'.ev f:=h f (by simp[Call.operands,s]);simp only[a,q]
  |invoke r m=>
   have q:e.ev r=e'.ev r:=h r (by simp[Call.operands,s]);simp only[a,q]
  |builtin b=>simp only[a]
 all_goals (first|rfl|(simp_all;done))
end
open Go.RowKit
section
variable{P:di}{L:Pol}{X:Cx}{ops:dv dr}{ds:db (da Nat)}{e:Env}{st:S}{KP:db dj->S->Prop}
def Env.eqv(e e':Env):Prop:=∀k,e.get k=e'.get k
def Resp(K:Env->S->Prop):Prop:=∀e e' s,e.eqv e'->K e s->K e' s
def zLv{e e':Env}(h:e.eqv e')(x:dq):e.ev x=e'.ev x:=by
 cases x with
 |tmp t=>exact h t
 |_=>rfl
def zLU{e e':Env}(h:e.eqv e')(d:da Nat)(v:V):(e.putO d v).eqv (e'.putO d v):=by
 intro k;cases d with
 |none=>exact h k
 |some d=>simp only[Env.putO,Env.get_put];rw[h k]
def zPR{e e':Env}(h:e.eqv e')(a:da (Nat×dd)):ji ds e a=ji ds e' a:=by
 unfold ji;cases a with
 |none=>rfl
 |some p=>obtain⟨j,b⟩:=p;simp only;cases ds.getD j none with
  |none=>rfl
  |some d=>simp only[h d]
def qH{o:dr}{K b:Env->S->Prop}(h:zv P L ds KP o K e st)(c:∀e s,K e s->b e s):zv P L ds KP o b e st:=by
 unfold zv at *;split at h
 .exact h
 .split at h
  .rename_i a;rw[if_pos a];exact kR h λ_ _ q=>c _ _ q
  .rename_i a;rw[if_neg a];exact c _ _ h
def zN7{o:dr}{K:Env->S->Prop}(c:Resp K):Resp (zv P L ds KP o K):=by
 intro e e' s h a;unfold zv at *;rw[<-zPR h];split at a
 .exact a
 .split at a
  .rename_i b;rw[if_pos b];rw[zGN (e':=e) (λx _=>(zLv h x).symm)];exact kR a λv s q=>c _ _ _ (zLU h _ _) q
  .rename_i b;rw[if_neg b];exact c _ _ _ (zLU h _ _) a
def zLH{d:da Nat}{v:V}{o:dr}(h:∀t,d=some t->t∉o.looksAt ops):∀x∈o.op.operands,(e.putO d v).ev x=e.ev x:=by
 intro x b;cases d with
 |none=>rfl
 |some t=>
  cases x with
  |tmp u=>
   have a:t≠u:=λc=>h t rfl (by subst c;exact zUu _ (zV8.2 ⟨.tmp t,by simpa using b,rfl⟩));simp only[Env.putO,Env.ev,Env.get_put,if_neg a]
  |_=>rfl
def zJj(a:ds=ops.toList.map (·.dst)){d:da Nat}{v:V}{o:dr}(h:∀t,d=some t->t∉o.looksAt ops):ji ds (e.putO d v) o.guard=ji ds e o.guard:=by
 cases d with
 |none=>rfl
 |some t=>
  unfold ji;cases k:o.guard with
  |none=>rfl
  |some p=>
   obtain⟨j,b⟩:=p;simp only;cases c:ds.getD j none with
   |none=>rfl
   |some u=>
    have l:(ops[j]?).bind (·.dst)=some u:=by
     subst a;simp only[zUV,zUy,zVJ]at c;cases i:ops[j]? with
     |none=>simp[i]at c
     |some n=>simpa [i]using c
    have f:t≠u:=λm=>h t rfl (by subst m;refine zU8 _ ?_;simp[k,l]);simp only[Env.putO,Env.get_put,if_neg f]
def zHN{b a:da Nat}{vi i:V}(h:∀t,b=some t->a≠some t):((e.putO b vi).putO a i).eqv ((e.putO a i).putO b vi):=by
 intro k;cases b with
 |none=>cases a<;>rfl
 |some t=>
  cases a with
  |none=>rfl
  |some u=>
   have c:t≠u:=λl=>h t rfl (by rw[l]);simp only[Env.putO,Env.get_put];by_cases f:u=k
   .by_cases j:t=k
    .exact absurd (j.trans f.symm) c
    .simp[f,j]
   .simp[f]
def zAq(a:ds=ops.toList.map (·.dst)){o:dr}{d:da Nat}{v:V}(c:∀t,d=some t->t∉o.looksAt ops)(f:∀t,d=some t->o.dst≠some t){K:Env->S->Prop}(i:Resp K)
 (h:zv P L ds KP o K (e.putO d v) st):zv P L ds KP o (λe' s=>K (e'.putO d v) s) e st:=by
 unfold zv at *;rw[zJj a c]at h;split at h
 .exact h
 .split at h
  .rename_i b;rw[if_pos b];rw[zGN (zLH c)]at h;exact kR h λu s q=>i _ _ _ (zHN f) q
  .rename_i b;rw[if_neg b];exact i _ _ _ (zHN f) h
def zAr{o:dr}{K:Env->S->Prop}(h:zv P L ds KP o K e st):zv P L ds KP o (λe' s=>(∃v,e'=e.putO o.dst v)/\(cls L o<=4\/newB L o=true->More st s)/\K e' s) e st:=by
 unfold zv at *;split at h
 .exact h
 .split at h
  .rename_i b;rw[if_pos b];by_cases f:cls L o<=2
   .obtain⟨v,k1,k2⟩:=zFD f h;exact k2 _ _ _ ⟨⟨v,rfl⟩,λ_=>More.of_eq rfl,k1⟩
   .by_cases i:cls L o=3
    .obtain⟨v,k1,k2⟩:=zDy i h;exact k2 _ _ _ (More.of_eq rfl) ⟨⟨v,rfl⟩,λ_=>More.of_eq rfl,k1⟩
    .by_cases j:cls L o=4
     .obtain⟨v,k,k0,k1,k2⟩:=zK8 j h;exact k2 _ _ ⟨⟨v,rfl⟩,λ_=>More.of_eq k0,k1⟩
     .by_cases c:newB L o=true
      .exact kR (zQu c h) λv s q=>⟨⟨v,rfl⟩,λ_=>q.1,q.2⟩
      .exact kR h λv s q=>⟨⟨v,rfl⟩,λa=>a.elim (λa=>dM) (λa=>absurd a c),q⟩
  .rename_i b;rw[if_neg b];exact⟨⟨_,rfl⟩,λ_=>More.of_eq rfl,h⟩
def zKE{c o:dr}(f:kpB L c o=true){K:Env->S->Prop}(h:zv P L ds KP o K e st):zv P L ds KP o (λe' s=>(∃v,e'=e.putO o.dst v)/\(∀b∈klb L (kkey o),Go.Al.look s.box b=Go.Al.look st.box b)/\K e' s) e st:=by
 unfold zv at *;split at h
 .exact h
 .split at h
  .rename_i a;rw[if_pos a];exact kR (zN6 f h) λv s q=>⟨⟨v,rfl⟩,q.1,q.2⟩
  .rename_i a;rw[if_neg a];exact⟨⟨_,rfl⟩,λ_ _=>rfl,h⟩
def zG5{o:dr}(i:cls L o<=3){a:S}(c:a.box=st.box){K:Env->S->Prop}(h:zv P L ds KP o K e a):zv P L ds KP o (λe' s=>s=st/\K e' a) e st:=by
 unfold zv at *;split at h
 .exact h
 .split at h
  .rename_i b;rw[if_pos b];by_cases f:cls L o<=2
   .obtain⟨v,k1,k2⟩:=zFD f h;exact k2 _ _ _ ⟨rfl,k1⟩
   .obtain⟨v,k1,k2⟩:=zDy dM h;exact k2 _ _ _ (More.of_eq c.symm) ⟨rfl,k1⟩
  .rename_i b;rw[if_neg b];exact⟨rfl,h⟩
def zOO(k:ds=ops.toList.map (·.dst)){j a:dr}(N:j.apart ops a=true)(i:zBX L j a=true){K:Env->S->Prop}(C:Resp K)
 (H:zv P L ds KP j (zv P L ds KP a K) e st):zv P L ds KP a (zv P L ds KP j K) e st:=by
 obtain⟨D,E,a3⟩:=Oper.apart_spec N;have hw:∀v,ji ds (e.putO a.dst v) j.guard=ji ds e j.guard:=λv=>zJj k a3;have O:∀v s (p:V->S->Prop),aop P L (e.putO a.dst v) s j p KP=aop P L e s j p KP:=λv s p=>zGN (zLH a3) p;cases hi:ji ds e j.guard with
 |none=>unfold zv at H;rw[hi]at H;exact H.elim
 |some c=>
  cases c with
  |false=>
   unfold zv at H;rw[hi]at H;simp only[zUN,zUK]at H;have H1:=zAr (zAq k D E C H);refine qH H1 ?_;rintro e' s ⟨⟨v,rfl⟩,_,z⟩;unfold zv;rw[hw v,hi];simpa using z
  |true=>
   have F:aop P L e st j (λv G=>zv P L ds KP a K (e.putO j.dst v) G) KP:=by
    unfold zv at H;rw[hi]at H;simp only[zUM]at H;exact H
   have l:∀v s,aop P L e s j (λu s'=>K ((e.putO a.dst v).putO j.dst u) s') KP->zv P L ds KP j K (e.putO a.dst v) s:=by
    intro v s h;unfold zv;rw[hw v,hi];simp only[zUM];rw[O];exact h
   by_cases c2:cls L j<=2
   .obtain⟨vi,k1,k2⟩:=zFD c2 F;refine qH (zAr (zAq k D E C k1)) ?_;rintro e' s ⟨⟨v,rfl⟩,_,z⟩;exact l v s (k2 s _ _ z)
   .by_cases y:cls L a=0
    .have R:∃x,(∀(e:Env)(s:S)(p:V->S->Prop),aop P L e s a p KP=p (e.ev x) s)/\x∈a.op.operands/\a.guard=none:=by
      obtain⟨ab,op,ty,pos,af,gd⟩:=a;cases op<;>simp only[cls]at y<;>try(first|omega|(split at y<;>omega))
      case move x=>cases gd<;>simp at y;exact⟨x,λ_ _ _=>rfl,by simp[Op.operands],rfl⟩
      case assign x=>cases gd<;>simp at y;exact⟨x,λ_ _ _=>rfl,by simp[Op.operands],rfl⟩
      case buildSlice t n ps=>split at y<;>first|omega|(split at y<;>omega)
      case call c=>
       obtain⟨B,args,ts⟩:=c;cases B with
       |invoke r m=>simp at y
       |value f=>cases f<;>simp only at y<;>first|omega|(split at y<;>omega)
       |builtin b=>cases b<;>simp only at y<;>first|omega|(split at y<;>omega)
     obtain⟨x,hx,T,U⟩:=R;have hs:∀(p:Env->S->Prop)(e:Env)(s:S),zv P L ds KP a p e s=p (e.putO a.dst (e.ev x)) s:=by
      intro p e s;unfold zv;rw[U];simp only[ji,zUM];rw[hx]
     rw[hs];refine l _ _ (kR F λv s q=>?_);rw[hs]at q;rw[zLH D x T]at q;exact C _ _ _ (zHN E) q
    .simp only[zBX,zP8,zVv,zUE,zU7,zWN]at i;have A:cls L j=3->cls L a<=4\/newB L a=true->zv P L ds KP a (zv P L ds KP j K) e st:=by
      intro W Y;obtain⟨vi,k1,k2⟩:=zDy W F;refine qH (zAr (zAq k D E C k1)) ?_;rintro e' s ⟨⟨v,rfl⟩,Z,z⟩;exact l v s (k2 s _ _ (Z Y) z)
     rcases i with(((((((i|i)|i)|i)|i)|i)|i)|i)
     .exact absurd i c2
     .exact absurd i y
     .exact A i.1 (.inl i.2)
     .obtain⟨vi,ac,k0,k1,k2⟩:=zK8 i.1 F;have q:=zG5 (st:=st) i.2 k0 (zAq k D E C k1);refine qH (zAr q) ?_;rintro e' s ⟨⟨v,rfl⟩,_,rfl,z⟩;exact l v s (k2 _ _ z)
     .exact A i.1 (.inr i.2)
     .have H2:aop P L e st j (λv G=>zv P L ds KP a (λe' s=>K (e'.putO j.dst v) s) e G) KP:=kR F λv s q=>zAq k D E C q;have I:∀s (p:Env->S->Prop),zv P L ds KP a p e s->∃v,∀s' o,zv P L ds KP a o e s'↔o (e.putO a.dst v) s':=by
       intro s p h;unfold zv at h;cases J:ji ds e a.guard with
       |none=>rw[J]at h;exact h.elim
       |some c=>
        rw[J]at h;cases c with
        |false=>
         refine⟨.tup [],λs' o=>?_⟩;unfold zv;rw[J];simp
        |true=>
         simp only[zUM]at h;obtain⟨v,M⟩:=zRQ i.2 h;refine⟨v,λs' o=>?_⟩;unfold zv;rw[J];simp only[zUM];exact M _ _ _
      have aa:∃v,∀s' o,zv P L ds KP a o e s'↔o (e.putO a.dst v) s':=
       zQc i.1 (kR H2 λv s q=>I s _ q)
      obtain⟨v,M⟩:=aa;refine(M _ _).2 (l v st (kR H2 λu s q=>(M _ _).1 q))
     .obtain⟨vi,k1,k2⟩:=zT1 i.1 F;have q:=zG5 (st:=st) i.2 rfl (zAq k D E C k1);refine qH (zAr q) ?_;rintro e' s ⟨⟨v,rfl⟩,_,rfl,z⟩;exact l v s (k2 _ z)
     .obtain⟨vi,k1,k2⟩:=zRr i F;refine qH (zKE i (zAq k D E C k1)) ?_;rintro e' s ⟨⟨v,rfl⟩,Z,z⟩;exact l v s (k2 s _ Z z)
def AnyA(P:di)(L:Pol)(ds:db (da Nat))(KP:db dj->S->Prop)(ops:dv dr)(K:Env->S->Prop):Nat->dv dd->Env->S->Prop
 |0,a,e,st=>Region.ready .any ops a=[]/\K e st
 |n+1,a,e,st=>(Region.ready .any ops a=[]->K e st)/\∀i∈Region.ready .any ops a,∀o,ops[i]?=some o->zv P L ds KP o (AnyA P L ds KP ops K n (a.setIfInBounds i true)) e st
def zJk{K:Env->S->Prop}(c:Resp K):∀n a,Resp (AnyA P L ds KP ops K n a)
 |0,a=>λe e' s h b=>⟨b.1,c _ _ _ h b.2⟩
 |n+1,a=>λe e' s h b=>⟨λf=>c _ _ _ h (b.1 f),λi hi o j=>zN7 (zJk c n _) _ _ _ h (b.2 i hi o j)⟩
def left(ops:dv dr)(a:dv dd):db Nat:=(List.range ops.size).filter λk=>!a.getD k true
def zB7{ops:dv dr}{a:dv dd}{j:Nat}(h:j∈left ops a):(left ops (a.setIfInBounds j true)).length<(left ops a).length:=by
 unfold left at *;rw[zWL]at h;have e:((List.range ops.size).filter λk=>!(a.setIfInBounds j true).getD k true)=((List.range ops.size).filter λk=>!a.getD k true).filter λk=>k != j:=by
  rw[List.filter_filter];refine List.filter_congr λk _=>?_;by_cases b:j=k
  .subst b;have c:j<a.size:=by
    rcases zUx j a.size with f|f
    .exact f
    .simp[zVW f]at h
   simp[c]
  .rw[getD_set_ne true b];simp[zU9 b]
 rw[e];exact List.length_filter_lt_length_iff_exists.2 ⟨j,zWL.2 h,dQ⟩
def jP{ops:dv dr}{a:dv dd}{j:Nat}(h:j∈Region.ready .any ops a):j∈left ops a:=by
 obtain⟨b,o,c,_⟩:=mem_ready.1 h;unfold left;rw[zWL];exact⟨zVt.2 (zUH.1 c).1,by rw[b];rfl⟩
def bef(ops:dv dr):Nat->Nat->Nat->dd
 |0,_,_=>false
 |n+1,i,j=>match ops[j]? with
  |some o=>o.after.any λa=>Region.binds .any a&&(a.on==i||bef ops n i a.on)
  |none=>false
def PC(ops:dv dr)(a:dv dd):Prop:=∀k b,ops[k]?=some b->a.getD k false=true->∀c∈b.after,Region.binds .any c=true->a.getD c.on false=true
def zJ4{a:dv dd}{j:Nat}(h:j<a.size)(d:dd):(a.setIfInBounds j true).getD j d=true:=by simp[h]
def zKq{a:dv dd}{j:Nat}(h:a.getD j true=false):j<a.size:=by
 rcases zUx j a.size with b|b
 .exact b
 .simp[zVW b]at h
def zJV{a:dv dd}{j k:Nat}(h:a.getD k false=true):(a.setIfInBounds j true).getD k false=true:=by
 by_cases c:j=k
 .subst c;refine zJ4 ?_ _;rcases zUx j a.size with b|b
  .exact b
  .simp[zVW b]at h
 .rw[getD_set_ne false c];exact h
def zJw{a:dv dd}{j:Nat}{f:dr}(k:j∈Region.ready .any ops a)(l:ops[j]?=some f):∀i∈f.after,Region.binds .any i=true->a.getD i.on false=true:=by
 obtain⟨_,m,b,c⟩:=mem_ready.1 k;rw[l]at b;injection b with h
 subst h;exact c
def zMG{a:dv dd}{j:Nat}(n:j∈Region.ready .any ops a)(h:PC ops a):PC ops (a.setIfInBounds j true):=by
 intro k o b c f i l;by_cases m:j=k
 .subst m;exact zJV (zJw n b f i l)
 .rw[getD_set_ne false m]at c;exact zJV (h k o b c f i l)
def zH1{a:dv dd}(h:PC ops a){i:Nat}(hi:a.getD i true=false):∀(n j:Nat),a.getD j false=true->bef ops n i j=false
 |0,_,_=>rfl
 |n+1,j,l=>by
  unfold bef;cases m:ops[j]? with
  |none=>rfl
  |some o=>
   simp only;rw[Bool.eq_false_iff];intro b;obtain⟨k,p,b⟩:=Array.any_eq_true'.1 b;simp only[zUE,zVv,zWN]at b;have c:=h j o m l k p b.1;rcases b.2 with f|f
   .rw[f]at c;have:=zKq hi;simp[this]at hi c;rw[hi]at c;cases c
   .rw[zH1 h hi n k.on c]at f;cases f
def zPl{a:dv dd}(h:PC ops a){i j:Nat}(hi:a.getD i true=false)(l:j∈Region.ready .any ops a)(n:Nat):bef ops n i j=false:=by
 cases n with
 |zero=>rfl
 |succ n=>
  unfold bef;cases m:ops[j]? with
  |none=>rfl
  |some p=>
   simp only;rw[Bool.eq_false_iff];intro b;obtain⟨k,o,b⟩:=Array.any_eq_true'.1 b;simp only[zUE,zVv,zWN]at b;have c:=zJw l m k o b.1;rcases b.2 with f|f
   .rw[f]at c;have:=zKq hi;simp[this]at hi c;rw[hi]at c;cases c
   .rw[zH1 h hi n k.on c]at f;cases f
def zHi(M:ds=ops.toList.map (·.dst)){K:Env->S->Prop}(W:Resp K){i:Nat}{x:dr}(hi:ops[i]?=some x) :
 ∀(fuel:Nat)(a:dv dd)(e:Env)(st:S),(left ops a).length<=fuel+1 ->
  (∀j z,ops[j]?=some z->j≠i->a.getD j true=false->(∀m∈z.after,Region.binds .any m=true->m.on≠i)->bef ops ops.size i j=false->x.apart ops z=true/\zBX L x z=true)->PC ops a ->
  i∈Region.ready .any ops a ->
  zv P L ds KP x (AnyA P L ds KP ops K fuel (a.setIfInBounds i true)) e st->AnyA P L ds KP ops K (fuel+1) a e st:=by
 intro fuel
 induction fuel with
 |zero=>
  intro a e st n _ _ p H;refine⟨λh=>(by rw[h]at p;cases p),λj y o I=>?_⟩;by_cases b:j=i
  .subst b;rw[hi]at I;injection I with I;subst I;exact H
  .exfalso;have t:=zB7 (jP p);have J:=jP (ready_mono y b);have N:(left ops (a.setIfInBounds i true)).length=0:=dM
   rw[zVh N]at J;cases J
 |succ fuel Y=>
  intro a e st n f B p H;refine⟨λh=>(by rw[h]at p;cases p),λj y z c=>?_⟩;by_cases b:j=i
  .subst b;rw[hi]at c;injection c with c;subst c;exact H
  .obtain⟨u,l,v,C⟩:=mem_ready.1 y;have Z:l=z:=by rw[c]at v;injection v with h;exact h.symm
   subst Z;have D:∀m∈l.after,Region.binds .any m=true->m.on≠i:=λm he hb O=>by
    have t:=C m he hb;have V:=(mem_ready.1 p).1;rw[O]at t;rcases zUx i a.size with R|R
    .simp[R]at V t;rw[V]at t;cases t
    .simp[zVW R]at t
   have E:=f j l c b u D (zPl B (mem_ready.1 p).1 y _);have t:zv P L ds KP x (zv P L ds KP l (AnyA P L ds KP ops K fuel ((a.setIfInBounds i true).setIfInBounds j true))) e st:=
    qH H λe' s q=>q.2 j (ready_mono y b) l c
   have J:=zOO M E.1 E.2 (zJk W fuel _) t;have r:∀k A,ops[k]?=some A->k≠i->(a.setIfInBounds j true).getD k true=false ->
    (∀m∈A.after,Region.binds .any m=true->m.on≠i)->bef ops ops.size i k=false->x.apart ops A=true/\zBX L x A=true:=λk A hk hki F T U=>by
    refine f k A hk hki ?_ T U;by_cases G:j=k
    .subst G;exact u
    .rw[getD_set_ne true G]at F;exact F
   refine qH J λe' s N=>Y (a.setIfInBounds j true) e' s (by have:=zB7 (jP y);omega) r (zMG y B) (ready_mono p (zU9 b)) ?_;rw[Array.setIfInBounds_comm _ _ b];exact N
def zFp(L:Pol)(l:db dr):dd:=
 (List.range l.length).all λi=>(List.range l.length).all λj=>
  match l[i]?,l[j]? with
  |some a,some b=>!decide (i<j)||zBX L a b||bef l.toArray l.length i j
  |_,_=>true
def zMm{l:db dr}(h:zFp L l=true){i j:Nat}{c f:dr}(hi:l[i]?=some c)(k:l[j]?=some f)(a:i<j)(b:bef l.toArray l.length i j=false) :
 zBX L c f=true:=by
 have m:=zUb.1 h i (zVt.2 (zVK.1 hi).1);have n:=zUb.1 m j (zVt.2 (zVK.1 k).1);simpa [hi,k,a,b]using n
def zL5(m:ds=ops.toList.map (·.dst))(A:zFp L ops.toList=true){K:Env->S->Prop}(B:Resp K):∀(l:db dr)(k:Nat)(a:dv dd)(e:Env)(st:S),(∀j,l[j]?=ops[k+j]?) ->
 (∀j,j<k->a.getD j true=true)->(left ops a).length<=l.length->PC ops a ->
 Region.lexFrom .any ops l.length k a=true->AL P L ds KP l K e st->AnyA P L ds KP ops K l.length a e st
 |[],_,_,_,_,_,_,_,_,p,h=>⟨by simpa [Region.lexFrom]using p,h⟩
 |o::l,k,a,e,st,C,c,b,n,p,h=>by
  have r:ops[k]?=some o:=by simpa using(C 0).symm
  simp only[zUD,Region.lexFrom,zUE]at p;obtain⟨⟨F,G⟩,t⟩:=p;have f:k∈Region.ready .any ops a:=by simpa using F
  refine zHi m B r l.length a e st b ?_ n f ?_
  .intro j H u v i x y;refine⟨Region.free_spec r G j H u v i x,zMm A (by simpa using r) (by simpa using u) ?_ (by simpa using y)⟩;rcases zUx k j with D|D
   .exact D
   .have:=c j dM;rw[this]at i;cases i
  .refine qH (h:zv P L ds KP o (AL P L ds KP l K) e st) λe' s q=>?_;refine zL5 m A B l (k+1) _ e' s (λj=>by have:=C (j+1);simpa [zWJ,zWm 1 j]using this) (λj u=>?_) (by have:=zB7 (jP f);simp only[zUD]at b;omega) (zMG f n) t q;by_cases E:j=k
   .subst E;rcases zUx j a.size with z|z
    .simp[z]
    .simp[zVW z]
   .rw[getD_set_ne true (zU9 E)];exact c j dM
def zEs(k:ds=ops.toList.map (·.dst))(f:∀o∈ops.toList,∀t,o.dst=some t->X.N.ok t=true){Q:dA->Env->S->Prop}(r:∀c s,KP c s->Q (.panic c) [] s){K:Env->S->Prop}{g0:Gh}{w0:de}
 (j:∀g e s a w,K e s->dB X.B g0 w0 g w->Rel X g e s a w->Goes X g0 w0 Q .normal a w) :
 ∀(n:Nat)(b:dv dd)(e:Env)(st:S)(g:Gh)(a:Act)(w:de),AnyA P L ds KP ops K n b e st->dB X.B g0 w0 g w->Rel X g e st a w->wpAny P .any ops (Goes X g0 w0 Q) n b a w
 |0,_,e,st,g,a,w,h,l,m=>⟨h.1,j g e st a w h.2 l m⟩
 |n+1,b,e,st,g,a,w,h,l,m=>⟨λu=>j g e st a w (h.1 u) l m,λi hi=>by
  obtain⟨_,o,p,_⟩:=mem_ready.1 hi;have v:o∈ops.toList:=by simpa using zWF p
  refine wpOp_mono ?_ (zGx k r p (f o v) (h.2 i hi o p) l m);rintro x w' ⟨g',e',q,k1,k2,y⟩;exact zEs k f r j n _ e' q g' x w' y k1 k2⟩
end
section
variable{P:di}{L:Pol}{X:Cx}{e:Env}{st:S}
def jE(ks:db Nat)(e:Env):Env:=ks.map λk=>(k,e.get k)
def zGK(ks:db Nat)(e:Env):e.sub (jE ks e):=Env.sub_of e _ λp a=>by
 obtain⟨k,_,rfl⟩:=zVA.1 a;rfl
def zf{Q:dA->Env->S->Prop}{id:Nat}{l:db dr}(L:Pol)(k:Nat->db Nat)(ds:db (da Nat))(i:l.map (·.dst)=ds)(m:zDO X.N l=true)
 (h:AL P L ds (λc s=>Q (.panic c) [] s) l (λe' s'=>Q .normal (jE (k id) e') s') e st):awp P X (.region id l.toArray false) Q e st:=by
 intro g a w n;generalize k id=ks at h;have o:=zOV (X:=X) (P:=P) (L:=L) (Q:=λj e' s'=>match j with|.normal=>Q .normal (jE ks e') s'|.panic c=>Q (.panic c) [] s'|_=>False) (id:=id) (l:=l) ds i m h g a w n;refine wpIn_mono o ?_;rintro j p w' ⟨g',e',f,k1,k2,b⟩;cases j with
 |normal=>exact⟨g',_,f,k1,k2.weaken (zGK ks e') (S.sub_refl _),b⟩
 |panic c=>exact⟨g',[],f,k1,⟨k2.inv,λ_=>trivial,k2.size,k2.df,k2.gl⟩,b⟩
 |exit id=>exact b.elim
 |goto l=>exact b.elim
 |ret=>exact b.elim
 |outgrown=>exact b.elim
def zZ{Q:dA->Env->S->Prop}{id:Nat}{l:db dr}(L:Pol)(z:P.follows .mixedOrders=true)(u:Nat->db Nat)(ds:db (da Nat))(i:l.map (·.dst)=ds)(v:zDO X.N l=true)(x:Region.lexB .any l.toArray=true)(A:zFp L l=true)
 (h:AL P L ds (λc s=>Q (.panic c) [] s) l (λe' s'=>Q .normal (jE (u id) e') s') e st):awp P X (.region id l.toArray true) Q e st:=by
 intro g a w m;generalize u id=ks at h;simp only[Region.lexB,zUE]at x;have p:∀o∈l.toArray.toList,∀c,o.op≠.defer c:=λo q=>zDa v (by simpa using q);refine wpIn_mono (Q:=Goes X g w (inQ Q)) (wpIn_region_draw λt=>zB8 p (zF3 λ_ _ k=>k) _ a _ ?_) zHK;simp only[Region.schedule,z,Bool.true_or,zUM];refine wpAny_sound _ t _ a _ ?_;have b:=zCB m.inv (w.drawn+1);have n:Rel X g e st a { w with drawn:=w.drawn+1 }:=⟨b.inv,λk=>(m.env k).later b.step.later,m.size,m.df,m.gl.below b.step.below b.step.later.wm⟩;have f:Resp (λe' s'=>Q .normal (jE ks e') s'):=λB y s C D=>by
  have:jE ks B=jE ks y:=by unfold jE;exact zVQ λk _=>by rw[C k]
  show Q .normal (jE ks y) s;rw[<-this];exact D
 have E:=zL5 (P:=P) (L:=L) (ops:=l.toArray) (ds:=ds) (KP:=λc s=>Q (.panic c) [] s) (by simpa using i.symm) (by simpa using A) f l 0 (Array.replicate l.toArray.size false) e st dQ (λj G=>dM)
  fE (λk H I r=>by
   exfalso;rw[zVX,zWl]at r;split at r<;>simp at r) (by simpa using x.2) h
 have:=zEs (X:=X) (Q:=inQ Q) (ops:=l.toArray) (ds:=ds) (by simpa using i.symm) (λo q=>zMF v (by simpa using q)) (λ_ _ k=>k) (g0:=g) (w0:=w)
  (λg' e' s' J w' k1 k2 F=>⟨g',_,s',k2,F.weaken (zGK ks e') (S.sub_refl _),k1⟩) l.length _ e st g a { w with drawn:=w.drawn+1 } E b.step n
 exact this
end
def zB(next:Env->S->Prop)(Q:dA->Env->S->Prop)(e:Env)(s:S):zC2 next Q .normal e s=next e s:=rfl
def zR(next:Env->S->Prop)(Q:dA->Env->S->Prop)(e:Env)(s:S)(id:Nat):zC2 next Q (.exit id) e s=Q (.exit id) e s:=rfl
def zU(next:Env->S->Prop)(Q:dA->Env->S->Prop)(e:Env)(s:S):zC2 next Q .ret e s=Q .ret e s:=rfl
def yy(next:Env->S->Prop)(Q:dA->Env->S->Prop)(e:Env)(s:S)(c:db dj):zC2 next Q (.panic c) e s=Q (.panic c) e s:=rfl
def zI(id:Nat)(Q:dA->Env->S->Prop)(e:Env)(s:S):zDo id Q .normal e s=Q .normal e s:=rfl
def zN(id a:Nat)(Q:dA->Env->S->Prop)(e:Env)(s:S):zDo id Q (.exit a) e s=if a=id then Q .normal e s else Q (.exit a) e s:=rfl
def zS(id:Nat)(Q:dA->Env->S->Prop)(e:Env)(s:S):zDo id Q .ret e s=Q .ret e s:=rfl
def zBv(id:Nat)(Q:dA->Env->S->Prop)(e:Env)(s:S)(c:db dj):zDo id Q (.panic c) e s=Q (.panic c) e s:=rfl
def zc(P:di)(rs:db du)(Q:Outc->S->Prop)(e:Env)(s:S):retE P rs Q .ret e s=yx P rs e s λxs=>Q (.ret (finV xs)) s:=rfl
def zF(e:Env)(d:Nat)(x:V)(j:Nat):(e.putO (some d) x).get j=if d=j then x else e.get j:=Env.get_put e d x j
def qM(e:Env)(x:V):e.putO none x=e:=rfl
def zH(k:Nat)(x:V)(r:Env)(j:Nat):Env.get ((k,x)::r) j=if k=j then x else Env.get r j:=rfl
def zL(j:Nat):Env.get [] j=.any:=rfl
def zQ(e:Env)(t:Nat):e.ev (.tmp t)=e.get t:=rfl
def zm(e:Env)(v:dh):e.ev (.const v)=cV v:=rfl
def yK(k:dm)(n:Int):cV (.int k n)=.at (.int k n):=rfl
def zC7(b:dd):cV (.bool b)=.at (.bool b):=rfl
def zEE(s:dk):cV (.string s)=.at (.string s):=rfl
def zDK:cV (.pointer none)=.at (.pointer none):=rfl
def zb(k:Nat)(ks:db Nat)(e:Env):jE (k::ks) e=(k,e.get k)::jE ks e:=rfl
def zW(e:Env):jE [] e=[]:=rfl
def yj(P:di)(c:BinOp)(t:dg)(k:dm)(a b:Int)(K:V->Prop):aBin P c t (.at (.int k a)) (.at (.int k b)) K=aInt c k a b K:=by simp[aBin]
def zKj(P:di)(c:BinOp)(t:dg)(a b:dk)(K:V->Prop):aBin P c t (.at (.string a)) (.at (.string b)) K=aStr c a b K:=rfl
def zB5(k:dm)(a b:Int)(K:V->Prop):aInt .add k a b K=K (.at (.int k (k.wrap (a+b)))):=rfl
def zDV(k:dm)(a b:Int)(K:V->Prop):aInt .sub k a b K=K (.at (.int k (k.wrap (a-b)))):=rfl
def j9(k:dm)(a b:Int)(K:V->Prop):aInt .eql k a b K=K (.at (.bool (a==b))):=rfl
def zRg(k:dm)(a b:Int)(K:V->Prop):aInt .neq k a b K=K (.at (.bool (a != b))):=rfl
def zLw(k:dm)(a b:Int)(K:V->Prop):aInt .lss k a b K=K (.at (.bool (decide (a<b)))):=rfl
def zQa(k:dm)(a b:Int)(K:V->Prop):aInt .geq k a b K=K (.at (.bool (decide (a >= b)))):=rfl
def zBR(a b:dd)(K:V->Prop):kY .neq a b K=K (.at (.bool (!(a==b)))):=rfl
def zET(b:dd)(K:V->Prop):aUn .not (.at (.bool b)) K=K (.at (.bool !b)):=rfl
def zQ5(P:di)(t:dg)(tg:Tag)(es:db V)(K:V->Prop):aLen P t (.lst tg es) K=((elT P t).isSome=true/\K (.at (.int .i64 (es.length:Int)))):=rfl
def zBq(P:di)(t:dg)(a:da Addr)(n c:Nat)(K:V->Prop):aLen P t (.at (.slice a n c)) K=((elT P t).isSome=true/\K (.at (.int .i64 (n:Int)))):=rfl
def zRx(P:di)(t:dg)(s:dk)(K:V->Prop):aLen P t (.at (.string s)) K=(zBj P t=true/\K (.at (.int .i64 (s.size:Int)))):=rfl
def zAv(t:dd)(a b:V)(K:V->Prop):zCT (.at (.bool t)) a b K=K (if t then a else b):=rfl
def zCH(y:V)(K:V->Prop):qn (.rptr y) K=K (.rptr y):=rfl
def zw(a:Addr)(K:V->Prop):qn (.at (.pointer (some a))) K=K (.at (.pointer (some a))):=rfl
def jl(P:di)(st:S)(t:dg)(y:V)(K:V->Prop):qW P st t (.rptr y) K=(fits P t y/\K y):=rfl
def zOe(P:di)(t:dg)(s:dk)(k:dm)(n:Int)(K:V->Prop):zAl P t (.at (.string s)) (.at (.int k n)) K=(zBj P t=true/\(0<=n/\n<(s.size:Int))/\K (.at (.int .u8 ((s.data.getD n.toNat 0).toNat:Int)))):=rfl
def zHu(P:di)(t o:Nat)(q:da (db V×Nat))(K:V->Prop):Prop:=
 match q with
 |some (cs,_)=>z7 P t cs o/\K (yA P t cs o)
 |none=>False
def z6(P:di)(st:S)(t:dg)(b o:Nat)(K:V->Prop):qW P st t (.at (.pointer (some ⟨b,o,none⟩))) K=zHu P t o (look st.box b) K:=by
 unfold qW zHu;rfl
def zr(P:di)(t o:Nat)(cs:db V)(k:Nat)(K:V->Prop):zHu P t o (some (cs,k)) K=(z7 P t cs o/\K (yA P t cs o)):=rfl
def xj(P:di)(t o:Nat){q a:da (db V×Nat)}(h:q=a)(K:V->Prop):zHu P t o q K=zHu P t o a K:=by rw[h]
def zF8(P:di)(t b o:Nat)(y:V)(st:S)(q:da (db V×Nat))(K:S->Prop):Prop:=
 match q with
 |some (cs,k)=>hasT P t=true/\y.flat.length=P.cellsOf t/\zM y.flat/\o+y.flat.length<=cs.length/\K ⟨lay st.box b (spl cs o y.flat,k),st.tg,st.nx,st.ob⟩
 |none=>False
def qU(P:di)(st:S)(t:dg)(y:V)(b o:Nat)(K:S->Prop):jf P st t (.at (.pointer (some ⟨b,o,none⟩))) y K=zF8 P t b o y st (look st.box b) K:=by
 unfold jf zF8;rfl
def xo(P:di)(t b o:Nat)(y:V)(st:S)(cs:db V)(k:Nat)(K:S->Prop):zF8 P t b o y st (some (cs,k)) K =
 (hasT P t=true/\y.flat.length=P.cellsOf t/\zM y.flat/\o+y.flat.length<=cs.length/\K ⟨lay st.box b (spl cs o y.flat,k),st.tg,st.nx,st.ob⟩):=rfl
def xO(P:di)(t b o:Nat)(y:V)(st:S){q a:da (db V×Nat)}(h:q=a)(K:S->Prop):zF8 P t b o y st q K=zF8 P t b o y st a K:=by rw[h]
def zEQ(P:di)(fs:db V)(q:da (Nat×dg))(K:V->Prop):Prop:=
 match q with
 |some (a,b)=>zM fs/\z7 P b fs a/\0<P.cellsOf b/\K (.rptr (yA P b fs a))
 |none=>False
def kQ(P:di)(t:dg)(fs:db V)(f:Nat)(K:V->Prop):xR P t (.rptr (.agg fs)) f K=zEQ P fs (fieldAt P t f) K:=by
 unfold xR zEQ;cases fieldAt P t f<;>rfl
def zAs(P:di)(fs:db V)(a:Nat)(b:dg)(K:V->Prop):zEQ P fs (some (a,b)) K=(zM fs/\z7 P b fs a/\0<P.cellsOf b/\K (.rptr (yA P b fs a))):=rfl
def yi(P:di)(fs:db V){q a:da (Nat×dg)}(h:q=a)(K:V->Prop):zEQ P fs q K=zEQ P fs a K:=by rw[h]
def zEZ(P:di)(b o:Nat)(q:da (Nat×dg))(K:V->Prop):Prop:=
 match q with
 |some (a,c)=>hasT P c=true/\0<P.cellsOf c/\K (.at (.pointer (some ⟨b,o+a,none⟩)))
 |none=>False
def zi(P:di)(t:dg)(b o:Nat)(f:Nat)(K:V->Prop):xR P t (.at (.pointer (some ⟨b,o,none⟩))) f K=zEZ P b o (fieldAt P t f) K:=by
 unfold xR zEZ;cases fieldAt P t f<;>rfl
def zq(P:di)(b o a:Nat)(c:dg)(K:V->Prop):zEZ P b o (some (a,c)) K=(hasT P c=true/\0<P.cellsOf c/\K (.at (.pointer (some ⟨b,o+a,none⟩)))):=rfl
def yo(P:di)(b o:Nat){q a:da (Nat×dg)}(h:q=a)(K:V->Prop):zEZ P b o q K=zEZ P b o a K:=by rw[h]
def zP9(P:di)(fs:db V)(q:da (Nat×dg))(K:V->Prop):Prop:=
 match q with
 |some (a,b)=>zM fs/\z7 P b fs a/\K (yA P b fs a)
 |none=>False
def xH(P:di)(fs:db V){q a:da (Nat×dg)}(h:q=a)(K:V->Prop):zP9 P fs q K=zP9 P fs a K:=by rw[h]
def zGO(P:di)(es:db V)(n:Int)(q:da dg)(K:V->Prop):Prop:=
 match q with
 |some el=>hasT P el=true/\(0<=n/\n<(es.length:Int))/\(es.getD n.toNat .any).size=P.cellsOf el/\K (.rptr (es.getD n.toNat .any))
 |none=>False
def qY(P:di)(t:dg)(tg:Tag)(es:db V)(k:dm)(n:Int)(K:V->Prop):xp P t (.lst tg es) (.at (.int k n)) K=zGO P es n (elT P t) K:=by
 unfold xp zGO;cases elT P t<;>rfl
def jM(P:di)(es:db V)(n:Int)(el:dg)(K:V->Prop):zGO P es n (some el) K =
 (hasT P el=true/\(0<=n/\n<(es.length:Int))/\(es.getD n.toNat .any).size=P.cellsOf el/\K (.rptr (es.getD n.toNat .any))):=rfl
def xF(P:di){es a:db V}(f:es=a){n b:Int}(i:n=b){q c:da dg}(h:q=c)(K:V->Prop):zGO P es n q K=zGO P a b c K:=by rw[f,i,h]
def zEj(P:di)(b o len:Nat)(n:Int)(q:da dg)(K:V->Prop):Prop:=
 match q with
 |some el=>hasT P el=true/\(0<=n/\n<(len:Int))/\K (.at (.pointer (some ⟨b,o+n.toNat*P.cellsOf el,none⟩)))
 |none=>False
def jL(P:di)(t:dg)(b o len cap:Nat)(k:dm)(n:Int)(K:V->Prop):xp P t (.at (.slice (some ⟨b,o,none⟩) len cap)) (.at (.int k n)) K=zEj P b o len n (elT P t) K:=by
 unfold xp zEj;cases elT P t<;>rfl
def ke(P:di)(b o len:Nat)(n:Int)(el:dg)(K:V->Prop):zEj P b o len n (some el) K=(hasT P el=true/\(0<=n/\n<(len:Int))/\K (.at (.pointer (some ⟨b,o+n.toNat*P.cellsOf el,none⟩)))):=rfl
def yn(P:di)(b o len:Nat){n a:Int}(f:n=a){q c:da dg}(h:q=c)(K:V->Prop):zEj P b o len n q K=zEj P b o len a c K:=by rw[f,h]
def zFy(st:S)(q:da (db V))(K:V->S->Prop):Prop:=
 match q with
 |some cs=>aNew st cs K
 |none=>False
def zJd(P:di)(st:S)(t:dg)(K:V->S->Prop):zAL P st t K=zFy st (xU P t) K:=by unfold zAL zFy;rfl
def zG1(st:S)(cs:db V)(K:V->S->Prop):zFy st (some cs) K=aNew st cs K:=rfl
def xI(st:S){q a:da (db V)}(h:q=a)(K:V->S->Prop):zFy st q K=zFy st a K:=by rw[h]
def zIi(q:da (db V))(K:V->Prop):Prop:=
 match q with
 |some cs=>K (.agg cs)
 |none=>False
def zPD(P:di)(t:dg)(ps:db (Nat×V))(q:da (db V))(K:V->Prop):Prop:=
 match q with
 |some cs=>zIi (zBh (zCA P t) cs ps) K
 |none=>False
def xM(P:di)(t:dg)(ps:db (Nat×V)){q a:da (db V)}(h:q=a)(K:V->Prop):zPD P t ps q K=zPD P t ps a K:=by rw[h]
def yl{q a:da (db V)}(h:q=a)(K:V->Prop):zIi q K=zIi a K:=by rw[h]
def sBS(P:di)(L:Pol)(a:da Nat)(st:S)(n:Nat)(parts:db (Nat×V))(q:da dg)(K:V->S->Prop):Prop:=
 match q with
 |none=>False
 |some el=>
  hasT P el=true/\(xU P el).isSome=true/\((xU P el).map List.length=some (P.cellsOf el))/\n*P.cellsOf el<=2 ^ 24/\n<=maxLen/\parts.length=n/\kC 0 parts=true/\qL (P.cellsOf el) (parts.map λp=>p.2.untag)/\(parts.all λp=>p.2.flat.all V.isOne)=true /\
  (if(a.map L.wr).getD false=true then
   zM (zp (parts.map λp=>p.2))/\∀b,look st.box b=none->K (.at (.slice (some ⟨b,0,none⟩) n n)) ⟨lay st.box b (zp (parts.map λp=>p.2),n*P.cellsOf el),st.tg,st.nx,st.ob⟩
  else if(a.map L.own).getD false=true then
   K (.lst (.own st.nx false (P.cellsOf el)) (parts.map λp=>p.2.untag)) ⟨st.box,st.nx::st.tg,st.nx+1,st.ob⟩
  else K (.lst .no (parts.map λp=>p.2.untag)) st)
def zCE(P:di)(L:Pol)(a:da Nat)(st:S)(t:dg)(n:Nat)(parts:db (Nat×V))(K:V->S->Prop):xA P L a st t n parts K=sBS P L a st n parts (elT P t) K:=by
 unfold xA sBS;cases elT P t<;>rfl
def qR(P:di)(L:Pol)(b:da Nat)(st:S)(n:Nat){parts a:db (Nat×V)}(f:parts=a){q c:da dg}(h:q=c)(K:V->S->Prop):sBS P L b st n parts q K=sBS P L b st n a c K:=by rw[h,f]
def sBSk(P:di)(st:S)(n:Nat)(parts:db (Nat×V))(el:dg)(w o:dd)(K:V->S->Prop):Prop:=
 hasT P el=true/\(xU P el).isSome=true/\((xU P el).map List.length=some (P.cellsOf el))/\n*P.cellsOf el<=2 ^ 24/\n<=maxLen/\parts.length=n/\kC 0 parts=true/\qL (P.cellsOf el) (parts.map λp=>p.2.untag)/\(parts.all λp=>p.2.flat.all V.isOne)=true /\
  (if w=true then
   zM (zp (parts.map λp=>p.2))/\∀b,look st.box b=none->K (.at (.slice (some ⟨b,0,none⟩) n n)) ⟨lay st.box b (zp (parts.map λp=>p.2),n*P.cellsOf el),st.tg,st.nx,st.ob⟩
  else if o=true then
   K (.lst (.own st.nx false (P.cellsOf el)) (parts.map λp=>p.2.untag)) ⟨st.box,st.nx::st.tg,st.nx+1,st.ob⟩
  else K (.lst .no (parts.map λp=>p.2.untag)) st)
def zHO(P:di)(L:Pol)(d:Nat)(st:S)(n:Nat)(parts:db (Nat×V))(el:dg)(K:V->S->Prop):sBS P L (some d) st n parts (some el) K=sBSk P st n parts el (L.wr d) (L.own d) K:=rfl
def qB(P:di)(st:S)(n:Nat)(parts:db (Nat×V))(el:dg){w w' o o':dd}(a:w=w')(b:o=o')(K:V->S->Prop):sBSk P st n parts el w o K=sBSk P st n parts el w' o' K:=by rw[a,b]
def zJF(P:di)(st:S)(n:Nat)(parts:db (Nat×V))(el:dg)(K:V->S->Prop):sBSk P st n parts el false false K =
 (hasT P el=true/\(xU P el).isSome=true/\((xU P el).map List.length=some (P.cellsOf el))/\n*P.cellsOf el<=2 ^ 24/\n<=maxLen/\parts.length=n/\kC 0 parts=true/\qL (P.cellsOf el) (parts.map λp=>p.2.untag)/\(parts.all λp=>p.2.flat.all V.isOne)=true /\
  K (.lst .no (parts.map λp=>p.2.untag)) st):=rfl
def all_nil{p:Nat×V->Prop}:(∀q∈([]:db (Nat×V)),p q)=True:=dQ
def zFr(sz:Nat):qL sz []=True:=by simp[qL]
def zFV(sz:Nat)(x:V)(r:db V):qL sz (x::r)=(x.size=sz/\qL sz r):=by simp[qL]
def zN8:(2:Nat) ^ 24=16777216:=dP
def zCu:1<=maxLen:=by simp[maxLen]
open Go.RowKit
def zC1(P:di)(el:dg)(n:Nat)(ys:db V):Prop:=
 hasT P el=true/\((xU P el).map List.length=some (P.cellsOf el))/\0<P.cellsOf el/\qL (P.cellsOf el) ys/\(n+ys.length)*P.bytesOf el<=140737488355328/\n+ys.length<=maxLen
def sApp(P:di)(L:Pol)(c:da Nat)(st:S)(t h:dg)(s:V)(ys:db V)(q:da dg)(K:V->S->Prop):Prop:=
 match q with
 |none=>False
 |some el=>h=t/\hasT P el=true/\((xU P el).map List.length=some (P.cellsOf el))/\0<P.cellsOf el/\qL (P.cellsOf el) ys /\
  (match s with
   |.lst .nil []=>ys.length*P.bytesOf el<=140737488355328/\ys.length<=maxLen /\
    (if(c.map L.wr).getD false=true then
     ys≠[]/\zM (zp ys)/\∀b cap,look st.box b=none->ys.length<=cap->K (.at (.slice (some ⟨b,0,none⟩) ys.length cap)) ⟨lay st.box b (zp ys,cap*P.cellsOf el),st.tg,st.nx,st.ob⟩
    else K (.lst (.own st.nx true (P.cellsOf el)) ys) ⟨st.box,st.nx::st.tg,st.nx+1,st.ob⟩)
   |.lst (.own g i sz) es=>g∈st.tg/\sz=P.cellsOf el/\(es.length+ys.length)*P.bytesOf el<=140737488355328/\es.length+ys.length<=maxLen /\
    K (.lst (.own st.nx i sz) (es++ys)) ⟨st.box,st.nx::st.tg.erase g,st.nx+1,st.ob⟩
   |.at (.slice (some ⟨b,0,none⟩) len cap)=>
    (match look st.box b with
     |some (cs,k)=>(c.map L.wr).getD false=true/\k=cap*P.cellsOf el/\len<=cap/\len*P.cellsOf el<=cs.length/\(len+ys.length)*P.bytesOf el<=140737488355328/\len+ys.length<=maxLen/\zM (zp ys) /\
      ∀f a,look (wipe st.box b) f=none->len+ys.length<=a ->
       K (.at (.slice (some ⟨f,0,none⟩) (len+ys.length) a)) ⟨lay (wipe st.box b) f (cs.take (len*P.cellsOf el)++zp ys,a*P.cellsOf el),st.tg,st.nx,st.ob⟩
     |none=>False)
   |_=>False)
def zFM(P:di)(L:Pol)(a:da Nat)(st:S)(t b:dg)(s:V)(tg:Tag)(ys:db V)(K:V->S->Prop):qz P L a st t b s (.lst tg ys) K=sApp P L a st t b s ys (elT P t) K:=by
 unfold qz sApp;cases elT P t<;>rfl
def qA(P:di)(L:Pol)(a:da Nat)(st:S)(t c:dg){s s':V}(i:s=s'){ys b:db V}(j:ys=b){q f:da dg}(h:q=f)(K:V->S->Prop):sApp P L a st t c s ys q K=sApp P L a st t c s' b f K:=by
 rw[i,j,h]
def zIC(P:di)(st:S)(ys:db V)(el:dg)(w:dd)(K:V->S->Prop):Prop:=
 zC1 P el 0 ys/\(if w=true then
  ys≠[]/\zM (zp ys)/\∀b cap,look st.box b=none->ys.length<=cap->K (.at (.slice (some ⟨b,0,none⟩) ys.length cap)) ⟨lay st.box b (zp ys,cap*P.cellsOf el),st.tg,st.nx,st.ob⟩
  else K (.lst (.own st.nx true (P.cellsOf el)) ys) ⟨st.box,st.nx::st.tg,st.nx+1,st.ob⟩)
def zRf(P:di)(L:Pol)(d:Nat)(st:S)(t:dg)(ys:db V)(el:dg)(K:V->S->Prop):sApp P L (some d) st t t (.lst .nil []) ys (some el) K=zIC P st ys el (L.wr d) K:=by
 unfold sApp zIC zC1;simp[and_assoc]
def xh(P:di)(st:S)(ys:db V)(el:dg){w w':dd}(a:w=w')(K:V->S->Prop):zIC P st ys el w K=zIC P st ys el w' K:=by rw[a]
def zSf(P:di)(st:S)(ys:db V)(el:dg)(K:V->S->Prop):zIC P st ys el true K =
 (zC1 P el 0 ys/\ys≠[]/\zM (zp ys)/\∀b cap,look st.box b=none->ys.length<=cap->K (.at (.slice (some ⟨b,0,none⟩) ys.length cap)) ⟨lay st.box b (zp ys,cap*P.cellsOf el),st.tg,st.nx,st.ob⟩):=rfl
def untag_at(v:dh):V.untag (.at v)=.at v:=rfl
def zPw(t sz:Nat)(es:db V):V.untag (.lst (.own t true sz) es)=.lst (zx es) es:=rfl
def zJx(fs:db V):V.untag (.agg fs)=.agg (fs.map xB):=rfl
def zDb(es:db V):xB (.lst (zx es) es)=.lst (zx es) es:=by
 cases es<;>rfl
def zJT(v:dh):xB (.at v)=.at v:=rfl
def zHv(es:db V):xB (.lst .nil es)=.lst .nil es:=rfl
def yV(v:dh):(V.flat (.at v)).all V.isOne=true:=rfl
def zGB(tg:Tag)(es:db V):(V.flat (.lst tg es)).all V.isOne=true:=rfl
def zJ0(x:V):(V.flat (.rptr x)).all V.isOne=true:=rfl
section
variable{P:di}{L:Pol}{ds:db (da Nat)}{KP:db dj->S->Prop}{os:db dr}{K:Env->S->Prop}{e:Env}{st:S}
variable{d:da Nat}{ty:dg}{pos:String}{af:dv Edge}
def zK5{f:dt}{xs:db dq}{a:dv dg}{as:db V}{r:V}(b:jS P f as r)(c:L.pf f=true)(i:xY P f=true)(j:(xs.map e.ev).map V.untag=as)(k:((xs.map e.ev).all λx=>x.flat.all V.isOne)=true)
 (h:AL P L ds KP os K (e.putO d r) st):AL P L ds KP (⟨d,.call ⟨.value (.func f),xs.toArray,a⟩,ty,pos,af,none⟩::os) K e st:=by
 subst j;exact zSq r c i k b h
end
def zG7(l r:db (Nat×db V×Nat))(b:Nat):look (l++r) b=(look l b).or (look r b):=by
 induction l with
 |nil=>rfl
 |cons p q a=>
  obtain⟨k,c⟩:=p;simp only[zUO,look];split
  .rfl
  .exact a
def zCg{α:Type}(sz:Nat)(f:α->V)(h:∀x,(f x).size=sz)(l:db α):qL sz (l.map f):=λx a=>by
 obtain⟨y,_,rfl⟩:=zVA.1 a;exact h y
def Env.has(e:Env):db (Nat×V)->Prop
 |[]=>True
 |(k,x)::r=>e.get k=x/\Env.has e r
section
variable{P:di}{X:Cx}{Q:dA->Env->S->Prop}{e:Env}{st:S}
end
open Go.RowKit
def zGa(P:di)(st:S)(b len cap:Nat)(ys:db V)(w:dd)(el:dg)(q:da (db V×Nat))(K:V->S->Prop):Prop:=
 match q with
 |none=>False
 |some (cs,k)=>zC1 P el len ys/\w=true/\k=cap*P.cellsOf el/\len<=cap/\len*P.cellsOf el<=cs.length/\zM (zp ys) /\
  ∀c a,look (wipe st.box b) c=none->len+ys.length<=a ->
   K (.at (.slice (some ⟨c,0,none⟩) (len+ys.length) a)) ⟨lay (wipe st.box b) c (cs.take (len*P.cellsOf el)++zp ys,a*P.cellsOf el),st.tg,st.nx,st.ob⟩
def zKs(P:di)(L:Pol)(d:Nat)(st:S)(t:dg)(b len cap:Nat)(ys:db V)(el:dg)(K:V->S->Prop) :
 sApp P L (some d) st t t (.at (.slice (some ⟨b,0,none⟩) len cap)) ys (some el) K=zGa P st b len cap ys (L.wr d) el (look st.box b) K:=by
 unfold sApp zGa zC1;simp only[zUt];cases look st.box b with
 |none=>simp
 |some p=>
  obtain⟨cs,k⟩:=p;simp only[zVm,zVl];refine propext ⟨λ⟨a,b,c,d,e,f,g,h,i,j,k,l⟩=>⟨⟨a,b,c,d,i,j⟩,e,f,g,h,k,l⟩,λ⟨⟨a,b,c,d,i,j⟩,e,f,g,h,k,l⟩=>⟨a,b,c,d,e,f,g,h,i,j,k,l⟩⟩
def xg(P:di)(st:S)(b len cap:Nat)(ys:db V){w w':dd}(c:w=w')(el:dg){q a:da (db V×Nat)}(h:q=a)(K:V->S->Prop):zGa P st b len cap ys w el q K=zGa P st b len cap ys w' el a K:=by rw[h,c]
def zHq(P:di)(st:S)(b len cap:Nat)(ys:db V)(el:dg)(cs:db V)(k:Nat)(K:V->S->Prop):zGa P st b len cap ys true el (some (cs,k)) K =
 (zC1 P el len ys/\k=cap*P.cellsOf el/\len<=cap/\len*P.cellsOf el<=cs.length/\zM (zp ys) /\
 ∀c a,look (wipe st.box b) c=none->len+ys.length<=a ->
  K (.at (.slice (some ⟨c,0,none⟩) (len+ys.length) a)) ⟨lay (wipe st.box b) c (cs.take (len*P.cellsOf el)++zp ys,a*P.cellsOf el),st.tg,st.nx,st.ob⟩):=by
 simp only[zGa,zUt]
def appOkB(P:di)(el:dg)(n m:Nat):Prop:=
 hasT P el=true/\((xU P el).map List.length=some (P.cellsOf el))/\0<P.cellsOf el/\(n+m)*P.bytesOf el<=140737488355328/\n+m<=maxLen
def sAppS(P:di)(st:S)(s:V)(m:Nat)(w:dd)(q:da dg)(h:da (db V×Nat))(K:V->S->Prop):Prop:=
 match q,h with
 |some el,some (c,_)=>hasT P el=true/\((xU P el).map List.length=some (P.cellsOf el))/\0<P.cellsOf el/\w=true/\m*P.cellsOf el<=c.length /\
  (match s with
   |.lst .nil []=>m*P.bytesOf el<=140737488355328/\m<=maxLen/\m≠0 /\
    ∀b cap,look st.box b=none->m<=cap->K (.at (.slice (some ⟨b,0,none⟩) m cap)) ⟨lay st.box b (c.take (m*P.cellsOf el),cap*P.cellsOf el),st.tg,st.nx,st.ob⟩
   |.at (.slice (some ⟨b,0,none⟩) len cap)=>
    (match look st.box b with
     |some (cs,k)=>k=cap*P.cellsOf el/\len<=cap/\len*P.cellsOf el<=cs.length/\(len+m)*P.bytesOf el<=140737488355328/\len+m<=maxLen /\
      ∀f a,look (wipe st.box b) f=none->len+m<=a ->
       K (.at (.slice (some ⟨f,0,none⟩) (len+m) a)) ⟨lay (wipe st.box b) f (cs.take (len*P.cellsOf el)++c.take (m*P.cellsOf el),a*P.cellsOf el),st.tg,st.nx,st.ob⟩
     |none=>False)
   |_=>False)
 |_,_=>False
def xm(P:di)(st:S){s s':V}(c:s=s')(m:Nat){w w':dd}(f:w=w'){q a:da dg}(h:q=a){r b:da (db V×Nat)}(i:r=b)(K:V->S->Prop):sAppS P st s m w q r K=sAppS P st s' m w' a b K:=by
 rw[c,f,h,i]
def zPv(P:di)(st:S)(b len cap m:Nat)(el:dg)(c:db V)(q:da (db V×Nat))(K:V->S->Prop):Prop:=
 match q with
 |some (cs,k)=>appOkB P el len m/\m*P.cellsOf el<=c.length/\k=cap*P.cellsOf el/\len<=cap/\len*P.cellsOf el<=cs.length /\
  ∀f a,look (wipe st.box b) f=none->len+m<=a ->
   K (.at (.slice (some ⟨f,0,none⟩) (len+m) a)) ⟨lay (wipe st.box b) f (cs.take (len*P.cellsOf el)++c.take (m*P.cellsOf el),a*P.cellsOf el),st.tg,st.nx,st.ob⟩
 |none=>False
def xK(P:di)(st:S)(b len cap m:Nat)(el:dg)(a:db V){q c:da (db V×Nat)}(h:q=c)(K:V->S->Prop):zPv P st b len cap m el a q K=zPv P st b len cap m el a c K:=by rw[h]
def zV(P:di)(rs:db du)(Q:Outc->S->Prop)(e:Env)(s:S):retER P rs Q .ret e s=jD P rs e s λxs=>∃a,s.sub a/\Q (.ret (finV xs)) a:=rfl
section
variable{P:di}{L:Pol}{ds:db (da Nat)}{KP:db dj->S->Prop}{os:db dr}{K:Env->S->Prop}{e:Env}{st:S}
variable{d:da Nat}{ty:dg}{pos:String}{af:dv Edge}
def zGp(q:da Nat)(e:Env)(b:dd)(A B:Prop):Prop:=
 match q with
 |some t=>zBB (e.get t) b A B
 |none=>False
def zBU(a:Op)(j:Nat)(b:dd):AL P L ds KP (⟨d,a,ty,pos,af,some (j,b)⟩::os) K e st =
 zGp (ds.getD j none) e b (AL P L ds KP (⟨d,a,ty,pos,af,none⟩::os) K e st) (AL P L ds KP os K (e.putO d (.tup [])) st):=by
 cases c:ds.getD j none with
 |some t=>exact zRF a j b t c
 |none=>
  show zv P L ds KP ⟨d,a,ty,pos,af,some (j,b)⟩ (AL P L ds KP os K) e st=False;unfold zv ji;simp only[c]
def yk{q a:da Nat}(h:q=a)(e:Env)(b:dd)(A B:Prop):zGp q e b A B=zGp a e b A B:=by rw[h]
def kn(t:Nat)(e:Env)(b:dd)(A B:Prop):zGp (some t) e b A B=zBB (e.get t) b A B:=rfl
end
def zEf(P:di)(b o cap:Nat)(h:Int)(q:da dg)(K:V->Prop):Prop:=
 match q with
 |some el=>hasT P el=true/\(0<=h/\h<=(cap:Int))/\K (.at (.slice (some ⟨b,o,none⟩) h.toNat cap))
 |none=>False
def zJz(P:di)(t:dg)(b o len cap:Nat)(k:dm)(h:Int)(K:V->Prop):ja P t (.at (.slice (some ⟨b,o,none⟩) len cap)) none (some (.at (.int k h))) K=zEf P b o cap h (elT P t) K:=by
 unfold ja zEf;cases elT P t with
 |none=>rfl
 |some el=>
  have a:(if(cap:Int)=0 then o else o+(0:Int).toNat*P.cellsOf el)=o:=by split<;>simp
  simp only[jz,Int.toNat_zero,Nat.sub_zero,zVd,zUt];rw[Int.toNat_zero]at a;rw[a]
def zLC(P:di)(b o cap:Nat)(h:Int)(el:dg)(K:V->Prop):zEf P b o cap h (some el) K=(hasT P el=true/\(0<=h/\h<=(cap:Int))/\K (.at (.slice (some ⟨b,o,none⟩) h.toNat cap))):=rfl
def ym(P:di)(b o cap:Nat){h a:Int}(e:h=a){q c:da dg}(f:q=c)(K:V->Prop):zEf P b o cap h q K=zEf P b o cap a c K:=by rw[e,f]
section
variable{P:di}{X:Cx}{Q:dA->Env->S->Prop}{e:Env}{st:S}{g:Gh}{w:de}
def zN9{x:V}{us:db dh}(a:zM x.flat)(h:RCs g w x.flat us):RC g w x us:=by
 cases x with
 |any=>simp[V.flat,zM,V.isOne]at a
 |tup vs=>simp[V.flat,zM,V.isOne]at a
 |agg fs=>simpa only[RC,V.flat]using h
 |_=>
  simp only[V.flat,RCs]at h;obtain⟨c,f,rfl,b,rfl⟩:=h;simpa using b
def zKl:∀{xs ys:db V}{us:db dh},RCs g w (xs++ys) us->∃a b,us=a++b/\RCs g w xs a/\RCs g w ys b
 |[],ys,us,h=>⟨[],us,rfl,by simp[RCs],h⟩
 |x::xs,ys,us,h=>by
  simp only[zUO,RCs]at h;obtain⟨a,b,rfl,f,i⟩:=h;obtain⟨c,j,rfl,k,l⟩:=zKl i;exact⟨a++c,j,dQ,by simp only[RCs];exact⟨a,c,rfl,f,k⟩,l⟩
def zGU:∀{es:db V}{us:db dh},(∀x∈es,zM x.flat)->RCs g w (zp es) us->RCs g w es us
 |[],us,_,h=>h
 |x::xs,us,a,h=>by
  obtain⟨b,c,rfl,f,i⟩:=zKl (xs:=x.flat) (ys:=zp xs) h;simp only[RCs];exact⟨b,c,rfl,zN9 (a x dQ) f,zGU (λy j=>a y (by simp[j])) i⟩
end
end Go.Al
end
namespace Go.Al
section
def zJC(L:Pol)(l:db dr):dd:=
 (List.range l.length).all λi=>(List.range l.length).all λj=>
  match l[i]?,l[j]? with
  |some a,some b=>!decide (i<j)||zBX L a b||bef l.toArray l.length i j||decide (i+2=l.length)
  |_,_=>true
def zLy{L:Pol}{l:db dr}(h:zJC L l=true){i j:Nat}{c d:dr}(hi:l[i]?=some c)(f:l[j]?=some d)(a:i<j)(b:bef l.toArray l.length i j=false)(g:i+2≠l.length) :
 zBX L c d=true:=by
 have k:=zUb.1 h i (zVt.2 (zVK.1 hi).1);have m:=zUb.1 k j (zVt.2 (zVK.1 f).1);simpa [hi,f,a,b,g]using m
section
variable{P:di}{L:Pol}{X:Cx}{ds:db (da Nat)}{KP:db dj->S->Prop}{ops:dv dr}
def zJO(B:ds=ops.toList.map (·.dst))(W:zJC L ops.toList=true){K:Env->S->Prop}(Y:Resp K)
 (C:∀o o',ops[ops.size-2]?=some o->ops[ops.size-1]?=some o'->∀e st,zv P L ds KP o (zv P L ds KP o' K) e st->zv P L ds KP o' (zv P L ds KP o K) e st) :
 ∀(l:db dr)(k:Nat)(a:dv dd)(e:Env)(st:S),(∀j,l[j]?=ops[k+j]?) ->
 (∀j,j<k->a.getD j true=true)->(left ops a).length<=l.length->k+l.length=ops.size->2<=l.length->PC ops a ->
 Region.lexFrom .any ops l.length k a=true->AL P L ds KP l K e st->AnyA P L ds KP ops K l.length a e st
 |[],_,_,_,_,_,_,_,_,J,_,_,_=>absurd J dQ
 |[_],_,_,_,_,_,_,_,_,J,_,_,_=>absurd J dQ
 |[o,o'],k,a,e,st,D,g,b,n,_,v,w,h=>by
  have x:ops[k]?=some o:=by simpa using(D 0).symm
  have A:ops[k+1]?=some o':=by simpa using(D 1).symm
  simp only[zUD,zUF]at n b w ⊢;simp only[Region.lexFrom,zUE]at w;obtain⟨⟨M,Z⟩,⟨N,aa⟩,p⟩:=w;have d:k∈Region.ready .any ops a:=by simpa using M
  have m:k+1∈Region.ready .any ops (a.setIfInBounds k true):=by simpa using N
  have c1:=zB7 (jP d);have c2:=zB7 (jP m);have only:∀i∈Region.ready .any ops a,i=k\/i=k+1:=λi hi=>by
   by_cases E:i=k
   .exact .inl E
   .by_cases t:i=k+1
    .exact .inr t
    .exfalso;have u:=jP (ready_mono (ready_mono hi E) t);have F:(left ops ((a.setIfInBounds k true).setIfInBounds (k+1) true)).length=0:=dM
     rw[zVh F]at u;cases u
  have hs:=C o o' (by rw[show ops.size-2=k from dM];exact x) (by rw[show ops.size-1=k+1 from dM];exact A) e st h;refine⟨λh=>(by rw[h]at d;cases d),λi hi oi f=>?_⟩;rcases only i hi with rfl|rfl
  .rw[x]at f;injection f with f;subst f
   refine qH (h:zv P L ds KP o (zv P L ds KP o' K) e st) λe' s q=>⟨λh=>(by rw[h]at m;cases m),λj y O c=>?_⟩;have Q:j=i+1:=by
    by_cases t:j=i+1
    .exact t
    .exfalso;have u:=jP (ready_mono y t);have F:(left ops ((a.setIfInBounds i true).setIfInBounds (i+1) true)).length=0:=dM
     rw[zVh F]at u;cases u
   subst Q;rw[A]at c;injection c with c;subst c
   exact qH q λe'' s'' R=>⟨by simpa using p,R⟩
  .rw[A]at f;injection f with f;subst f
   have r:k≠k+1:=dM
   have hk:=ready_mono d r;refine qH hs λe' s q=>⟨λh=>(by rw[h]at hk;cases hk),λj y O c=>?_⟩;have G:(a.setIfInBounds (k+1) true).setIfInBounds k true=(a.setIfInBounds k true).setIfInBounds (k+1) true:=Array.setIfInBounds_comm _ _ (zU9 r);have Q:j=k:=by
    by_cases t:j=k
    .exact t
    .exfalso;have u:=jP (ready_mono y t);have F:(left ops ((a.setIfInBounds k true).setIfInBounds (k+1) true)).length=0:=dM
     rw[G,zVh F]at u;cases u
   subst Q;rw[x]at c;injection c with c;subst c
   exact qH q λe'' s'' R=>⟨by rw[G];simpa using p,R⟩
 |o::H::I::l,k,a,e,st,D,g,b,n,_,v,w,h=>by
  have x:ops[k]?=some o:=by simpa using(D 0).symm
  rw[show(o::H::I::l).length=(H::I::l).length+1 from rfl]at w b n ⊢;simp only[Region.lexFrom,zUE]at w;obtain⟨⟨M,Z⟩,p⟩:=w;have d:k∈Region.ready .any ops a:=by simpa using M
  refine zHi B Y x (H::I::l).length a e st b ?_ v d ?_
  .intro j O y r z T U;refine⟨Region.free_spec x Z j O y r z T,zLy W (by simpa using x) (by simpa using y) ?_ (by simpa using U) (by simp only[zUD,zVS]at n ⊢;omega)⟩;rcases zUx k j with A|A
   .exact A
   .have:=g j dM;rw[this]at z;cases z
  .refine qH (h:zv P L ds KP o (AL P L ds KP (H::I::l) K) e st) λe' s q=>?_;refine zJO B W Y C (H::I::l) (k+1) _ e' s (λj=>by have:=D (j+1);simpa [zWJ,zWm 1 j]using this) (λj y=>?_) (by have:=zB7 (jP d);omega) dM dQ (zMG d v) p q;by_cases E:j=k
   .subst E;rcases zUx j a.size with V|V
    .simp[V]
    .simp[zVW V]
   .rw[getD_set_ne true (zU9 E)];exact g j dM
end
def zLj{b a:Nat}(f:b≠a){x j:db V×Nat}:∀{l:db (Nat×db V×Nat)}{c m:db V×Nat},look l b=some c->look l a=some m->lay (lay l b x) a j=lay (lay l a j) b x
 |[],_,_,h,_=>dU
 |(k,d)::r,c,m,h,n=>by
  by_cases i:k=b
  .subst i;have g:¬k=a:=f;simp[lay,g]
  .by_cases g:k=a
   .subst g;simp[lay,i]
   .simp only[look,i,g,zUK]at h n;simp only[lay,i,g,zUK];rw[zLj f h n]
def Sep(x c:dq)(e:Env):Prop:=∃b o a o',e.ev x=.at (.pointer (some ⟨b,o,none⟩))/\e.ev c=.at (.pointer (some ⟨a,o',none⟩))/\b≠a
def zOP{P:di}{L:Pol}{ds:db (da Nat)}{KP:db dj->S->Prop}{t u:dg}{x y n v:dq}{w f:dg}{g a:String}{z i:dv Edge}{K:Env->S->Prop}{e:Env}{st:S}(j:∀e s,K e s->Sep x n e)
 (h:zv P L ds KP ⟨none,.store t x y,w,g,z,none⟩ (zv P L ds KP ⟨none,.store u n v,f,a,i,none⟩ K) e st) :
 zv P L ds KP ⟨none,.store u n v,f,a,i,none⟩ (zv P L ds KP ⟨none,.store t x y,w,g,z,none⟩ K) e st:=by
 simp only[zv,ji,aop,zUM,Env.putO]at h ⊢;obtain⟨B,h⟩:=h;unfold jf at h;split at h
 case h_2=>exact h.elim
 rename_i b o q;split at h
 case h_2=>exact h.elim
 rename_i cs k A;obtain⟨C,D,E,F,G,h⟩:=h;split at h
 case h_2=>exact h.elim
 rename_i N o' l;split at h
 case h_2=>exact h.elim
 rename_i cs' O d;obtain⟨H,I,J,M,h⟩:=h;obtain⟨c,p,Q,R,k1,k2,r⟩:=j _ _ h;rw[q]at k1;injection k1 with k1;injection k1 with k1;injection k1 with k1;injection k1 with k1 _ _
 rw[l]at k2;injection k2 with k2;injection k2 with k2;injection k2 with k2;injection k2 with k2 _ _
 subst k1;subst k2;rw[zO,if_neg r]at d;refine⟨G,?_⟩;have m:=B;rw[q]at m;unfold jf;simp only[l,d,q,zO,if_neg (zU9 r),A];refine⟨H,I,J,M,m,C,D,E,F,?_⟩;rw[zLj (zU9 r) d A];exact h
section
variable{P:di}{L:Pol}{X:Cx}{e:Env}{st:S}
def zJN{Q:dA->Env->S->Prop}{id:Nat}{l:db dr}(L:Pol)(T:P.follows .mixedOrders=true)(K:Nat->db Nat)(x v:dq)(ds:db (da Nat))(p:l.map (·.dst)=ds)(M:zDO X.N l=true)(O:Region.lexB .any l.toArray=true)(U:zJC L l=true)
 (A:2<=l.length) (B:∃t y C f D E F i b m,l[l.length-2]?=some ⟨none,.store t x y,C,f,D,none⟩/\l[l.length-1]?=some ⟨none,.store E v F,i,b,m,none⟩)
 (h:AL P L ds (λc s=>Q (.panic c) [] s) l (λe' s'=>Sep x v e'/\Q .normal (jE (K id) e') s') e st):awp P X (.region id l.toArray true) Q e st:=by
 intro g a w q;generalize K id=ks at h;simp only[Region.lexB,zUE]at O;have G:∀o∈l.toArray.toList,∀c,o.op≠.defer c:=λo r=>zDa M (by simpa using r);refine wpIn_mono (Q:=Goes X g w (inQ Q)) (wpIn_region_draw λt=>zB8 G (zF3 λ_ _ k=>k) _ a _ ?_) zHK;simp only[Region.schedule,T,Bool.true_or,zUM];refine wpAny_sound _ t _ a _ ?_;have d:=zCB q.inv (w.drawn+1);have u:Rel X g e st a { w with drawn:=w.drawn+1 }:=⟨d.inv,λk=>(q.env k).later d.step.later,q.size,q.df,q.gl.below d.step.below d.step.later.wm⟩;have n:Resp (λe' s'=>Sep x v e'/\Q .normal (jE ks e') s'):=λH z s I R=>by
  have:jE ks H=jE ks z:=by unfold jE;exact zVQ λk _=>by rw[I k]
  refine⟨?_,?_⟩
  .have:=R.1;unfold Sep at this ⊢;rw[<-zLv I,<-zLv I];exact this
  .show Q .normal (jE ks z) s;rw[<-this];exact R.2
 obtain⟨V,y,C,f,D,E,F,i,b,m,W,Y⟩:=B;have Z:=zJO (P:=P) (L:=L) (ops:=l.toArray) (ds:=ds) (KP:=λc s=>Q (.panic c) [] s) (by simpa using p.symm) (by simpa using U) n
  (λo o' r ho' e st hh=>by
   have H:o=⟨none,.store V x y,C,f,D,none⟩:=by
    have:l[l.length-2]?=some o:=by simpa using r
    rw[W]at this;injection this with this;exact this.symm
   have z:o'=⟨none,.store E v F,i,b,m,none⟩:=by
    have:l[l.length-1]?=some o':=by simpa using ho'
    rw[Y]at this;injection this with this;exact this.symm
   subst H;subst z;exact zOP (λ_ _ k=>k.1) hh)
  l 0 (Array.replicate l.toArray.size false) e st dQ (λj hj=>dM)
  fE dQ A (λk ok hk J=>by
   exfalso;rw[zVX,zWl]at J;split at J<;>simp at J) (by simpa using O.2) h
 have:=zEs (X:=X) (Q:=inQ Q) (ops:=l.toArray) (ds:=ds) (by simpa using p.symm) (λo r=>zMF M (by simpa using r)) (λ_ _ k=>k) (g0:=g) (w0:=w)
  (λg' e' s' a' w' k1 k2 k3=>⟨g',_,s',k2,k3.weaken (zGK ks e') (S.sub_refl _),k1.2⟩) l.length _ e st g a { w with drawn:=w.drawn+1 } Z d.step u
 exact this
end
end
section
open Go.RowKit
def kx(l r:db (Nat×OV×db Nat))(b:Nat):zE (l++r) b=(zE l b).or (zE r b):=by
 induction l with
 |nil=>rfl
 |cons p l a=>
  obtain⟨k,c⟩:=p;show zE ((k,c)::(l++r)) b=(zE ((k,c)::l) b).or (zE r b);rw[zK,zK];split
  .rfl
  .exact a
def rbox(st0 st:S):db (Nat×db V×Nat):=st.box.filter λp=>(look st0.box p.1).isNone
def rob(st0 st:S):db (Nat×OV×db Nat):=st.ob.filter λp=>(zE st0.ob p.1).isNone
def zEH(p:Nat->dd):∀(l:db (Nat×db V×Nat))(b:Nat),look (l.filter λx=>p x.1) b=if p b=true then look l b else none
 |[],b=>by simp[look]
 |(k,c)::r,b=>by
  rw[List.filter_cons];by_cases h:p k=true
  .rw[if_pos h];show(if k=b then some c else look (r.filter _) b)=_;rw[zEH p r b];show(if k=b then some c else if p b=true then look r b else none)=if p b=true then(if k=b then some c else look r b)else none
   by_cases e:k=b
   .subst e;simp[h]
   .simp[e]
  .rw[if_neg h,zEH p r b];show _=if p b=true then(if k=b then some c else look r b)else none
   by_cases e:k=b
   .subst e;simp[h]
   .simp[e]
def kg(p:Nat->dd):∀(l:db (Nat×OV×db Nat))(b:Nat),zE (l.filter λx=>p x.1) b=if p b=true then zE l b else none
 |[],b=>by simp[zE]
 |(k,c)::r,b=>by
  rw[List.filter_cons];by_cases h:p k=true
  .rw[if_pos h];rw[zK,zK,kg p r b];by_cases e:k=b
   .subst e;simp[h]
   .simp[e]
  .rw[if_neg h,kg p r b,zK];by_cases e:k=b
   .subst e;simp[h]
   .simp[e]
def ky(st0 st:S)(b:Nat):look (rbox st0 st) b=if(look st0.box b).isNone=true then look st.box b else none:=zEH (λk=>(look st0.box k).isNone) st.box b
def zAt(st0 st:S)(b:Nat):zE (rob st0 st) b=if(zE st0.ob b).isNone=true then zE st.ob b else none:=kg (λk=>(zE st0.ob k).isNone) st.ob b
def rtg(st0 st:S):db Nat:=st.tg.filter λt=>!st0.tg.contains t
def rtg_iff{st0 st:S}{t:Nat}:t∈rtg st0 st↔t∈st.tg/\t∉st0.tg:=by simp[rtg]
def kZ(st0 st a:S):S:=⟨a.box++rbox st0 st,a.tg++rtg st0 st,max a.nx st.nx,a.ob++rob st0 st⟩
def zDL(st0 st:S)(g:Gh)(b:Nat):Prop:=
 (∃c,look (rbox st0 st) b=some c)\/(∃t∈rtg st0 st,∃d,g.tb t=some (some (b,d)))\/(∃a o fp,zE (rob st0 st) a=some (o,fp)/\b∈fp)
structure PartS(st0 st:S):Prop where
 box:∀b c,look st0.box b=some c->look st.box b=some c
 tg:∀t∈st0.tg,t∈st.tg
 nodup:st0.tg.Nodup
 ob:∀b c,zE st0.ob b=some c->zE st.ob b=some c
 nx:st0.nx=st.nx
def zFq(g:Gh)(f:Fr)(w:de):dD g w ⟨g.wm,g.tb,f⟩ w:=⟨λ_=>zUB _,λ_ _ e=>e,λ_ _ _=>rfl⟩
open Classical in
noncomputable def frR(st0 st:S)(g:Gh):Fr:=⟨λb=>g.fr b||decide (zDL st0 st g b),λt=>g.fr.t t||decide (t∈rtg st0 st)⟩
def zKp{st0 st:S}{g:Gh}{b:Nat}(h:zDL st0 st g b):frR st0 st g b=true:=by show(_||_)=true;simp[h]
def zPM{st0 st:S}{g:Gh}{b:Nat}(h:g.fr b=true):frR st0 st g b=true:=by show(_||_)=true;simp[h]
def zQL{st0 st:S}{g:Gh}{b:Nat}(h:frR st0 st g b=false):g.fr b=false/\¬zDL st0 st g b:=by
 replace h:(g.fr b||_)=false:=h;simpa using h
def zKw{st0 st:S}{g:Gh}{b:Nat}(h:frR st0 st g b=true):g.fr b=true\/zDL st0 st g b:=by
 replace h:(g.fr b||_)=true:=h;simpa using h
def zPx{st0 st:S}{g:Gh}{t:Nat}(h:t∈rtg st0 st):(frR st0 st g).t t=true:=by show(_||_)=true;simp[h]
def frT_fr{st0 st:S}{g:Gh}{t:Nat}(h:g.fr.t t=true):(frR st0 st g).t t=true:=by show(_||_)=true;simp[h]
def zQ2{st0 st:S}{g:Gh}{t:Nat}(h:(frR st0 st g).t t=true):g.fr.t t=true\/t∈rtg st0 st:=by
 replace h:(g.fr.t t||_)=true:=h;simpa using h
section
variable{P:di}{B:Nat}{g:Gh}{w:de}{st0 st:S}
def zCr(a:PartS st0 st){b:Nat}(h:look st.box b=none):look st0.box b=none:=by
 cases e:look st0.box b with
 |none=>rfl
 |some c=>rw[a.box b c e]at h;cases h
def zSa(hi:Inv B g st w){b:Nat}(h:zDL st0 st g b):b<w.heap.size/\(PartS st0 st->look st0.box b=none):=by
 rcases h with⟨c,h⟩|⟨t,i,d,h⟩|⟨j,o,fp,h,l⟩
 .rw[ky]at h;split at h
  .rename_i m;obtain⟨cs,k⟩:=c;obtain⟨_,_,_,_,arr,el,us,a,_⟩:=hi.box b cs k h;exact⟨(zUH.1 a).1,λ_=>by simpa using m⟩
  .cases h
 .obtain⟨n,p,q⟩:=d;obtain⟨_,_,_,_,a,arr,el,r,_⟩:=hi.own t (rtg_iff.1 i).1 b n p q h;exact⟨(zUH.1 r).1,λf=>zCr f a⟩
 .rw[zAt]at h;split at h
  .obtain⟨_,k2,_,s,_⟩:=(hi.ex.ob j o fp h).2.2 b l;exact⟨k2,λf=>zCr f s⟩
  .cases h
def zRX(hi:Inv B g st w)(f:PartS st0 st){b:Nat}(h:zDL st0 st g b):∀t∈st0.tg,∀d,g.tb t=some (some (b,d))->False:=λt a d i=>by
 obtain⟨k,l,m⟩:=d;rcases h with⟨c,h⟩|⟨n,j,v,h⟩|⟨p,o,fp,h,q⟩
 .rw[ky]at h;split at h
  .obtain⟨_,_,_,_,r,_⟩:=hi.own t (f.tg t a) b k l m i;rw[r]at h;cases h
  .cases h
 .obtain⟨s,u⟩:=rtg_iff.1 j;have:=hi.dist t (f.tg t a) n s b _ _ i h;subst this;exact u a
 .rw[zAt]at h;split at h
  .exact((hi.ex.ob p o fp h).2.2 b q).2.2.2.2.1 t (f.tg t a) _ i
  .cases h
def zQd(hi:Inv B g st w)(a:PartS st0 st):Inv B ⟨g.wm,g.tb,frR st0 st g⟩ st0 w:=by
 have A:=zFq g (frR st0 st g) w;refine⟨hi.base,λb cs k h=>?_,λt h=>hi.tag t (a.tg t h),λt h b cap n sz i=>?_,λt h C q=>hi.dist t (a.tg t h) C (a.tg C q),a.nodup,hi.fresh,λt h=>hi.names t (by rw[<-a.nx];exact h),⟨λb i=>?_,λb o fp h=>?_,λb o fp r o' l j m p=>hi.ex.obd b o fp r o' l j (a.ob _ _ m) (a.ob _ _ p),λt f=>?_⟩⟩
 .obtain⟨s,u,v,x,arr,el,us,y,z,H,I⟩:=hi.box b cs k (a.box b _ h);exact⟨s,u,v,x,arr,el,us,y,z,yE A _ _ H,I⟩
 .obtain⟨s,u,v,x,y,z⟩:=hi.own t (a.tg t h) b cap n sz i;exact⟨s,u,v,x,zCr a y,z⟩
 .rcases zKw i with i|i
  .obtain⟨m,p,J⟩:=hi.ex.frz b i;exact⟨m,zCr a p,λt f=>J t (a.tg t f)⟩
  .have:=zSa hi i;exact⟨this.1,this.2 a,zRX hi a i⟩
 .have q:=a.ob b _ h;obtain⟨k1,k2,K⟩:=hi.ex.ob b o fp q;refine⟨k1.local A (λ_ _=>rfl),k2,λj D=>?_⟩;obtain⟨L,M,N,E,F,O⟩:=K j D;refine⟨L,M,N,zCr a E,λt f=>F t (a.tg t f),?_⟩;cases e:frR st0 st g j with
  |false=>rfl
  |true=>
   rcases zKw e with e|e
   .rw[O]at e;cases e
   .exfalso;rcases e with⟨c,e⟩|⟨t,f,d,e⟩|⟨r,o',l,e,i⟩
    .rw[ky,E]at e;simp at e
    .exact F t (rtg_iff.1 f).1 d e
    .rw[zAt]at e;split at e
     .rename_i G;have:=hi.ex.obd b o fp r o' l j q e D i;subst this;rw[h]at G;cases G
     .cases e
 .rcases zQ2 f with f|f
  .obtain⟨m,p⟩:=hi.ex.ft t f;exact⟨λR=>m (a.tg t R),p⟩
  .obtain⟨m,p⟩:=rtg_iff.1 f;exact⟨p,hi.tag t m⟩
def zRc{g':Gh}{w':de}{r:S}(hi:Inv B g st w)(hp:PartS st0 st)(C:dB B ⟨g.wm,g.tb,frR st0 st g⟩ w g' w')(u:Inv B g' r w') :
 dB B g w ⟨g'.wm,g'.tb,g.fr⟩ w'/\Inv B ⟨g'.wm,g'.tb,g.fr⟩ (kZ st0 st r) w'/\dD g' w' ⟨g'.wm,g'.tb,g.fr⟩ w':=by
 have K:dD g' w' ⟨g'.wm,g'.tb,g.fr⟩ w':=zFq g' g.fr w';have hl:dD g w ⟨g'.wm,g'.tb,g.fr⟩ w':=⟨C.later.wm,C.later.tb,C.later.cell⟩;have v:g'.fr=frR st0 st g:=C.fr;have l:∀{b},zDL st0 st g b->w'.heap[b]?=w.heap[b]?/\g'.wm b=g.wm b/\look r.box b=none/\(∀F o fp,zE r.ob F=some (o,fp)->b∉fp)/\∀t∈r.tg,∀d,g'.tb t=some (some (b,d))->False:=λ{b} h=>by
  have q:=zKp (st0:=st0) (st:=st) h;have m:=C.fz b q;have D:=u.ex.frz b (by rw[v];exact q);refine⟨m.1,m.2,D.2.1,λF o fp W h5=>?_,D.2.2⟩;have:=((u.ex.ob F o fp W).2.2 b h5).2.2.2.2.2;rw[v,q]at this;cases this
 have J:∀{t},t∈rtg st0 st->t∈st.tg:=λh=>(rtg_iff.1 h).1;have rn:∀{t},t∈rtg st0 st->t∉r.tg:=λ{t} h=>(u.ex.ft t (by rw[v];exact zPx h)).1;have p:∀t∈rtg st0 st,g'.tb t=g.tb t:=λt f=>by
  obtain⟨d,G⟩:=hi.tag t (J f);rw[G];exact C.later.tb t d G
 have L:∀{b},look st.box b=none->look (rbox st0 st) b=none:=λ{b} h=>by rw[ky];split<;>first|exact h|rfl
 have aa:∀b,look (kZ st0 st r).box b=(look r.box b).or (look (rbox st0 st) b):=λb=>zG7 _ _ _;have ab:∀b,zE (kZ st0 st r).ob b=(zE r.ob b).or (zE (rob st0 st) b):=λb=>kx _ _ _;have z:∀{t},t∈(kZ st0 st r).tg->t∈r.tg\/t∈rtg st0 st:=λh=>zUa.1 h;have i:∀{b},look r.box b=none->look (rbox st0 st) b=none->look (kZ st0 st r).box b=none:=λ{b} q m=>by rw[aa,q,m];rfl
 have ac:∀{b c},look (rbox st0 st) b=some c->look st.box b=some c:=λ{b c} h=>by
  rw[ky]at h;split at h<;>first|exact h|cases h
 have E:∀{b c},zE (rob st0 st) b=some c->zE st.ob b=some c:=λ{b c} h=>by
  rw[zAt]at h;split at h<;>first|exact h|cases h
 have M:∀{b},(∀t∈r.tg,∀d,g'.tb t=some (some (b,d))->False)->(∀t∈rtg st0 st,∀d,g.tb t=some (some (b,d))->False)->∀t∈(kZ st0 st r).tg,∀d,g'.tb t=some (some (b,d))->False:=λ{b} k1 k2 t f d G=>by
  rcases z f with f|f
  .exact k1 t f d G
  .exact k2 t f d ((p t f).symm.trans G)
 refine⟨⟨hl,C.below,λb A=>C.fz b (zPM A),C.wmB,rfl⟩,⟨u.base,λb cs k h=>?_,λt f=>?_,λt f b cap n sz A=>?_,λt f Y s b x y q m=>?_,?_,u.fresh,λt f=>u.names t (zU0 (zWZ _ _) f),λb A=>?_,λb o fp h=>?_,λb o fp F o' H j q m D W=>?_,λt f=>?_⟩,K⟩
 .rw[aa]at h;cases e:look r.box b with
  |some c=>
   rw[e]at h;injection h with h
   subst h;obtain⟨N,O,R,T,arr,el,us,U,V,p7,p8⟩:=u.box b cs k e;exact⟨N,O,R,T,arr,el,us,U,V,yE K _ _ p7,p8⟩
  |none=>
   rw[e]at h;replace h:look (rbox st0 st) b=some (cs,k):=h;obtain⟨r1,r2,_⟩:=l (.inl ⟨_,h⟩);obtain⟨N,O,R,T,arr,el,us,U,V,p7,p8⟩:=hi.box b cs k (ac h);exact⟨N,r2.trans O,R,T,arr,el,us,r1.trans U,V,yE hl _ _ p7,p8⟩
 .rcases z f with f|f
  .exact u.tag t f
  .obtain⟨d,G⟩:=hi.tag t (J f);exact⟨d,(p t f).trans G⟩
 .rcases z f with f|f
  .obtain⟨N,O,R,T,U,V⟩:=u.own t f b cap n sz A;refine⟨N,O,R,T,i U ?_,V⟩;cases e:look (rbox st0 st) b with
   |none=>rfl
   |some c=>exact((l (.inl ⟨c,e⟩)).2.2.2.2 t f _ A).elim
  .have ad:g.tb t=some (some (b,cap,n,sz)):=(p t f).symm.trans A;obtain⟨r1,r2,r3,_⟩:=l (.inr (.inl ⟨t,f,_,ad⟩));obtain⟨N,O,R,T,U,arr,el,V,p7⟩:=hi.own t (J f) b cap n sz ad;exact⟨N,r2.trans O,R,T,i r3 (L U),arr,el,r1.trans V,p7⟩
 .rcases z f with f|f<;>rcases z s with s|s
  .exact u.dist t f Y s b x y q m
  .exact((l (.inr (.inl ⟨Y,s,_,(p Y s).symm.trans m⟩))).2.2.2.2 t f _ q).elim
  .exact((l (.inr (.inl ⟨t,f,_,(p t f).symm.trans q⟩))).2.2.2.2 Y s _ m).elim
  .exact hi.dist t (J f) Y (J s) b x y ((p t f).symm.trans q) ((p Y s).symm.trans m)
 .refine zUe.2 ⟨u.nodup,hi.nodup.filter _,λa ha b A e=>?_⟩;subst e;exact rn A ha
 .replace A:g.fr b=true:=A;obtain⟨q,m,D⟩:=hi.ex.frz b A;obtain⟨k1,k2,k3⟩:=u.ex.frz b (by rw[v];exact zPM A);exact⟨k1,i k2 (L m),M k3 λt f=>D t (J f)⟩
 .rw[ab]at h;cases e:zE r.ob b with
  |some c=>
   rw[e]at h;injection h with h
   subst h;obtain⟨k1,k2,k3⟩:=u.ex.ob b o fp e;refine⟨k1.local K (λ_ _=>rfl),k2,λj Z=>?_⟩;obtain⟨q1,q2,q3,q4,q5,q6⟩:=k3 j Z;rw[v]at q6;obtain⟨q7,q8⟩:=zQL q6;refine⟨q1,q2,q3,i q4 ?_,M q5 λt f d G=>q8 (.inr (.inl ⟨t,f,d,G⟩)),q7⟩;cases I:look (rbox st0 st) j with
   |none=>rfl
   |some c=>exact absurd (.inl ⟨c,I⟩) q8
  |none=>
   rw[e]at h;replace h:zE (rob st0 st) b=some (o,fp):=h;obtain⟨k1,k2,k3⟩:=hi.ex.ob b o fp (E h);refine⟨k1.local hl (λj Z=>(l (.inr (.inr ⟨b,o,fp,h,Z⟩))).1),k2,λj Z=>?_⟩;obtain⟨q1,q2,q3,q4,q5,q6⟩:=k3 j Z;obtain⟨r1,r2,r3,_,r5⟩:=l (.inr (.inr ⟨b,o,fp,h,Z⟩));exact⟨q1,zUo q2 C.below.size,r2.trans q3,i r3 (L q4),M r5 λt f=>q5 t (J f),q6⟩
 .rw[ab]at q m;cases e1:zE r.ob b with
  |some c=>
   rw[e1]at q;injection q with q
   subst q;cases I:zE r.ob F with
   |some c=>
    rw[I]at m;injection m with m
    subst m;exact u.ex.obd b o fp F o' H j e1 I D W
   |none=>
    rw[I]at m;exact absurd D ((l (.inr (.inr ⟨F,o',H,m,W⟩))).2.2.2.1 b o fp e1)
  |none=>
   rw[e1]at q;cases I:zE r.ob F with
   |some c=>
    rw[I]at m;injection m with m
    subst m;exact absurd W ((l (.inr (.inr ⟨b,o,fp,q,D⟩))).2.2.2.1 F o' H I)
   |none=>
    rw[I]at m;exact hi.ex.obd b o fp F o' H j (E q) (E m) D W
 .replace f:g.fr.t t=true:=f;obtain⟨q,d,m⟩:=hi.ex.ft t f;have D:=(u.ex.ft t (by rw[v];exact frT_fr f)).1;exact⟨λhm=>(z hm).elim D λhm=>q (J hm),d,C.later.tb t d m⟩
structure ApartS(st0 st s0:S):Prop where
 box:∀b c,look (rbox st0 st) b=some c->look s0.box b=none
 ob:∀b c,zE (rob st0 st) b=some c->zE s0.ob b=none
 tg:∀t∈rtg st0 st,t∉s0.tg
def zRo{g':Gh}{w':de}{f:S}(hi:Inv B g st w)(k:dB B ⟨g.wm,g.tb,frR st0 st g⟩ w g' w')(i:Inv B g' f w'):ApartS st0 st f:=by
 have a:g'.fr=frR st0 st g:=k.fr;refine⟨λb c h=>?_,λb c h=>?_,λt l=>?_⟩
 .exact(i.ex.frz b (by rw[a];exact zKp (.inl ⟨c,h⟩))).2.1
 .cases e:zE f.ob b with
  |none=>rfl
  |some x=>
   obtain⟨o,fp⟩:=x;obtain⟨o',d⟩:=c;obtain⟨_,k2,m⟩:=i.ex.ob b o fp e;have j:=(m b k2).2.2.2.2.2;have n:zE st.ob b=some (o',d):=by rw[zAt]at h;split at h<;>first|exact h|cases h
   rw[a,zKp (.inr (.inr ⟨b,o',d,h,(hi.ex.ob b o' d n).2.1⟩))]at j;cases j
 .exact(i.ex.ft t (by rw[a];exact zPx l)).1
def zFu{f:dt}{args:db V}{Q:Outc->S->Prop}(h:FnC P f args st0 Q)(i:PartS st0 st):FnC P f args st λoc s=>∃a,Q oc a/\s=kZ st0 st a/\ApartS st0 st a:=by
 intro B g w vs hi b m;refine(h B ⟨g.wm,g.tb,frR st0 st g⟩ w vs (zQd hi i) b (m.later (zFq g _ w))).mono ?_;rintro e w' ⟨g',a,j,k,d⟩;obtain⟨k1,k2,n⟩:=zRc hi i j k;have l:=zRo hi j k;refine⟨_,kZ st0 st a,k1,k2,?_⟩;cases e with
 |returned v=>
  obtain⟨r,o,p⟩:=d;exact⟨r,o.later n,a,p,rfl,l⟩
 |panicked c=>exact⟨a,d,rfl,l⟩
 |outgrown=>exact d.elim
def zD3(st0 st a:S)(b:Nat):look (kZ st0 st a).box b=(look a.box b).or (look (rbox st0 st) b):=zG7 _ _ _
def zEv(st0 st a:S)(b:Nat):zE (kZ st0 st a).ob b=(zE a.ob b).or (zE (rob st0 st) b):=kx _ _ _
end
section
variable{P:di}{X:Cx}{Q:dA->Env->S->Prop}{e:Env}{st:S}
def zAM{P:di}{b:Frame}{a:Act}{k:db Item}{cs:db Frame}{w:de}{c:dE}:step P (lone (b.atR a (.code (.scope c)::k)) cs w)=.next (lone (b.atR a (.code c::.inScope c::k)) cs w):=
 step_lone_go eU
def zJ2{P:di}{b:Frame}{a:Act}{k:db Item}{cs:db Frame}{w:de}{c:dE}:step P (lone (b.atR a (.inScope c::k)) cs w)=.next (lone (b.atR a k) cs w):=
 step_lone_go eU
def zNy{P:di}{F:dH}{n:Nat}{Q:dA->Act->de->Prop}{a:Act}{w:de}{c:dE}(h:c.wpIn F n P (Exit.noGoto Q) a w):(Code.scope c).wpIn F n P Q a w:=by
 intro b k cs p q r;have i:(lone (b.atR a (.code (.scope c)::k)) cs w).fenced P F:=fenced_calm q r rfl;obtain⟨e,m,o,j,d⟩:=h b (.inScope c::k) cs p q r;cases e with
 |normal=>exact⟨.normal,m,o,j,.head i zAM (StepsIn.trans d (.one (fenced_calm q r rfl) zJ2))⟩
 |exit f=>
  have u:exitTo f (.inScope c::k)=exitTo f k:=by simp[exitTo]
  exact⟨.exit f,m,o,j,λv s=>.head i zAM (d.1 v (by rw[u];exact s)),
   λt s=>let⟨k₁,h1,h2⟩:=d.2 t (by rw[u];exact s);⟨k₁,h1,.head i zAM h2⟩⟩
 |goto l=>exact j.elim
 |ret=>exact⟨_,m,o,j,.of_steps (.one i zAM) d⟩
 |panic x=>exact⟨_,m,o,j,.of_steps (.one i zAM) d⟩
 |outgrown=>exact⟨_,m,o,j,.of_steps (.one i zAM) d⟩
def zTe(Q:dA->Env->S->Prop):dA->Env->S->Prop
 |.goto _,_,_=>False
 |x,e,st=>Q x e st
def zPs{c:dE}(h:awp P X c (zTe Q) e st):awp P X (.scope c) Q e st:=by
 intro g a w j;refine zNy (wpIn_mono (h g a w j) ?_);rintro k m w' ⟨g',e',b,f,i,d⟩;cases k with
 |goto l=>exact d.elim
 |normal=>exact⟨g',e',b,f,i,d⟩
 |exit id=>exact⟨g',e',b,f,i,d⟩
 |ret=>exact⟨g',e',b,f,i,d⟩
 |panic c=>exact⟨g',e',b,f,i,d⟩
 |outgrown=>exact⟨g',e',b,f,i,d⟩
def zPy{l:Nat}(h:Q .normal e st):awp P X (.label l) Q e st:=λg a w b=>wpIn_label ⟨g,e,st,.refl _ _ _,b,h⟩
end
end
end Go.Al
