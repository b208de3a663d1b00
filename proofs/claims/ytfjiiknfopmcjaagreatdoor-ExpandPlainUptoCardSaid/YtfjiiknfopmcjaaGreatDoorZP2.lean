/-
  Part 2 of what the last text needs: library, runs, contracts, plain laws. No condition of its own.
-/
import Derived.Test.YtfjiiknfopmcjaaGreatDoorZP1
import Derived.WalkKit
import Derived.Laws.BytesString
import Derived.Laws.MakeOwn
import Derived.Laws.Cells
import Derived.WalkSpells
import Derived.WalkLawsBesides
import Derived.Deep.LoopGhost
import Derived.Deep.AppendSrc
import Derived.Sort.LoopGhostIn
import Derived.OrdersIn
import Derived.RangeFuncRecord
import Derived.Laws.StructEq
import Derived.Laws.Pointers
import Derived.Still
import Derived.IntWalk
set_option linter.unusedVariables false
set_option linter.unusedSimpArgs false
set_option linter.unusedSectionVars false
section
namespace Go.Al
inductive Tag where
 |nil
 |no
 |own (t:Nat) (nb:Bool) (sz:Nat)
inductive V where
 |any
 |at(v:Value)
 |agg (fs:List V)
 |tup (vs:List V)
 |lst (tg:Tag) (es:List V)
 |rptr (x:V)
 |ifx
 |clo (fn:Fn) (caps:List V)
instance:Inhabited V:=⟨.any⟩
def one:Value->Bool
 |.agg _|.tuple _=>false
 |_=>true
def V.isOne:V->Bool
 |.any|.agg _|.tup _=>false
 |_=>true
def V.isAgg:V->Bool
 |.agg _=>true
 |_=>false
def V.flat:V->List V
 |.agg fs=>fs
 |x=>[x]
mutual
def V.size:V->Nat
 |.agg fs=>jg fs
 |_=>1
def jg:List V->Nat
 |[]=>0
 |x::xs=>x.size+jg xs
end
structure Fr where
 b:Nat->Bool
 t:Nat->Bool
instance:CoeFun Fr (λ_=>Nat->Bool):=⟨Fr.b⟩
def Fr.no:Fr:=⟨λ_=>false,λ_=>false⟩
structure Gh where
 wm:Nat->Nat
 tb:Nat->Option (Option (Nat×Nat×Nat×Nat))
 fr:Fr
def Gh.bare(g:Gh):Gh:=⟨g.wm,λ_=>none,g.fr⟩
def pack:V->List Value->Value
 |.agg _,us=>.agg us.toArray
 |_,us=>us.headD undef
def At(g:Gh)(w:World)(b o:Nat)(us:List Value):Prop:=
 ∀(k:Nat) u,us[k]?=some u->w.cell? ⟨b,o+k,none⟩=some u/\o+k<g.wm b
def zIK(g:Gh)(a:Nat)(b o cap:Nat):Tag->Prop
 |.nil=>False
 |.no=>True
 |.own t c sz=>g.tb t=some (some (b,cap,a,sz))/\o=0/\(c=true->a≠0)
def zG4(g:Gh):Tag->Prop
 |.nil=>True
 |.no=>False
 |.own t a _=>g.tb t=some none/\a=true
def Unif(tg:Tag)(es:List V):Prop:=
 ∃sz,(∀x∈es,x.size=sz)/\(∀t a s,tg=.own t a s->s=sz\/es=[])
mutual
/-- The cells of an abstract value. -/
def RC(g:Gh)(w:World):V->List Value->Prop
 |.any,_=>False
 |.at v,us=>us=[v]/\one v=true
 |.agg fs,us=>RCs g w fs us
 |.tup _,_=>False
 |.lst tg es,us=>
  (es=[]/\us=[.slice none 0 0]/\zG4 g tg) \/
  (∃b o cap ds,us=[.slice (some ⟨b,o,none⟩) es.length cap]/\es.length<=cap/\zIK g es.length b o cap tg/\RCs g.bare w es ds/\Unif tg es/\At g w b o ds)
 |.rptr x,us=>∃b o ds,us=[.pointer (some ⟨b,o,none⟩)]/\RC g.bare w x ds/\At g w b o ds
 |.ifx,us=>∃t p,us=[.iface t p]
 |.clo fn caps,us=>∃ds,RCs g.bare w caps ds/\us=[.func fn #[] ds.toArray]
def RCs(g:Gh)(w:World):List V->List Value->Prop
 |[],us=>us=[]
 |x::xs,us=>∃u1 u2,us=u1++u2/\RC g w x u1/\RCs g w xs u2
end
mutual
theorem qc(g:Gh)(w:World):∀x us,RC g w x us->us.length=x.size
 |.any,us,h=>by simp[RC]at h
 |.at v,us,h=>by simp[RC]at h;simp[h.1,V.size]
 |.agg fs,us,h=>by simp only[RC]at h;simp only[V.size];exact yG g w fs us h
 |.tup _,us,h=>by simp[RC]at h
 |.lst tg es,us,h=>by
  simp only[RC]at h;rcases h with⟨_,rfl,_⟩|⟨b,o,cap,ds,rfl,_⟩<;>simp[V.size]
 |.rptr x,us,h=>by simp only[RC]at h;obtain⟨b,o,ds,rfl,_⟩:=h;simp[V.size]
 |.ifx,us,h=>by simp only[RC]at h;obtain⟨t,p,rfl⟩:=h;simp[V.size]
 |.clo fn caps,us,h=>by simp only[RC]at h;obtain⟨ds,_,rfl⟩:=h;simp[V.size]
theorem yG(g:Gh)(w:World):∀xs us,RCs g w xs us->us.length=jg xs
 |[],us,h=>by simp only[RCs]at h;simp[h,jg]
 |x::xs,us,h=>by
  simp only[RCs]at h;obtain⟨u1,u2,rfl,h1,h2⟩:=h;have e1:=qc g w x u1 h1;have e2:=yG g w xs u2 h2;simp[jg,e1,e2]
end
structure Later(g:Gh)(w:World)(g':Gh)(w':World):Prop where
 wm:∀b,g.wm b<=g'.wm b
 tb:∀t x,g.tb t=some x->g'.tb t=some x
 cell:∀b o,o<g.wm b->w'.cell? ⟨b,o,none⟩=w.cell? ⟨b,o,none⟩
theorem Later.refl(g:Gh)(w:World):Later g w g w:=⟨λ_=>zV7 _,λ_ _ h=>h,λ_ _ _=>rfl⟩
theorem Later.trans{g a c:Gh}{w w1 d:World}(h:Later g w a w1)(h':Later a w1 c d):Later g w c d:=
 ⟨λb=>zWv (h.wm b) (h'.wm b),λt x e=>h'.tb t x (h.tb t x e),
  λb o f=>(h'.cell b o (zWN f (h.wm b))).trans (h.cell b o f)⟩
theorem Later.bare{g g':Gh}{w w':World}(l:Later g w g' w'):Later g.bare w g'.bare w':=⟨l.wm,(λ_ _ h=>(by cases h)),l.cell⟩
theorem At.later{g g':Gh}{w w':World}(l:Later g w g' w'){b o:Nat}{us:List Value}(h:At g w b o us):At g' w' b o us:=
 λk u a=>let⟨h1,h2⟩:=h k u a;⟨(l.cell b _ h2).trans h1,zWN h2 (l.wm b)⟩
mutual
theorem zFN{g g':Gh}{w w':World}(l:Later g w g' w'):∀x us,RC g w x us->RC g' w' x us
 |.any,us,h=>by simp[RC]at h
 |.at v,us,h=>by simpa [RC]using h
 |.agg fs,us,h=>by simp only[RC]at h ⊢;exact zq l fs us h
 |.tup _,us,h=>by simp[RC]at h
 |.lst tg es,us,h=>by
  simp only[RC]at h ⊢;rcases h with⟨he,hu,hn⟩|⟨b,o,cap,ds,hu,hc,ht,hr,hf,ha⟩
  .refine .inl ⟨he,hu,?_⟩;cases tg with
   |nil=>exact hn
   |no=>exact hn
   |own t nb s=>exact⟨l.tb _ _ hn.1,hn.2⟩
  .refine .inr ⟨b,o,cap,ds,hu,hc,?_,zq l.bare es ds hr,hf,ha.later l⟩;cases tg with
   |nil=>exact ht
   |no=>exact ht
   |own t nb s=>exact⟨l.tb _ _ ht.1,ht.2⟩
 |.rptr x,us,h=>by
  simp only[RC]at h ⊢;obtain⟨b,o,ds,hu,hr,ha⟩:=h;exact⟨b,o,ds,hu,zFN l.bare x ds hr,ha.later l⟩
 |.ifx,us,h=>by simp only[RC]at h ⊢;exact h
 |.clo fn caps,us,h=>by
  simp only[RC]at h ⊢;obtain⟨ds,hr,hu⟩:=h;exact⟨ds,zq l.bare caps ds hr,hu⟩
theorem zq{g g':Gh}{w w':World}(l:Later g w g' w'):∀xs us,RCs g w xs us->RCs g' w' xs us
 |[],us,h=>by simpa [RCs]using h
 |x::xs,us,h=>by
  simp only[RCs]at h ⊢;obtain⟨u1,u2,rfl,h1,h2⟩:=h;exact⟨u1,u2,rfl,zFN l x u1 h1,zq l xs u2 h2⟩
end
mutual
/-- What holds without names holds with them. -/
theorem zFB(g:Gh)(w:World):∀x us,RC g.bare w x us->RC g w x us
 |.any,us,h=>by simp[RC]at h
 |.at v,us,h=>by simpa [RC]using h
 |.agg fs,us,h=>by simp only[RC]at h ⊢;exact kw g w fs us h
 |.tup _,us,h=>by simp[RC]at h
 |.lst tg es,us,h=>by
  simp only[RC]at h ⊢;rcases h with⟨he,hu,hn⟩|⟨b,o,cap,ds,hu,hc,ht,hr,hf,ha⟩
  .refine .inl ⟨he,hu,?_⟩;cases tg with
   |nil=>exact hn
   |no=>exact hn
   |own t nb s=>cases hn.1
  .refine .inr ⟨b,o,cap,ds,hu,hc,?_,hr,hf,ha⟩;cases tg with
   |nil=>exact ht
   |no=>exact ht
   |own t nb s=>cases ht.1
 |.rptr x,us,h=>by simp only[RC]at h ⊢;exact h
 |.ifx,us,h=>by simp only[RC]at h ⊢;exact h
 |.clo fn caps,us,h=>by simp only[RC]at h ⊢;exact h
theorem kw(g:Gh)(w:World):∀xs us,RCs g.bare w xs us->RCs g w xs us
 |[],us,h=>by simpa [RCs]using h
 |x::xs,us,h=>by
  simp only[RCs]at h ⊢;obtain⟨u1,u2,rfl,h1,h2⟩:=h;exact⟨u1,u2,rfl,zFB g w x u1 h1,kw g w xs u2 h2⟩
end
def RV1(g:Gh)(w:World)(x:V)(u:Value):Prop:=∃us,RC g w x us/\u=pack x us
inductive RVs(g:Gh)(w:World):List V->List Value->Prop where
 |nil:RVs g w [] []
 |cons {x u xs us} (h:RV1 g w x u) (hs:RVs g w xs us):RVs g w (x::xs) (u::us)
def RV(g:Gh)(w:World):V->Value->Prop
 |.any,_=>True
 |.tup vs,u=>∃us,RVs g w vs us/\u=.tuple us.toArray
 |x,u=>RV1 g w x u
theorem RV1.later{g g':Gh}{w w':World}(l:Later g w g' w'){x:V}{u:Value}(h:RV1 g w x u):RV1 g' w' x u:=
 let⟨us,h1,h2⟩:=h;⟨us,zFN l x us h1,h2⟩
theorem RVs.later{g g':Gh}{w w':World}(l:Later g w g' w'){xs:List V}{us:List Value}(h:RVs g w xs us):RVs g' w' xs us:=by
 induction h with
 |nil=>exact .nil
 |cons h _ a=>exact .cons (h.later l) a
theorem RV.later{g g':Gh}{w w':World}(l:Later g w g' w'){x:V}{u:Value}(h:RV g w x u):RV g' w' x u:=by
 cases x with
 |any=>trivial
 |tup vs=>obtain⟨us,a,b⟩:=h;exact⟨us,a.later l,b⟩
 |_=>exact RV1.later l h
theorem RV.of_RV1{g:Gh}{w:World}{x:V}{u:Value}(h:RV1 g w x u):RV g w x u:=by
 cases x with
 |any=>trivial
 |tup vs=>obtain⟨us,a,_⟩:=h;simp[RC]at a
 |_=>exact h
theorem RVs.get{g:Gh}{w:World}{xs:List V}{us:List Value}(h:RVs g w xs us):∀(i:Nat) x,xs[i]?=some x->∃u,us[i]?=some u/\RV1 g w x u:=by
 induction h with
 |nil=>intro i x a;simp at a
 |cons h _ b=>
  intro i x a;cases i with
  |zero=>simp at a;subst a;exact⟨_,by simp,h⟩
  |succ i=>simpa using b i x (by simpa using a)
theorem RVs.length{g:Gh}{w:World}{xs:List V}{us:List Value}(h:RVs g w xs us):us.length=xs.length:=by
 induction h with
 |nil=>rfl
 |cons _ _ a=>simp[a]
open Go.RowKit
theorem Hide.mk{p:Prop}(h:p):Hid p:=h
abbrev Env:=List (Nat×V)
def Env.get:Env->Nat->V
 |[],_=>.any
 |(k,x)::r,j=>if k=j then x else Env.get r j
def Env.put:Env->Nat->V->Env
 |[],j,y=>[(j,y)]
 |(k,x)::r,j,y=>if k=j then(k,y)::r else(k,x)::Env.put r j y
def Env.putO(e:Env):Option Nat->V->Env
 |some d,x=>e.put d x
 |none,_=>e
theorem Env.get_put(e:Env)(d:Nat)(x:V)(j:Nat):(e.put d x).get j=if d=j then x else e.get j:=by
 induction e with
 |nil=>simp[Env.put,Env.get]
 |cons p r b=>
  obtain⟨k,y⟩:=p;unfold Env.put;by_cases h:k=d
  .subst h;rw[if_pos rfl];unfold Env.get;by_cases a:k=j
   .rw[if_pos a,if_pos a]
   .rw[if_neg a,if_neg a,if_neg a]
  .rw[if_neg h];unfold Env.get;by_cases a:k=j
   .rw[if_pos a,if_pos a,if_neg (λe=>h (a.trans e.symm))]
   .rw[if_neg a,if_neg a];exact b
def yL(es:List V):Tag:=if es.isEmpty then .nil else .no
def cV1:Value->V
 |.slice none 0 0=>.lst .nil []
 |.agg _=>.any
 |.tuple _=>.any
 |v=>.at v
def cV:Value->V
 |.agg cs=>if cs.toList.all one then .agg (cs.toList.map cV1)else .any
 |v=>cV1 v
theorem zLk(g:Gh)(w:World)(v:Value)(h:one v=true):RC g w (cV1 v) [v]:=by
 unfold cV1;split
 .simp[RC,zG4]
 .simp[one]at h
 .simp[one]at h
 .simp[RC,h]
theorem zEi(g:Gh)(w:World):∀(vs:List Value),vs.all one=true->RCs g w (vs.map cV1) vs
 |[],_=>by simp[RCs]
 |v::r,h=>by
  simp only[zWK,zV5]at h;simp only[zV6,RCs];exact⟨[v],r,rfl,zLk g w v h.1,zEi g w r h.2⟩
theorem RV_cV(g:Gh)(w:World)(v:Value):RV g w (cV v) v:=by
 unfold cV;split
 .rename_i cs;split
  .rename_i h;exact RV.of_RV1 ⟨cs.toList,by simpa [RC]using zEi g w cs.toList h,by simp[pack]⟩
  .trivial
 .cases h:one v with
  |false=>
   cases v<;>simp[one]at h<;>simp[cV1,RV]
  |true=>
   refine RV.of_RV1 ⟨[v],zLk g w v h,?_⟩;unfold cV1;split<;>simp_all [pack,one]
def zGu:List (Nat×List Value)->Nat->Option (List Value)
 |[],_=>none
 |(k,us)::r,n=>if k=n then some us else zGu r n
theorem zKM:∀{l:List (Nat×List Value)}{n:Nat}{us:List Value},zGu l n=some us->(n,us)∈l
 |(k,u)::r,n,us,h=>by
  unfold zGu at h;split at h
  .rename_i e;injection h with h;subst e;subst h;exact zWr ..
  .exact zWU _ (zKM h)
def zIQ(n:Nat):V:=match zGu globA n with|some us=>.rptr (.agg (us.map cV1))|none=>.at (.pointer (some ⟨n,0,none⟩))
set_option maxRecDepth 100000 in
theorem zQF:∀p∈globA,p.2.all one=true:=by decide
def Env.ev(e:Env):Operand->V
 |.tmp t=>e.get t
 |.const v=>cV v
 |.global g=>zIQ g
 |.func f=>.clo (.func f) []
def look:List (Nat×List V×Nat)->Nat->Option (List V×Nat)
 |[],_=>none
 |(k,c)::r,b=>if k=b then some c else look r b
def wipe:List (Nat×List V×Nat)->Nat->List (Nat×List V×Nat)
 |[],_=>[]
 |(k,c)::r,b=>if k=b then wipe r b else(k,c)::wipe r b
def lay:List (Nat×List V×Nat)->Nat->List V×Nat->List (Nat×List V×Nat)
 |[],b,x=>[(b,x)]
 |(k,c)::r,b,x=>if k=b then(k,x)::r else(k,c)::lay r b x
theorem zR(l:List (Nat×List V×Nat))(b:Nat)(x:List V×Nat)(j:Nat):look (lay l b x) j=if b=j then some x else look l j:=by
 induction l with
 |nil=>simp[lay,look]
 |cons p r c=>
  obtain⟨k,y⟩:=p;unfold lay;by_cases h:k=b
  .subst h;rw[if_pos rfl];unfold look;by_cases a:k=j
   .rw[if_pos a,if_pos a]
   .rw[if_neg a,if_neg a,if_neg a]
  .rw[if_neg h];unfold look;by_cases a:k=j
   .rw[if_pos a,if_pos a,if_neg (λe=>h (a.trans e.symm))]
   .rw[if_neg a,if_neg a];exact c
theorem xA(l:List (Nat×List V×Nat))(b j:Nat):look (wipe l b) j=if b=j then none else look l j:=by
 induction l with
 |nil=>simp[wipe,look]
 |cons p r c=>
  obtain⟨k,y⟩:=p;unfold wipe;by_cases h:k=b
  .subst h;rw[if_pos rfl,c];by_cases a:k=j
   .rw[if_pos a,if_pos a]
   .rw[if_neg a,if_neg a];show look r j=if k=j then some y else look r j
    rw[if_neg a]
  .rw[if_neg h];show(if k=j then some y else look (wipe r b) j)=if b=j then none else(if k=j then some y else look r j)
   rw[c];by_cases a:k=j
   .rw[if_pos a,if_neg (λe=>h (a.trans e.symm)),if_pos a]
   .rw[if_neg a,if_neg a]
end Go.Al
end
namespace Go.Al
section
open Go.RowKit
abbrev MC:=List (ByteArray×V)
def MapR(g:Gh)(w:World):MC->List MapEntry->Prop
 |[],es=>es=[]
 |(k,v)::r,es=>∃e a,es=e::a/\e.key=.string k/\RV1 g.bare w v e.val/\MapR g w r a
theorem MapR.later{g g':Gh}{w w':World}(l:Later g w g' w'):∀{o:MC}{es:List MapEntry},MapR g w o es->MapR g' w' o es
 |[],_,h=>h
 |(k,v)::r,es,h=>by
  obtain⟨e,a,b,c,d,f⟩:=h;exact⟨e,a,b,c,d.later l.bare,MapR.later l f⟩
inductive OV where
 |mp (c:MC)
 |sc (xs:List MC) (cap:Nat)
 |lv (xs:List (MC×MC))
 |l1 (x:MC×MC)
def MMem(g:Gh)(w:World)(b:Nat)(c:MC):Prop:=∃arr a,w.heap[b]?=some (.map arr a)/\MapR g w c arr.toList
def MMems(g:Gh)(w:World):List Nat->List MC->Prop
 |[],xs=>xs=[]
 |b::a,xs=>∃c cs,xs=c::cs/\MMem g w b c/\MMems g w a cs
def LMem(g:Gh)(w:World):List (MC×MC)->Option Nat->List Nat->Prop
 |[],o,c=>o=none/\c=[]
 |x::r,o,c=>∃b d e nx el a,o=some b/\c=b::d::e::a/\w.heap[b]?=some (.cells #[.map (some d),.map (some e),.pointer (nx.map λj=>⟨j,0,none⟩)] el (0,0))/\MMem g w d x.1/\MMem g w e x.2/\LMem g w r nx a
def OMem(g:Gh)(w:World)(b:Nat):OV->List Nat->Prop
 |.lv xs,a=>xs≠[]/\a.Nodup/\LMem g w xs (some b) a
 |.l1 x,a=>∃(e f:Nat)(nx:Option Nat)(el:TypeId),a=[b,e,f]/\a.Nodup/\w.heap[b]?=some (.cells #[.map (some e),.map (some f),.pointer (nx.map λj=>⟨j,0,none⟩)] el (0,0))/\MMem g w e x.1/\MMem g w f x.2
 |.mp c,a=>a=[b]/\MMem g w b c
 |.sc xs cap,a=>∃d arr el,a=b::d/\a.Nodup/\w.heap[b]?=some (.cells arr el (0,0))/\arr.size=cap/\d.length<=cap/\arr.toList.take d.length=d.map (λj=>Value.map (some j))/\MMems g w d xs
theorem MMem.local{g g':Gh}{w w':World}{b:Nat}{c:MC}(h:MMem g w b c)(l:Later g w g' w')(d:w'.heap[b]?=w.heap[b]?):MMem g' w' b c:=by
 obtain⟨arr,a,e,f⟩:=h;exact⟨arr,a,d.trans e,f.later l⟩
theorem MMems.local{g g':Gh}{w w':World}(l:Later g w g' w'):∀{a:List Nat}{xs:List MC},MMems g w a xs->(∀j∈a,w'.heap[j]?=w.heap[j]?)->MMems g' w' a xs
 |[],_,h,_=>h
 |b::a,xs,h,d=>by
  obtain⟨c,cs,e,f,i⟩:=h;exact⟨c,cs,e,f.local l (d b (by simp)),MMems.local l i λj k=>d j (by simp[k])⟩
theorem LMem.local{g g':Gh}{w w':World}(l:Later g w g' w'):∀{xs:List (MC×MC)}{o:Option Nat}{a:List Nat},LMem g w xs o a->(∀j∈a,w'.heap[j]?=w.heap[j]?)->LMem g' w' xs o a
 |[],_,_,h,_=>h
 |x::r,o,a,h,c=>by
  obtain⟨b,e,f,nx,el,d,i,rfl,k,m,n,p⟩:=h;exact⟨b,e,f,nx,el,d,i,rfl,(c b (by simp)).trans k,m.local l (c e (by simp)),n.local l (c f (by simp)),LMem.local l p λj q=>c j (by simp[q])⟩
theorem OMem.local{g g':Gh}{w w':World}{b:Nat}{o:OV}{f:List Nat}(h:OMem g w b o f)(l:Later g w g' w')(a:∀j∈f,w'.heap[j]?=w.heap[j]?):OMem g' w' b o f:=by
 cases o with
 |mp c=>
  obtain⟨rfl,h⟩:=h;exact⟨rfl,h.local l (a b (by simp))⟩
 |sc xs cap=>
  obtain⟨q,arr,el,rfl,i,d,e,k,m,r⟩:=h;exact⟨q,arr,el,rfl,i,(a b (by simp)).trans d,e,k,m,r.local l λj s=>a j (by simp[s])⟩
 |lv xs=>
  obtain⟨i,d,e⟩:=h;exact⟨i,d,e.local l a⟩
 |l1 x=>
  obtain⟨n,p,nx,el,rfl,d,e,k,m⟩:=h;exact⟨n,p,nx,el,rfl,d,(a b (by simp)).trans e,k.local l (a n (by simp)),m.local l (a p (by simp))⟩
theorem ba_eq{s k:ByteArray}(h:(s==k)=true):s=k:=by
 cases s with|mk a=>cases k with|mk b=>
 have c:(a==b)=true:=h;rw[eq_of_beq c]
theorem zVg(s:ByteArray):(s==s)=true:=by
 cases s with|mk a=>
 show(a==a)=true;exact zYD a
def mget:MC->ByteArray->Option V
 |[],_=>none
 |(k,v)::r,s=>if(s==k)=true then some v else mget r s
def mput:MC->ByteArray->V->MC
 |[],s,v=>[(s,v)]
 |(k,u)::r,s,v=>if(s==k)=true then(s,v)::r else(k,u)::mput r s v
theorem zDv{g:Gh}{w:World}(s:ByteArray):∀{o:MC}{es:List MapEntry}(i:Nat),MapR g w o es ->
 (mget o s=none/\Instr.findNow .string (.string s) es i=some none) \/
 (∃v u j,mget o s=some v/\RV1 g.bare w v u/\Instr.findNow .string (.string s) es i=some (some (i+j,u))/\j<es.length/\((es[j]?).map (·.key))=some (.string s) /\
  ∀y c,RV1 g.bare w y c->MapR g w (mput o s y) (es.modify j λe=>{ e with key:=.string s,val:=c }))
 |[],es,i,h=>by
  have:es=[]:=h;subst this;exact .inl ⟨rfl,rfl⟩
 |(k,v)::r,es,i,h=>by
  obtain⟨e,a,rfl,d,p,q⟩:=h;cases b:s==k with
  |true=>
   refine .inr ⟨v,e.val,0,by simp[mget,b],p,by simp[Instr.findNow,d,Instr.sameNow,b],by simp,?_,λy c f=>?_⟩
   .have:k=s:=(ba_eq b).symm;simp[d,this]
   .have z:mput ((k,v)::r) s y=(s,y)::r:=by simp[mput,b]
    rw[z];exact⟨_,a,rfl,rfl,f,q⟩
  |false=>
   have t:Instr.findNow .string (.string s) (e::a) i=Instr.findNow .string (.string s) a (i+1):=by simp[Instr.findNow,d,Instr.sameNow,b]
   have x:mget ((k,v)::r) s=mget r s:=by simp[mget,b]
   rcases zDv s (i+1) q with⟨l,m⟩|⟨v',u,j,l,m,A,D,B,n⟩
   .exact .inl ⟨x.trans l,t.trans m⟩
   .refine .inr ⟨v',u,j+1,x.trans l,m,by rw[t,A];congr 3;omega,by simp;omega,by simpa using B,λy c f=>?_⟩;have C:mput ((k,v)::r) s y=(k,v)::mput r s y:=by simp[mput,b]
    rw[C];exact⟨e,_,rfl,d,p,n y c f⟩
theorem zMc{g:Gh}{w:World}(s:ByteArray){y:V}{b:Value}(c:RV1 g.bare w y b)(born:Nat):∀{o:MC}{es:List MapEntry},MapR g w o es->mget o s=none->MapR g w (mput o s y) (es++[{ key:=.string s,val:=b,born }])
 |[],es,h,_=>by
  have:es=[]:=h;subst this;exact⟨_,[],rfl,rfl,c,rfl⟩
 |(k,v)::r,es,h,d=>by
  obtain⟨e,f,rfl,i,j,l⟩:=h;cases a:s==k with
  |true=>simp[mget,a]at d
  |false=>
   have m:mput ((k,v)::r) s y=(k,v)::mput r s y:=by simp[mput,a]
   rw[m];exact⟨e,_,rfl,i,j,zMc s c born l (by simpa [mget,a]using d)⟩
end
end Go.Al
section
namespace Go.Al
open Go.RowKit
structure S where
 box:List (Nat×List V×Nat)
 tg:List Nat
 nx:Nat
 ob:List (Nat×OV×List Nat)
def zQ:List (Nat×OV×List Nat)->Nat->Option (OV×List Nat)
 |[],_=>none
 |(k,c)::r,b=>if k=b then some c else zQ r b
structure InvX(B:Nat)(g:Gh)(st:S)(w:World):Prop where
 frz:∀b,g.fr b=true->b<w.heap.size/\look st.box b=none/\∀t∈st.tg,∀d,g.tb t=some (some (b,d))->False
 ob:∀b o fp,zQ st.ob b=some (o,fp)->OMem g w b o fp/\b∈fp/\∀j∈fp,B<=j/\j<w.heap.size/\g.wm j=0/\look st.box j=none/\(∀t∈st.tg,∀d,g.tb t=some (some (j,d))->False)/\g.fr j=false
 obd:∀b o fp b' o' fp' j,zQ st.ob b=some (o,fp)->zQ st.ob b'=some (o',fp')->j∈fp->j∈fp'->b=b'
 ft:∀t,g.fr.t t=true->t∉st.tg/\∃d,g.tb t=some d
structure Inv(B:Nat)(g:Gh)(st:S)(w:World):Prop where
 base:B<=w.heap.size
 box:∀b cs k,look st.box b=some (cs,k)->B<=b/\g.wm b=0/\cs.length<=k/\(∀c∈cs,c.isOne=true) /\
  ∃arr el us,w.heap[b]?=some (.cells arr el (0,0))/\arr.size=k/\RCs g w cs us/\arr.toList.take cs.length=us
 tag:∀t∈st.tg,∃d,g.tb t=some d
 own:∀t∈st.tg,∀b cap n sz,g.tb t=some (some (b,cap,n,sz))->B<=b/\g.wm b=n*sz/\n<=cap/\cap<=maxLen/\look st.box b=none /\
  ∃arr el,w.heap[b]?=some (.cells arr el (0,0))/\arr.size=cap*sz
 dist:∀t∈st.tg,∀t'∈st.tg,∀b x y,g.tb t=some (some (b,x))->g.tb t'=some (some (b,y))->t=t'
 nodup:st.tg.Nodup
 fresh:∀b,w.heap.size<=b->g.wm b=0
 names:∀t,st.nx<=t->g.tb t=none
 ex:InvX B g st w
structure Step(B:Nat)(g:Gh)(w:World)(g':Gh)(w':World):Prop where
 later:Later g w g' w'
 below:Below B w w'
 fz:∀b,g.fr b=true->w'.heap[b]?=w.heap[b]?/\g'.wm b=g.wm b
 wmB:∀b,b<B->g'.wm b=g.wm b
 fr:g'.fr=g.fr
theorem Step.refl(B:Nat)(g:Gh)(w:World):Step B g w g w:=⟨.refl _ _,.refl _ _,λ_ _=>⟨rfl,rfl⟩,λ_ _=>rfl,rfl⟩
theorem Step.trans{B:Nat}{g d f:Gh}{w w1 i:World}(h:Step B g w d w1)(h':Step B d w1 f i):Step B g w f i:=
 ⟨h.later.trans h'.later,h.below.trans h'.below,λb c=>⟨(h'.fz b (by rw[h.fr];exact c)).1.trans (h.fz b c).1,(h'.fz b (by rw[h.fr];exact c)).2.trans (h.fz b c).2⟩,λb c=>(h'.wmB b c).trans (h.wmB b c),h'.fr.trans h.fr⟩
structure NF where
 n:Nat
 fx:List (Nat×Value)
def NF.ok(N:NF)(d:Nat):Bool:=decide (d<N.n)&&N.fx.all λp=>!Nat.beq p.1 d
theorem NF.ok_lt{N:NF}{d:Nat}(h:N.ok d=true):d<N.n:=by
 unfold NF.ok at h;rw[zV5]at h;exact zXA h.1
theorem NF.ok_fx{N:NF}{d:Nat}(h:N.ok d=true):∀p∈N.fx,p.1≠d:=λp b e=>by
 unfold NF.ok at h;rw[zV5,zWL]at h;have:=h.2 p b;rw[e]at this;simp at this
structure Cx where
 B:Nat
 N:NF
 ro:Option Nat
 df:List Deferred
structure GlobOk(B:Nat)(wm:Nat->Nat)(w:World):Prop where
 one:∀p∈zPg,p.1<B/\∃arr el m,w.heap[p.1]?=some (.cells arr el m)/\p.2 arr.toList
 all:∀p∈globA,p.1<B/\(∃arr el m,w.heap[p.1]?=some (.cells arr el m)/\arr.toList=p.2)/\p.2.length<=wm p.1
theorem GlobOk.below{B:Nat}{f c:Nat->Nat}{w w':World}(l:Below B w w')(i:∀b,f b<=c b)(h:GlobOk B f w):GlobOk B c w':=⟨λp d=>
 let⟨h0,arr,el,m,h1,h2⟩:=h.one p d;⟨h0,arr,el,m,(l.block _ h0).trans h1,h2⟩,λp d=>
 let⟨h0,⟨arr,el,m,h1,h2⟩,h3⟩:=h.all p d;⟨h0,⟨arr,el,m,(l.block _ h0).trans h1,h2⟩,zWv h3 (i _)⟩⟩
theorem GlobOk.mono{B c:Nat}{d:Nat->Nat}{w:World}(l:B<=c)(h:GlobOk B d w):GlobOk c d w:=⟨λp b=>
 let⟨h0,h1⟩:=h.one p b;⟨zWN h0 l,h1⟩,λp b=>let⟨h0,h1⟩:=h.all p b;⟨zWN h0 l,h1⟩⟩
structure Rel(X:Cx)(g:Gh)(e:Env)(st:S)(a:Act)(w:World):Prop where
 inv:Inv X.B g st w
 env:∀k,RV g w (e.get k) (a.tmps.getD k undef)
 size:a.tmps.size=X.N.n/\∀p∈X.N.fx,a.tmps.getD p.1 undef=p.2
 df:a.defers=X.df
 gl:GlobOk X.B g.wm w
theorem Rel.ev{X:Cx}{g:Gh}{e:Env}{st:S}{a:Act}{w:World}(h:Rel X g e st a w)(x:Operand):RV g w (e.ev x) (a.eval x):=by
 cases x with
 |tmp t=>exact h.env t
 |const v=>exact RV_cV g w v
 |global n=>
  show RV g w (zIQ n) (.pointer (some ⟨n,0,none⟩));unfold zIQ;split
  .rename_i us i;have b:=zKM i;obtain⟨_,⟨arr,el,m,j,l⟩,c⟩:=h.gl.all _ b;refine RV.of_RV1 ⟨[.pointer (some ⟨n,0,none⟩)],?_,rfl⟩;simp only[RC];refine⟨n,0,us,rfl,zEi g.bare w us (zQF _ b),λk u d=>⟨?_,?_⟩⟩
   .rw[cell_of_row w n _ arr el m j,zWP,<-zW3,l];exact d
   .have:=(zW9.1 d).1;replace c:us.length<=g.wm n:=c;omega
  .exact RV.of_RV1 (x:=.at (.pointer (some ⟨n,0,none⟩))) ⟨[.pointer (some ⟨n,0,none⟩)],by simp[RC,one],rfl⟩
 |func f=>exact RV.of_RV1 (x:=.clo (.func f) []) ⟨[.func (.func f) #[] #[]],by simp[RC,RCs],rfl⟩
theorem Rel.put{X:Cx}{g g':Gh}{e:Env}{st b:S}{a:Act}{w w':World}(h:Rel X g e st a w)(l:Later g w g' w')(lb:Below X.B w w')(i:Inv X.B g' b w')
 {x:V} {u:Value} (n:RV g' w' x u) (d:Option Nat) (j:∀t,d=some t->X.N.ok t=true):Rel X g' (e.putO d x) b (a.put d u) w':=by
 refine⟨i,λk=>?_,?_,?_,h.gl.below lb l.wm⟩
 .cases d with
  |none=>exact(h.env k).later l
  |some t=>
   have q:=NF.ok_lt (j t rfl);simp only[Env.putO,Act.put,Env.get_put];by_cases c:t=k
   .subst c;have r:t<a.tmps.size:=by rw[h.size.1];exact q
    simpa [r]using n
   .have:=(h.env k).later l;simpa [c,zXY c]using this
 .cases d with
  |none=>exact h.size
  |some t=>
   refine⟨by simp[Act.put,h.size.1],λp m=>?_⟩;have f:=NF.ok_fx (j t rfl) p m;have:=h.size.2 p m;simpa [Act.put,zXY (zW8 f)]using this
 .cases d<;>simp[Act.put,h.df]
def Env.sub(e e':Env):Prop:=∀k,e'.get k=e.get k\/e'.get k=.any
theorem Env.sub_refl(e:Env):e.sub e:=λ_=>.inl rfl
theorem Env.sub_of(e:Env):∀(l:List (Nat×V)),(∀p∈l,e.get p.1=p.2)->e.sub l
 |[],_,k=>.inr rfl
 |(j,x)::r,h,k=>by
  simp only[Env.get];by_cases b:j=k
  .subst b;exact .inl (by rw[if_pos rfl];exact(h (j,x) (by simp)).symm)
  .rw[if_neg b];exact Env.sub_of e r (λp c=>h p (by simp[c])) k
structure S.sub(st st':S):Prop where
 box:∀b c,look st'.box b=some c->look st.box b=some c
 tg:∀t∈st'.tg,t∈st.tg
 nodup:st.tg.Nodup->st'.tg.Nodup
 out:∀b,look st.box b=none->look st'.box b=none
 nx:st.nx<=st'.nx
 ob:∀b x,zQ st'.ob b=some x->zQ st.ob b=some x
theorem S.sub_refl(st:S):st.sub st:=⟨λ_ _ h=>h,λ_ h=>h,λh=>h,λ_ h=>h,zV7 _,λ_ _ h=>h⟩
theorem InvX.weaken{B:Nat}{g:Gh}{st f:S}{w:World}(h:InvX B g st w)(s:st.sub f):InvX B g f w:=
 ⟨λb n=>let⟨c,d,h3⟩:=h.frz b n;⟨c,s.out b d,λt i=>h3 t (s.tg t i)⟩,
  λb o k p=>let⟨c,d,h3⟩:=h.ob b o k (s.ob b _ p);⟨c,d,λj q=>let⟨k1,k2,k3,k4,k5,k6⟩:=h3 j q;⟨k1,k2,k3,s.out j k4,λt i=>k5 t (s.tg t i),k6⟩⟩,
  λb o k m o' l j c d=>h.obd b o k m o' l j (s.ob b _ c) (s.ob m _ d),λt i=>let⟨c,d⟩:=h.ft t i;⟨λr=>c (s.tg t r),d⟩⟩
theorem InvX.step{B:Nat}{g g':Gh}{st f:S}{w w':World}(h:InvX B g st w)(l:Later g w g' w')(z:w.heap.size<=w'.heap.size)(i:g'.fr=g.fr)(q:f.ob=st.ob)
 (A:∀b o c,zQ st.ob b=some (o,c)->∀j∈c,w'.heap[j]?=w.heap[j]?/\g'.wm j=g.wm j)
 (r:∀j,look st.box j=none->(g.fr j=true\/∃b o c,zQ st.ob b=some (o,c)/\j∈c)->look f.box j=none)
 (s:∀j,(g.fr j=true\/∃b o c,zQ st.ob b=some (o,c)/\j∈c)->(∀t∈st.tg,∀d,g.tb t=some (some (j,d))->False)->∀t∈f.tg,∀d,g'.tb t=some (some (j,d))->False)
 (y:∀t∈f.tg,t∈st.tg\/g.tb t=none:=by exact λt v=>.inl v):InvX B g' f w':=by
 refine⟨λb x=>?_,λb o c n=>?_,?_,λt v=>?_⟩
 .rw[i]at x;obtain⟨u,k,m⟩:=h.frz b x;exact⟨zWN u z,r b k (.inl x),s b (.inl x) m⟩
 .rw[q]at n;obtain⟨u,k,m⟩:=h.ob b o c n;refine⟨u.local l (λj p=>(A b o c n j p).1),k,λj p=>?_⟩;obtain⟨C,D,E,F,G,H⟩:=m j p;exact⟨C,zWN D z,(A b o c n j p).2.trans E,r j F (.inr ⟨b,o,c,n,p⟩),s j (.inr ⟨b,o,c,n,p⟩) G,by rw[i];exact H⟩
 .rw[q];exact h.obd
 .rw[i]at v;obtain⟨u,d,k⟩:=h.ft t v;refine⟨λI=>?_,d,l.tb t d k⟩;rcases y t I with m|m
  .exact u m
  .rw[m]at k;cases k
theorem Inv.weaken{B:Nat}{g:Gh}{st d:S}{w:World}(h:Inv B g st w)(s:st.sub d):Inv B g d w:=
 ⟨h.base,λb cs k j=>h.box b cs k (s.box _ _ j),λt c=>h.tag t (s.tg t c),
  λt c b cap n sz l=>let⟨h1,h2,h3,h4,h5,h6⟩:=h.own t (s.tg t c) b cap n sz l;⟨h1,h2,h3,h4,s.out b h5,h6⟩,
  λt c i f=>h.dist t (s.tg t c) i (s.tg i f),s.nodup h.nodup,h.fresh,λt c=>h.names t (zWv s.nx c),h.ex.weaken s⟩
theorem Rel.weaken{X:Cx}{g:Gh}{e e':Env}{st b:S}{a:Act}{w:World}(h:Rel X g e st a w)(d:e.sub e')(f:st.sub b):Rel X g e' b a w:=
 ⟨h.inv.weaken f,λk=>by
  rcases d k with c|c
  .rw[c];exact h.env k
  .rw[c];trivial,h.size,h.df,h.gl⟩
def fen(b:Option Nat):Fence:={ fn:=λ_=>True,depth:=none,alive:=false,round:=b }
def awp(P:Program)(X:Cx)(c:Code)(Q:Exit->Env->S->Prop)(e:Env)(st:S):Prop:=
 ∀g a w,Rel X g e st a w->c.wpIn (fen X.ro) 0 P (λex a' w'=>∃g' e' b,Step X.B g w g' w'/\Rel X g' e' b a' w'/\Q ex e' b) a w
def zDm(next:Env->S->Prop)(Q:Exit->Env->S->Prop):Exit->Env->S->Prop
 |.normal,e,st=>next e st
 |x,e,st=>Q x e st
def zDG(id:Nat)(Q:Exit->Env->S->Prop):Exit->Env->S->Prop
 |.exit b,e,st=>if b=id then Q .normal e st else Q (.exit b) e st
 |x,e,st=>Q x e st
section rules
variable{P:Program}{X:Cx}{Q:Exit->Env->S->Prop}{e:Env}{st:S}
theorem zSl{c:Code}{d:Exit->Env->S->Prop}(h:awp P X c Q e st)(f:∀x e st,Q x e st->d x e st):awp P X c d e st:=
 λg a w i=>wpIn_mono (h g a w i) λ_ _ _ ⟨g',e',b,j,k,l⟩=>⟨g',e',b,j,k,f _ _ _ l⟩
theorem zCj{c:Code}{e':Env}{b:S}(d:e.sub e')(f:st.sub b)(h:awp P X c Q e' b):awp P X c Q e st:=
 λg a w i=>h g a w (i.weaken d f)
theorem zd(h:Q .normal e st):awp P X .skip Q e st:=
 λg a w b=>wpIn_skip ⟨g,e,st,.refl _ _ _,b,h⟩
theorem zh{id:Nat}(h:Q (.exit id) e st):awp P X (.exit id) Q e st:=
 λg a w b=>wpIn_exit ⟨g,e,st,.refl _ _ _,b,h⟩
theorem zo(h:Q .ret e st):awp P X .ret Q e st:=
 λg a w b=>wpIn_ret ⟨g,e,st,.refl _ _ _,b,h⟩
theorem zn{x y:Code}(h:awp P X x (zDm (awp P X y Q) Q) e st):awp P X (.seq x y) Q e st:=by
 intro g a w k;refine wpIn_seq (wpIn_mono (h g a w k) ?_);rintro ex a' w' ⟨g',e',b,d,f,i⟩;cases ex with
 |normal=>exact wpIn_mono (i g' a' w' f) λ_ _ _ ⟨m,n,j,p,q,r⟩=>⟨m,n,j,d.trans p,q,r⟩
 |exit id=>exact⟨g',e',b,d,f,i⟩
 |goto l=>exact⟨g',e',b,d,f,i⟩
 |ret=>exact⟨g',e',b,d,f,i⟩
 |panic c=>exact⟨g',e',b,d,f,i⟩
 |outgrown=>exact⟨g',e',b,d,f,i⟩
theorem zZ{id:Nat}{c:Code}(h:awp P X c (zDG id Q) e st):awp P X (.block id c) Q e st:=by
 intro g a w j;refine wpIn_block (wpIn_mono (h g a w j) ?_);rintro ex a' w' ⟨g',e',b,f,i,d⟩;cases ex with
 |exit k=>
  simp only[Exit.inBlock];simp only[zDG]at d;split
  .rename_i hid;rw[if_pos hid]at d;exact⟨g',e',b,f,i,d⟩
  .rename_i hid;rw[if_neg hid]at d;exact⟨g',e',b,f,i,d⟩
 |normal=>exact⟨g',e',b,f,i,d⟩
 |goto l=>exact⟨g',e',b,f,i,d⟩
 |ret=>exact⟨g',e',b,f,i,d⟩
 |panic c=>exact⟨g',e',b,f,i,d⟩
 |outgrown=>exact⟨g',e',b,f,i,d⟩
theorem qP{c:Operand}{x y:Code}{t:Bool}(j:e.ev c=.at (.bool t))(k:t=true->awp P X x Q e st)(l:t=false->awp P X y Q e st) :
 awp P X (.cond c x y) Q e st:=by
 intro g a w b;have f:=b.ev c;rw[j]at f;have h:a.eval c=.bool t:=by
  obtain⟨us,i,d⟩:=f;simp only[RC]at i;rw[d,i.1];rfl
 cases t with
 |true=>exact wpIn_cond_true h (k rfl g a w b)
 |false=>exact wpIn_cond_false h (l rfl g a w b)
theorem zS9{c:Code}{α:Type}(I:α->Prop)(μ:α->Nat)(E:α->Env)(T:α->S)(x₀:α)(s:I x₀)(t:e.sub (E x₀))(u:st.sub (T x₀))
 (d:∀x,I x->awp P X c (zDm (λe' q=>∃p,I p/\μ p<μ x/\e'.sub (E p)/\q.sub (T p)) Q) (E x) (T x)):awp P X (.loop c) Q e st:=by
 intro g a w v;refine wpIn_loop_ghost (λn a' w'=>∃x g',μ x=n/\I x/\Step X.B g w g' w'/\Rel X g' (E x) (T x) a' w') (μ x₀) ⟨x₀,g,rfl,s,.refl _ _ _,v.weaken t u⟩ ?_;rintro n a1 w1 ⟨x,y,rfl,z,f,A⟩;refine wpIn_mono (d x z y a1 w1 A) ?_;rintro ex H J ⟨h,m,b,i,j,k⟩;cases ex with
 |normal=>
  obtain⟨r,C,D,F,G⟩:=k;exact⟨μ r,D,r,h,rfl,C,f.trans i,j.weaken F G⟩
 |exit id=>exact⟨h,m,b,f.trans i,j,k⟩
 |goto l=>exact⟨h,m,b,f.trans i,j,k⟩
 |ret=>exact⟨h,m,b,f.trans i,j,k⟩
 |panic c=>exact⟨h,m,b,f.trans i,j,k⟩
 |outgrown=>exact⟨h,m,b,f.trans i,j,k⟩
end rules
open Go.RowKit
theorem zGg{w:World}{b o:Nat}{u:Value}(h:w.cell? ⟨b,o,none⟩=some u):b<w.heap.size:=World.block_lt_of_cell? w _ h
theorem Inv.grow{B:Nat}{g g':Gh}{st:S}{w w':World}(h:Inv B g st w)(l:Later g w g' w')(z:w.heap.size<=w'.heap.size)(p:∀b,b<w.heap.size->w'.heap[b]?=w.heap[b]?)
 (d:∀b,b<w.heap.size->g'.wm b=g.wm b) (D:∀b,w'.heap.size<=b->g'.wm b=0) (c:g'.tb=g.tb) (q:g'.fr=g.fr):Inv B g' st w':=by
 have lt:∀{b:Nat}{o:Obj},w.heap[b]?=some o->b<w.heap.size:=λE=>(zV8.1 E).1;refine⟨zWv h.base z,?_,?_,?_,?_,h.nodup,D,?_,h.ex.step l z q rfl (λb o A m j C=>⟨p j ((h.ex.ob b o A m).2.2 j C).2.1,d j ((h.ex.ob b o A m).2.2 j C).2.1⟩) (λj e _=>e) (λj _ e=>by rw[c];exact e)⟩
 .intro b cs k m;obtain⟨r,s,u,v,arr,el,us,f,i,x,F⟩:=h.box b cs k m;exact⟨r,by rw[d b (lt f)];exact s,u,v,arr,el,us,by rw[p b (lt f)];exact f,i,zq l _ _ x,F⟩
 .rw[c];exact h.tag
 .rw[c];intro t G b cap n sz y;obtain⟨r,s,u,v,f,arr,el,i,x⟩:=h.own t G b cap n sz y;exact⟨r,by rw[d b (lt i)];exact s,u,v,f,arr,el,by rw[p b (lt i)];exact i,x⟩
 .rw[c];exact h.dist
 .rw[c];exact h.names
theorem zFV{g g':Gh}{w w':World}(f:∀b,w.heap.size<=b->g.wm b=0)(i:∀b,b<w.heap.size->w'.heap[b]?=w.heap[b]?)(c:∀b,g.wm b<=g'.wm b)(d:∀t x,g.tb t=some x->g'.tb t=some x):Later g w g' w':=
 ⟨c,d,λb o j=>World.cell?_of_block (i b (by
  rcases zW5 b w.heap.size with h|h
  .exact h
  .rw[f b h]at j;omega))⟩
structure Out(B:Nat)(g:Gh)(w:World)(g':Gh)(st':S)(w':World):Prop where
 step:Step B g w g' w'
 inv:Inv B g' st' w'
theorem Out.refl{B:Nat}{g:Gh}{st:S}{w:World}(h:Inv B g st w):Out B g w g st w:=⟨.refl _ _ _,h⟩
theorem zBd{B:Nat}{g:Gh}{st:S}{w:World}(h:Inv B g st w)(n:Nat):Out B g w g st { w with drawn:=n }:=
 ⟨⟨⟨λ_=>zV7 _,λ_ _ e=>e,λ_ _ _=>rfl⟩,⟨rfl,rfl,rfl,zV7 _,λ_ _=>rfl⟩,λ_ _=>⟨rfl,rfl⟩,λ_ _=>rfl,rfl⟩,
  h.grow ⟨λ_=>zV7 _,λ_ _ e=>e,λ_ _ _=>rfl⟩ (zV7 _) (λ_ _=>rfl) (λ_ _=>rfl) h.fresh rfl rfl⟩
theorem zDl(w:World)(o:Obj)(b:Nat)(h:b<w.heap.size):(w.alloc o).heap[b]?=w.heap[b]?:=Below.heap_alloc w o b h
theorem ku(w:World)(o:Obj):(w.alloc o).heap[w.heap.size]?=some o:=heap_alloc_new w o
theorem zA0{B:Nat}{g:Gh}{st:S}{w:World}(h:Inv B g st w)(cs:Array Value)(el:TypeId)(m:Nat) :
 Out B g w ⟨λb=>if b=w.heap.size then m else g.wm b,g.tb,g.fr⟩ st (w.alloc (.cells cs el)):=by
 have d:(w.alloc (.cells cs el)).heap.size=w.heap.size+1:=by simp
 have f:Later g w ⟨λb=>if b=w.heap.size then m else g.wm b,g.tb,g.fr⟩ (w.alloc (.cells cs el)):=
  zFV h.fresh (λb c=>zDl w _ b c) (λb=>by
   show g.wm b<=if b=w.heap.size then m else g.wm b
   split
   .rename_i e;rw[h.fresh b (by omega)];omega
   .exact zV7 _) (λ_ _ e=>e)
 refine⟨⟨f,(Below.refl _ _).alloc h.base _,λb c=>⟨zDl w _ b (h.ex.frz b c).1,if_neg (zXp (h.ex.frz b c).1)⟩,λb c=>?_,rfl⟩,h.grow f (by omega) (λb c=>zDl w _ b c) (λb c=>?_) (λb c=>?_) rfl rfl⟩
 .have:=h.base;show(if b=w.heap.size then m else g.wm b)=_;rw[if_neg (by omega)]
 .show(if b=w.heap.size then m else g.wm b)=_;rw[if_neg (by omega)]
 .show(if b=w.heap.size then m else g.wm b)=0;rw[d]at c;rw[if_neg (by omega)];exact h.fresh b (by omega)
theorem zLi{g:Gh}{w:World}(cs:Array Value)(el:TypeId)(us:List Value)(m:Nat)(j:us.length<=m)(f:cs.toList.take us.length=us) :
 At ⟨λb=>if b=w.heap.size then m else g.wm b,g.tb,g.fr⟩ (w.alloc (.cells cs el)) w.heap.size 0 us:=by
 intro k u c;have i:k<us.length:=by
  rcases zW5 k us.length with h|h
  .exact h
  .rw[zX4 h]at c;cases c
 refine⟨?_,by show 0+k<(if w.heap.size=w.heap.size then m else g.wm _);rw[if_pos rfl];omega⟩;rw[zWP,cell_of_row _ w.heap.size k cs el (0,0) (ku w _)];have d:=zWp (λl=>l[k]?) f;simp only[zWb,if_pos i]at d;rw[<-c,<-d];simp
theorem Inv.addBox{B:Nat}{g:Gh}{st:S}{w:World}(h:Inv B g st w){b:Nat}{arr:Array Value}{el:TypeId}{cs:List V}{us:List Value}(x:B<=b)(y:g.wm b=0)
 (z:w.heap[b]?=some (.cells arr el (0,0))) (A:cs.length<=arr.size) (p:∀c∈cs,c.isOne=true) (C:RCs g w cs us) (D:arr.toList.take cs.length=us)
 (q:∀t∈st.tg,∀d,g.tb t=some (some (b,d))->False) (r:g.fr b=false) (k:∀f o l,zQ st.ob f=some (o,l)->b∉l):Inv B g ⟨lay st.box b (cs,arr.size),st.tg,st.nx,st.ob⟩ w:=by
 refine⟨h.base,?_,h.tag,?_,h.dist,h.nodup,h.fresh,h.names,h.ex.step (.refl _ _) (zV7 _) rfl rfl (λ_ _ _ _ _ _=>⟨rfl,rfl⟩) (λj e m=>?_) (λ_ _ e=>e)⟩
 .intro f cs' E i;simp only[zR]at i;by_cases e:b=f
  .subst e;rw[if_pos rfl]at i;injection i with i
   injection i with s F
   subst s;subst F;exact⟨x,y,A,p,arr,el,us,z,rfl,C,D⟩
  .rw[if_neg e]at i;exact h.box f cs' E i
 .intro t u f cap n sz v;obtain⟨G,H,I,J,L,M⟩:=h.own t u f cap n sz v;refine⟨G,H,I,J,?_,M⟩;simp only[zR];rw[if_neg]
  .exact L
  .intro e;subst e;exact q t u _ v
 .show look (lay st.box b (cs,arr.size)) j=none;rw[zR,if_neg (λs=>?_)]
  .exact e
  .subst s;rcases m with m|⟨f,o,l,p,N⟩
   .rw[r]at m;cases m
   .exact k f o l p N
theorem zEu{B:Nat}{g:Gh}{st:S}{w:World}(h:Inv B g st w){b:Nat}{cs:List V}{k:Nat}(F:look st.box b=some (cs,k)){arr:Array Value}{el:TypeId}
 (R:w.heap[b]?=some (.cells arr el (0,0))) (arr':Array Value) (hs:arr'.size=arr.size) (cs':List V) (r:List Value) (hc:cs'.length<=arr.size) (W:∀c∈cs',c.isOne=true)
 (Y:RCs g w cs' r) (Z:arr'.toList.take cs'.length=r):Out B g w g ⟨lay st.box b (cs',k),st.tg,st.nx,st.ob⟩ (w.setRow b arr'):=by
 obtain⟨p1,T,p3,p4,p,s,aa,E,p6,p7,p8⟩:=h.box b cs k F;have he:p=arr/\s=el:=by rw[R]at E;injection E with E;injection E with z G;exact⟨z.symm,G.symm⟩
 obtain⟨rfl,rfl⟩:=he;have f:∀j,j≠b->(w.setRow b arr').heap[j]?=w.heap[j]?:=λj q=>setRow_other w b j _ q;have u:=setRow_heap w b p arr' s (0,0) R;have v:∀j o,o<g.wm j->(w.setRow b arr').cell? ⟨j,o,none⟩=w.cell? ⟨j,o,none⟩:=λj o ho=>by
  refine World.cell?_of_block (f j ?_);intro e;subst e;rw[T]at ho;omega
 have m:Later g w g (w.setRow b arr'):=⟨λ_=>zV7 _,λ_ _ e=>e,v⟩;have x:∀j,look st.box j=none->j≠b:=λj e z=>by subst z;rw[F]at e;cases e
 refine⟨⟨m,⟨rfl,rfl,rfl,by simp,λj q=>f j (by omega)⟩,λj q=>⟨f j (x j (h.ex.frz j q).2.1),rfl⟩,λ_ _=>rfl,rfl⟩,?_⟩
 .refine⟨by simpa using h.base,?_,h.tag,?_,h.dist,h.nodup,λj q=>h.fresh j (by simpa using q),h.names,h.ex.step m (by simp) rfl rfl (λl o fp d j q=>⟨f j (x j ((h.ex.ob l o fp d).2.2 j q).2.2.2.1),rfl⟩) (λj e _=>?_) (λ_ _ e=>e)⟩
  .intro l A U d;replace d:look (lay st.box b (cs',k)) l=some (A,U):=d;rw[zR]at d;by_cases e:b=l
   .subst e;rw[if_pos rfl]at d;injection d with d
    injection d with z G
    subst z;subst G;exact⟨p1,T,by omega,W,arr',s,r,u,by omega,zq m _ _ Y,Z⟩
   .rw[if_neg e]at d;obtain⟨H,I,J,L,i,y,M,C,N,O,q8⟩:=h.box l A U d;exact⟨H,I,J,L,i,y,M,by rw[f l (zW8 e)];exact C,N,zq m _ _ O,q8⟩
  .intro t ht l cap n sz hb;obtain⟨H,I,J,L,C,i,y,N,O⟩:=h.own t ht l cap n sz hb;have D:b≠l:=λe=>by subst e;rw[F]at C;cases C
   refine⟨H,I,J,L,?_,i,y,by rw[f l (zW8 D)];exact N,O⟩;simp only[zR];rw[if_neg D];exact C
  .show look (lay st.box b (cs',k)) j=none;rw[zR,if_neg (zW8 (x j e))];exact e
theorem Inv.freshName{B:Nat}{g:Gh}{st:S}{w:World}(h:Inv B g st w):g.tb st.nx=none/\st.nx∉st.tg:=by
 refine⟨h.names _ (zV7 _),λc=>?_⟩;obtain⟨d,b⟩:=h.tag _ c;rw[h.names _ (zV7 _)]at b;cases b
theorem Inv.addTag{B:Nat}{g:Gh}{st:S}{w:World}(h:Inv B g st w){t:Nat}(v:t=st.nx)(d:Option (Nat×Nat×Nat×Nat))
 (A:∀b cap n sz,d=some (b,cap,n,sz)->B<=b/\g.wm b=n*sz/\n<=cap/\cap<=maxLen/\look st.box b=none/\(∃arr el,w.heap[b]?=some (.cells arr el (0,0))/\arr.size=cap*sz) /\
  (∀t∈st.tg,∀x,g.tb t=some (some (b,x))->False)/\g.fr b=false/\∀G o C,zQ st.ob G=some (o,C)->b∉C) :
 Inv B ⟨g.wm,λj=>if j=t then some d else g.tb j,g.fr⟩ ⟨st.box,t::st.tg,st.nx+1,st.ob⟩ w/\Later g w ⟨g.wm,λj=>if j=t then some d else g.tb j,g.fr⟩ w:=by
 have R:g.tb t=none:=by rw[v];exact h.freshName.1
 have z:t∉st.tg:=by rw[v];exact h.freshName.2
 have m:Later g w ⟨g.wm,λj=>if j=t then some d else g.tb j,g.fr⟩ w:=⟨λ_=>zV7 _,λj x e=>by
  show(if j=t then some d else g.tb j)=some x;rw[if_neg (λD=>by subst D;rw[R]at e;cases e)];exact e,λ_ _ _=>rfl⟩
 have c:∀j∈st.tg,(if j=t then some d else g.tb j)=g.tb j:=λj f=>if_neg (λe=>by subst e;exact z f);refine⟨⟨h.base,?_,?_,?_,?_,zXx.2 ⟨z,h.nodup⟩,h.fresh,?_,h.ex.step m (zV7 _) rfl rfl (λ_ _ _ _ _ _=>⟨rfl,rfl⟩) (λ_ e _=>e) (λj f H p r x l=>?_) (λj f=>(zWB.1 f).elim (λe=>.inr (by rw[e];exact R)) .inl)⟩,m⟩
 .intro b cs k W;obtain⟨I,J,Y,Z,arr,el,us,h5,h6,h7,h8⟩:=h.box b cs k W;exact⟨I,J,Y,Z,arr,el,us,h5,h6,zq m _ _ h7,h8⟩
 .intro j f;rcases zWB.1 f with rfl|f
  .exact⟨d,if_pos rfl⟩
  .obtain⟨x,l⟩:=h.tag j f;exact⟨x,(c j f).trans l⟩
 .intro j f b cap n sz T;rcases zWB.1 f with rfl|f
  .have s:some d=some (some (b,cap,n,sz)):=by rw[<-T];exact(if_pos rfl).symm
   injection s with s
   obtain⟨q1,q2,q3,q4,q5,q6,_,_⟩:=A b cap n sz s;exact⟨q1,q2,q3,q4,q5,q6⟩
  .exact h.own j f b cap n sz ((c j f).symm.trans T)
 .intro j f p r b x y l L;rcases zWB.1 f with U|E<;>rcases zWB.1 r with D|F
  .rw[U,D]
  .subst U;have i:some d=some (some (b,x)):=by rw[<-l];exact(if_pos rfl).symm
   injection i with i
   obtain⟨M,N,O⟩:=x;obtain⟨_,_,_,_,_,_,q,_⟩:=A b M N O i;exact(q p F y ((c p F).symm.trans L)).elim
  .subst D;have u:some d=some (some (b,y)):=by rw[<-L];exact(if_pos rfl).symm
   injection u with u
   obtain⟨y1,y2,y3⟩:=y;obtain⟨_,_,_,_,_,_,q,_⟩:=A b y1 y2 y3 u;exact(q j E x ((c j E).symm.trans l)).elim
  .exact h.dist j E p F b x y ((c j E).symm.trans l) ((c p F).symm.trans L)
 .intro j f;replace f:st.nx+1<=j:=f;show(if j=t then some d else g.tb j)=none;rw[if_neg (by omega)];exact h.names j (by omega)
 .rcases zWB.1 r with rfl|V
  .have i:some d=some (some (j,x)):=by rw[<-l];exact(if_pos rfl).symm
   injection i with i
   obtain⟨M,N,O⟩:=x;obtain⟨_,_,_,_,_,_,_,q,q'⟩:=A j M N O i;rcases f with f|⟨G,o,C,I,J⟩
   .rw[q]at f;cases f
   .exact q' G o C I J
  .exact H p V x ((c p V).symm.trans l)
theorem Inv.dropTag{B:Nat}{g:Gh}{st:S}{w:World}(h:Inv B g st w)(t:Nat):Inv B g ⟨st.box,st.tg.erase t,st.nx,st.ob⟩ w:=
 h.weaken ⟨λ_ _ e=>e,λ_ b=>zYk b,λc=>c.erase t,λ_ e=>e,zV7 _,λ_ _ e=>e⟩
theorem Inv.dropBox{B:Nat}{g:Gh}{st:S}{w:World}(h:Inv B g st w)(b:Nat):Inv B g ⟨wipe st.box b,st.tg,st.nx,st.ob⟩ w:=
 h.weaken ⟨λj c e=>by
  simp only[xA]at e;split at e
  .cases e
  .exact e,λ_ d=>d,λf=>f,λj e=>by
  simp only[xA];split
  .rfl
  .exact e,zV7 _,λ_ _ e=>e⟩
theorem Inv.newFr{B:Nat}{g:Gh}{st:S}{w:World}(h:Inv B g st w):g.fr w.heap.size=false:=by
 cases e:g.fr w.heap.size with
 |false=>rfl
 |true=>exact absurd (h.ex.frz _ e).1 (zZP _)
theorem Inv.newOb{B:Nat}{g:Gh}{st:S}{w:World}(h:Inv B g st w):∀b o c,zQ st.ob b=some (o,c)->w.heap.size∉c:=λb o c d f=>
 absurd ((h.ex.ob b o c d).2.2 _ f).2.1 (zZP _)
open Go.RowKit
structure Pol where
 pf:FuncId->Bool
 wr:Nat->Bool
 own:Nat->Bool
 rf:FuncId->Bool
 kl:List (Nat×Nat)
 kb:Nat->List Nat
def ldK(L:Pol)(x:Operand)(v:V):Prop:=
 match x with
 |.tmp u=>∀p∈L.kl,p.2=u->∀b o,v=.at (.pointer (some ⟨b,o,none⟩))->b∈L.kb p.1
 |_=>True
def stK(L:Pol)(x:Operand)(v:V):Prop:=
 match x with
 |.tmp a=>∀b o,v=.at (.pointer (some ⟨b,o,none⟩))->b∉L.kb (1000000+a)
 |_=>True
def klb(L:Pol):Option Nat->List Nat
 |some d=>L.kb d
 |none=>[]
section facts
variable(P:Program)
def hasT(t:TypeId):Bool:=(P.info? t).isSome&&(P.underlying t).isSome
def xD(t:TypeId):Bool:=match P.underlying t with|some (.struct _)|some (.array _ _)=>true|_=>false
def elT(t:TypeId):Option TypeId:=match P.underlying t with|some (.slice e)=>some e|_=>none
def kN(t:TypeId):Bool:=match P.underlying t with|some .string=>true|_=>false
def zGk(t:TypeId):Bool:=match P.underlying t with|some .bool=>true|_=>false
def fieldAt(t:TypeId)(i:Nat):Option (Nat×TypeId):=match P.underlying t with|some (.struct fs)=>(fs[i]?).map λf=>(f.offset,f.type)|_=>none
def zAM(t:TypeId):Option Value:=(P.info? t).bind (·.zero)
def yZ(t:TypeId):Option (List V):=(zAM P t).bind λz=>if z.cells.toList.all one then some (z.cells.toList.map cV1)else none
def zU(f:FuncId):Bool:=match P.funcs[f]? with|some b=>b.name != "runtime.NumGoroutine"&&b.body.isSome|none=>false
end facts
def zx:V->V
 |.lst (.own _ b _) es=>.lst (if b then yL es else .no) es
 |x=>x
def V.untag:V->V
 |.agg fs=>.agg (fs.map zx)
 |x=>zx x
section ops
variable(P:Program)
def yO(t:TypeId)(fs:List V)(b:Nat):Prop:=hasT P t=true/\b+P.cellsOf t<=fs.length/\(xD P t=false->P.cellsOf t=1)
def yN(t:TypeId)(fs:List V)(b:Nat):V:=if xD P t=true then .agg ((fs.drop b).take (P.cellsOf t))else fs.getD b .any
def spl(cs:List V)(o:Nat)(xs:List V):List V:=cs.take o++xs++cs.drop (o+xs.length)
def zJ(fs:List V):Prop:=fs.all V.isOne=true
def fits(t:TypeId)(x:V):Prop:=hasT P t=true/\x.size=P.cellsOf t/\x.isAgg=xD P t
def zB4:V->V->V->(V->Prop)->Prop
 |.at (.bool t),a,b,K=>K (if t then a else b)
 |_,_,_,_=>False
def ibit(f:(n:Nat)->BitVec n->BitVec n->BitVec n)(k:IntKind)(a b:Int):Int:=k.wrap ((f k.bits (BitVec.ofInt k.bits a) (BitVec.ofInt k.bits b)).toNat)
def iand(k:IntKind)(a b:Int):Int:=ibit (λ_ x y=>x &&& y) k a b
def ior(k:IntKind)(a b:Int):Int:=ibit (λ_ x y=>x ||| y) k a b
def ixor(k:IntKind)(a b:Int):Int:=ibit (λ_ x y=>x ^^^ y) k a b
def zPO(k:IntKind)(a b:Int):Int:=ibit (λ_ x y=>x &&& ~~~y) k a b
def ishl(k:IntKind)(a b:Int):Int:=k.wrap (a*2 ^ (min b.toNat k.bits))
def ishr(k:IntKind)(a b:Int):Int:=a.fdiv (2 ^ (min b.toNat k.bits))
def inot(k:IntKind)(n:Int):Int:=ixor k (if k.signed then -1 else k.max) n
def aInt(c:BinOp)(k:IntKind)(a b:Int)(K:V->Prop):Prop:=
 match c with
 |.and=>K (.at (.int k (iand k a b)))
 |.or=>K (.at (.int k (ior k a b)))
 |.xor=>K (.at (.int k (ixor k a b)))
 |.andNot=>K (.at (.int k (zPO k a b)))
 |.shl=>0<=b/\K (.at (.int k (ishl k a b)))
 |.shr=>0<=b/\K (.at (.int k (ishr k a b)))
 |.add=>K (.at (.int k (k.wrap (a+b))))
 |.sub=>K (.at (.int k (k.wrap (a-b))))
 |.mul=>K (.at (.int k (k.wrap (a*b))))
 |.quo=>b≠0/\K (.at (.int k (k.wrap (a.tdiv b))))
 |.rem=>b≠0/\K (.at (.int k (a.tmod b)))
 |.eql=>K (.at (.bool (a==b)))
 |.neq=>K (.at (.bool (a != b)))
 |.lss=>K (.at (.bool (decide (a<b))))
 |.leq=>K (.at (.bool (decide (a<=b))))
 |.gtr=>K (.at (.bool (decide (a > b))))
 |.geq=>K (.at (.bool (decide (a >= b))))
def aStr(c:BinOp)(a b:ByteArray)(K:V->Prop):Prop:=
 match c with
 |.add=>((a.size+b.size:Nat):Int)<=IntKind.i64.max/\K (.at (.string (a++b)))
 |.eql=>K (.at (.bool (a.toList==b.toList)))
 |.neq=>K (.at (.bool !(a.toList==b.toList)))
 |.lss=>K (.at (.bool (Op.bytesLess a.toList b.toList)))
 |.leq=>K (.at (.bool (Op.bytesLess a.toList b.toList||a.toList==b.toList)))
 |.gtr=>K (.at (.bool !(Op.bytesLess a.toList b.toList||a.toList==b.toList)))
 |.geq=>K (.at (.bool !(Op.bytesLess a.toList b.toList)))
 |_=>False
def nilB:Tag->List V->Bool
 |.nil,_=>true
 |.no,_=>false
 |.own _ b _,es=>b&&es.isEmpty
def kW(c:BinOp)(a b:Bool)(K:V->Prop):Prop:=
 match c with
 |.eql=>K (.at (.bool (a==b)))
 |.neq=>K (.at (.bool (!(a==b))))
 |_=>False
def zQa(t:TypeId):Bool:=match P.underlying t with|some (.pointer _)=>true|_=>false
def aBin(c:BinOp)(t:TypeId):V->V->(V->Prop)->Prop
 |.at (.int k a),.at (.int d b),K=>(k=d\/c=.shl\/c=.shr)/\aInt c k a b K
 |.at (.bool a),.at (.bool b),K=>zGk P t=true/\kW c a b K
 |.at (.string a),.at (.string b),K=>aStr c a b K
 |.lst tg es,.lst .nil [],K=>(elT P t).isSome=true/\kW c (nilB tg es) true K
 |.at (.pointer p),.at (.pointer none),K=>zQa P t=true/\kW c p.isNone true K
 |_,_,_=>False
def aUn(c:UnOp):V->(V->Prop)->Prop
 |.at (.bool b),K=>(match c with|.not=>K (.at (.bool !b))|_=>False)
 |.at (.int k n),K=>(match c with|.neg=>K (.at (.int k (k.wrap (0-n))))|.xor=>K (.at (.int k (inot k n)))|_=>False)
 |_,_=>False
def kn(x:V)(i:Nat)(K:V->Prop):Prop:=
 match x with
 |.tup vs=>i<vs.length/\K (vs.getD i .any)
 |_=>False
def zRI(t:TypeId)(x:V)(f:Nat)(K:V->Prop):Prop:=
 match x,fieldAt P t f with
 |.agg fs,some (b,c)=>zJ fs/\yO P c fs b/\K (yN P c fs b)
 |_,_=>False
def yY(t:TypeId)(x:V)(f:Nat)(K:V->Prop):Prop:=
 match x,fieldAt P t f with
 |.rptr (.agg fs),some (c,d)=>zJ fs/\yO P d fs c/\0<P.cellsOf d/\K (.rptr (yN P d fs c))
 |.at (.pointer (some ⟨b,o,none⟩)),some (c,d)=>hasT P d=true/\0<P.cellsOf d/\K (.at (.pointer (some ⟨b,o+c,none⟩)))
 |_,_=>False
def ym(t:TypeId)(x i:V)(K:V->Prop):Prop:=
 match elT P t,x,i with
 |some el,.lst _ es,.at (.int _ n)=>hasT P el=true/\(0<=n/\n<(es.length:Int))/\(es.getD n.toNat .any).size=P.cellsOf el/\K (.rptr (es.getD n.toNat .any))
 |some el,.at (.slice (some ⟨b,o,none⟩) len _),.at (.int _ n)=>hasT P el=true/\(0<=n/\n<(len:Int))/\K (.at (.pointer (some ⟨b,o+n.toNat*P.cellsOf el,none⟩)))
 |_,_,_=>False
def arrT(P:Program)(t:TypeId):Option Nat:=match P.underlying t with|some (.array n e)=>if hasT P e=true/\P.cellsOf e=1/\xD P e=false then some n else none|_=>none
def kp(t:TypeId)(x i:V)(K:V->Prop):Prop:=
 match x,i with
 |.at (.string s),.at (.int _ n)=>kN P t=true/\(0<=n/\n<(s.size:Int))/\K (.at (.int .u8 ((s.data.getD n.toNat 0).toNat:Int)))
 |.agg fs,.at (.int _ n)=>arrT P t=some fs.length/\zJ fs/\(0<=n/\n<(fs.length:Int))/\K (fs.getD n.toNat .any)
 |_,_=>False
def xH(st:S)(t:TypeId)(x:V)(K:V->Prop):Prop:=
 match x with
 |.rptr y=>fits P t y/\K y
 |.at (.pointer (some ⟨b,o,none⟩))=>
  match look st.box b with
  |some (cs,_)=>yO P t cs o/\K (yN P t cs o)
  |none=>False
 |_=>False
def qS(st:S)(t:TypeId)(x y:V)(K:S->Prop):Prop:=
 match x with
 |.at (.pointer (some ⟨b,o,none⟩))=>
  match look st.box b with
  |some (cs,k)=>hasT P t=true/\y.flat.length=P.cellsOf t/\zJ y.flat/\o+y.flat.length<=cs.length/\K ⟨lay st.box b (spl cs o y.flat,k),st.tg,st.nx,st.ob⟩
  |none=>False
 |_=>False
def aNew(st:S)(cs:List V)(K:V->S->Prop):Prop:=
 zJ cs/\∀b,look st.box b=none->K (.at (.pointer (some ⟨b,0,none⟩))) ⟨lay st.box b (cs,cs.length),st.tg,st.nx,st.ob⟩
def jk(st:S)(t:TypeId)(K:V->S->Prop):Prop:=
 match yZ P t with
 |some cs=>aNew st cs K
 |none=>False
def zBS(place:Nat->Option (Nat×Nat))(b:List V):List (Nat×V)->Option (List V)
 |[]=>some b
 |(i,x)::d=>
  match place i with
  |none=>none
  |some (f,c)=>if x.flat.length=c/\f+c<=b.length/\x.flat.all V.isOne=true then zBS place (spl b f x.flat) d else none
def zBa(t:TypeId)(i:Nat):Option (Nat×Nat):=(fieldAt P t i).bind λp=>if hasT P p.2 then some (p.1,P.cellsOf p.2)else none
def zDa(t:TypeId):Bool:=match P.underlying t with|some (.struct fs)=>fs.toList.all λf=>hasT P f.type|_=>false
def zEJ(t:TypeId)(parts:List (Nat×V))(K:V->Prop):Prop:=
 zDa P t=true /\
 match yZ P t with
 |some cs=>(match zBS (zBa P t) cs parts with|some cs'=>K (.agg cs')|none=>False)
 |none=>False
def zFE(t:TypeId):List (Nat×TypeId):=match P.underlying t with|some (.array n e)=>(List.range n).map λi=>(i*P.cellsOf e,e)|_=>[]
def zH7(t:TypeId)(i:Nat):Option (Nat×Nat):=((zFE P t)[i]?).bind λp=>if hasT P p.2 then some (p.1,P.cellsOf p.2)else none
def zJ3(t:TypeId)(parts:List (Nat×V))(K:V->Prop):Prop:=
 zFE P t≠[]/\hasT P ((zFE P t).headD (0,0)).2=true /\
 match yZ P t with
 |some cs=>(match zBS (zH7 P t) cs parts with|some cs'=>K (.agg cs')|none=>False)
 |none=>False
def zCu(t:TypeId)(parts:List (Nat×V))(K:V->Prop):Prop:=zEJ P t parts K\/zJ3 P t parts K
def zf:List V->List V
 |[]=>[]
 |x::xs=>x.flat++zf xs
def jl:Nat->List (Nat×V)->Bool
 |_,[]=>true
 |n,(i,_)::r=>i==n&&jl (n+1) r
def yw(sz:Nat)(es:List V):Prop:=∀x∈es,x.size=sz
def yU(L:Pol)(c:Option Nat)(st:S)(t:TypeId)(n:Nat)(parts:List (Nat×V))(K:V->S->Prop):Prop:=
 match elT P t with
 |none=>False
 |some el=>
  let es:=parts.map λp=>p.2.untag
  hasT P el=true/\(yZ P el).isSome=true/\((yZ P el).map List.length=some (P.cellsOf el))/\n*P.cellsOf el<=2 ^ 24/\n<=maxLen/\parts.length=n/\jl 0 parts=true/\yw (P.cellsOf el) es/\(parts.all λp=>p.2.flat.all V.isOne)=true /\
  (if(c.map L.wr).getD false=true then
   zJ (zf (parts.map (·.2)))/\∀b,look st.box b=none->K (.at (.slice (some ⟨b,0,none⟩) n n)) ⟨lay st.box b (zf (parts.map (·.2)),n*P.cellsOf el),st.tg,st.nx,st.ob⟩
  else if(c.map L.own).getD false=true then
   K (.lst (.own st.nx false (P.cellsOf el)) es) ⟨st.box,st.nx::st.tg,st.nx+1,st.ob⟩
  else K (.lst .no es) st)
def aLen(t:TypeId)(x:V)(K:V->Prop):Prop:=
 match x with
 |.lst _ es=>(elT P t).isSome=true/\K (.at (.int .i64 (es.length:Int)))
 |.at (.slice _ n _)=>(elT P t).isSome=true/\K (.at (.int .i64 (n:Int)))
 |.at (.string s)=>kN P t=true/\K (.at (.int .i64 (s.size:Int)))
 |_=>False
def aMax:V->V->(V->Prop)->Prop
 |.at (.int k x),.at (.int _ y),K=>K (.at (.int k (if y > x then y else x)))
 |_,_,_=>False
def xS(L:Pol)(d:Option Nat)(st:S)(t i:TypeId)(s x:V)(K:V->S->Prop):Prop:=
 match elT P t,x with
 |some el,.lst _ ys=>
  i=t/\hasT P el=true/\((yZ P el).map List.length=some (P.cellsOf el))/\0<P.cellsOf el/\yw (P.cellsOf el) ys /\
  (match s with
   |.lst .nil []=>ys.length*P.bytesOf el<=140737488355328/\ys.length<=maxLen /\
    (if(d.map L.wr).getD false=true then
     ys≠[]/\zJ (zf ys)/\∀b cap,look st.box b=none->ys.length<=cap->K (.at (.slice (some ⟨b,0,none⟩) ys.length cap)) ⟨lay st.box b (zf ys,cap*P.cellsOf el),st.tg,st.nx,st.ob⟩
    else K (.lst (.own st.nx true (P.cellsOf el)) ys) ⟨st.box,st.nx::st.tg,st.nx+1,st.ob⟩)
   |.lst (.own g j sz) es=>g∈st.tg/\sz=P.cellsOf el/\(es.length+ys.length)*P.bytesOf el<=140737488355328/\es.length+ys.length<=maxLen /\
    K (.lst (.own st.nx j sz) (es++ys)) ⟨st.box,st.nx::st.tg.erase g,st.nx+1,st.ob⟩
   |.at (.slice (some ⟨b,0,none⟩) len cap)=>
    (match look st.box b with
     |some (cs,k)=>(d.map L.wr).getD false=true/\k=cap*P.cellsOf el/\len<=cap/\len*P.cellsOf el<=cs.length/\(len+ys.length)*P.bytesOf el<=140737488355328/\len+ys.length<=maxLen/\zJ (zf ys) /\
      ∀f c,look (wipe st.box b) f=none->len+ys.length<=c ->
       K (.at (.slice (some ⟨f,0,none⟩) (len+ys.length) c)) ⟨lay (wipe st.box b) f (cs.take (len*P.cellsOf el)++zf ys,c*P.cellsOf el),st.tg,st.nx,st.ob⟩
     |none=>False)
   |_=>False)
 |some el,.at (.slice (some ⟨l,0,none⟩) m _)=>
  i=t/\hasT P el=true/\((yZ P el).map List.length=some (P.cellsOf el))/\0<P.cellsOf el/\(d.map L.wr).getD false=true /\
  (match look st.box l with
   |none=>False
   |some (h,_)=>m*P.cellsOf el<=h.length /\
    (match s with
     |.lst .nil []=>m*P.bytesOf el<=140737488355328/\m<=maxLen/\m≠0 /\
      ∀b cap,look st.box b=none->m<=cap->K (.at (.slice (some ⟨b,0,none⟩) m cap)) ⟨lay st.box b (h.take (m*P.cellsOf el),cap*P.cellsOf el),st.tg,st.nx,st.ob⟩
     |.at (.slice (some ⟨b,0,none⟩) len cap)=>
      (match look st.box b with
       |some (cs,k)=>k=cap*P.cellsOf el/\len<=cap/\len*P.cellsOf el<=cs.length/\(len+m)*P.bytesOf el<=140737488355328/\len+m<=maxLen /\
        ∀f c,look (wipe st.box b) f=none->len+m<=c ->
         K (.at (.slice (some ⟨f,0,none⟩) (len+m) c)) ⟨lay (wipe st.box b) f (cs.take (len*P.cellsOf el)++h.take (m*P.cellsOf el),c*P.cellsOf el),st.tg,st.nx,st.ob⟩
       |none=>False)
     |_=>False))
 |_,_=>False
def zGQ:Tag->List V->Tag
 |.own _ b _,es=>if b then yL es else .no
 |t,_=>t
def jR(x:Option V)(d:Int)(K:Int->Prop):Prop:=
 match x with
 |none=>K d
 |some (.at (.int _ n))=>K n
 |_=>False
def jo(t:TypeId)(x:V)(lo hi:Option V)(K:V->Prop):Prop:=
 match x with
 |.lst tg es=>
  (match elT P t with
   |none=>False
   |some el=>hasT P el=true/\(es=[]\/∀x∈es.take 1,x.size=P.cellsOf el) /\
    jR lo 0 λl=>jR hi es.length λh=>(0<=l/\l<=h/\h<=(es.length:Int))/\K (.lst (zGQ tg es) ((es.take h.toNat).drop l.toNat)))
 |.at (.slice (some ⟨b,o,none⟩) len cap)=>
  (match elT P t with
   |none=>False
   |some el=>hasT P el=true/\jR lo 0 λl=>jR hi len λh=>(0<=l/\l<=h/\h<=(cap:Int)) /\
    K (.at (.slice (some ⟨b,if(cap:Int)=l then o else o+l.toNat*P.cellsOf el,none⟩) (h.toNat-l.toNat) (cap-l.toNat))))
 |.at (.string s)=>kN P t=true/\jR lo 0 λl=>jR hi s.size λh=>(0<=l/\l<=h/\h<=(s.size:Int))/\K (.at (.string (s.extract l.toNat h.toNat)))
 |.rptr (.agg fs)=>arrT P t=some fs.length/\zJ fs/\fs≠[]/\lo=none/\hi=none/\K (.lst .no fs)
 |_=>False
def xQ(x:V)(K:V->Prop):Prop:=
 match x with
 |.rptr y=>K (.rptr y)
 |.at (.pointer (some a))=>K (.at (.pointer (some a)))
 |_=>False
end ops
inductive Outc where
 |ret (r:V)
 |pan (c:List PanicEntry)
def PureF(P:Program)(f:FuncId)(args:List V)(r:V):Prop:=
 ∀(d:Nat->Nat)(w:World)(vs:List Value),(∀b,w.heap.size<=b->d b=0)->GlobOk w.heap.size d w->RVs ⟨d,λ_=>none,Fr.no⟩ w args vs ->
  Calls P f vs.toArray w λe w'=>∃v c,e=.returned v/\(∀b,w'.heap.size<=b->c b=0)/\Step w.heap.size ⟨d,λ_=>none,Fr.no⟩ w ⟨c,λ_=>none,Fr.no⟩ w'/\RV ⟨c,λ_=>none,Fr.no⟩ w' r v
def FnC(P:Program)(f:FuncId)(args:List V)(st:S)(Q:Outc->S->Prop):Prop:=
 ∀(B:Nat)(g:Gh)(w:World)(vs:List Value),Inv B g st w->GlobOk B g.wm w->RVs g w args vs ->
  Calls P f vs.toArray w λe w'=>∃g' b,Step B g w g' w'/\Inv B g' b w' /\
   match e with
   |.returned v=>∃r,RV g' w' r v/\Q (.ret r) b
   |.panicked c=>Q (.pan c) b
   |.outgrown=>False
inductive Sub:List V->List V->Prop where
 |nil:Sub [] []
 |keep {x xs ys} (h:Sub xs ys):Sub (x::xs) (x::ys)
 |drop {x xs ys} (h:Sub xs ys):Sub (x::xs) (x.untag::ys)
def zCm(P:Program)(L:Pol)(h:List Nat)(f:V)(args:List V)(st:S)(K:V->S->Prop)(KP:List PanicEntry->S->Prop):Prop:=
 match f with
 |.clo (.func n) caps=>zU P n=true/\(args.all λx=>x.flat.all V.isOne)=true/\zJ caps /\
  (if L.pf n=true then caps=[]/\∃r,PureF P n (args.map V.untag) r/\K r st
   else if L.rf n=true then∃as r,Sub args as/\FnC P n (as++caps) st (λoc d=>oc=.ret r/\d=st)/\K r st
   else∃as,Sub args as/\FnC P n (as++caps) st λ|.ret r,d=>(∀b∈h,look d.box b=look st.box b)/\K r d|.pan c,d=>KP c d)
 |_=>False
def zEZ(P:Program)(st:S)(t:TypeId)(x:V)(K:S->Prop):Prop:=
 match elT P t,x with
 |some el,.at (.slice (some ⟨b,o,none⟩) n _)=>
  (match look st.box b,yZ P el with
   |some (cs,k),some z=>o<=cs.length/\o+n*z.length<=k/\K (if n=0 then st else⟨lay st.box b (cs.take o,k),st.tg,st.nx,st.ob⟩)
   |_,_=>False)
 |_,_=>False
def ju(P:Program)(L:Pol)(c:Option Nat)(b:Builtin)(d:Array TypeId)(args:List V)(st:S)(K:V->S->Prop):Prop:=
 match b,d.toList,args with
 |.len,t::_,[x]=>aLen P t x λv=>K v st
 |.append,[t,f],[s,x]=>xS P L c st t f s x K
 |.clear,t::_,[x]=>zEZ P st t x λs=>K (.tup []) s
 |_,_,_=>False
def zGo:Operand->Bool
 |.const _=>true
 |_=>false
def zFg(P:Program)(t:TypeId):Bool:=match P.underlying t with|some (.interface _)=>true|_=>false
def intT(P:Program)(t:TypeId):Option IntKind:=match P.underlying t with|some (.int k)=>some k|_=>none
def zMG(P:Program)(us vs:List Value)(f:Field):Bool:=
 hasT P f.type&&!xD P f.type&&(match us[f.offset]?,vs[f.offset]?,P.underlying f.type with
 |some (.int _ _),some (.int _ _),some (.int _)=>true
 |some (.bool _),some (.bool _),some .bool=>true
 |some (.string _),some (.string _),some .string=>true
 |_,_,_=>false)
def zFL(P:Program)(t:TypeId)(us vs:List Value):Bool:=
 (match P.underlying t with|some (.struct fs)=>fs.toList.all (zMG P us vs)|_=>false)&&!P.stoodInHeld t&&!P.eqGuardType P.depth t
def zBY:List Value->List Value->Bool
 |u::us,v::vs=>(match u,v with|.int k _,.int b _=>decide (k=b)|_,_=>true)&&zBY us vs
 |_,_=>true
theorem zMR:∀{us vs:List Value}{i:Nat}{k b:IntKind}{n f:Int},zBY us vs=true->us[i]?=some (.int k n)->vs[i]?=some (.int b f)->k=b
 |[],_,_,_,_,_,_,_,h,_=>by simp at h
 |_::_,[],_,_,_,_,_,_,_,h=>by simp at h
 |u::us,v::vs,0,k,b,n,f,h,c,d=>by
  simp only[zXf,zXo]at c d;subst c;subst d;simp only[zBY,zV5,zWV]at h;exact h.1
 |u::us,v::vs,i+1,k,b,n,f,h,c,d=>by
  simp only[zBY,zV5]at h;exact zMR h.2 (by simpa using c) (by simpa using d)
def eqAt:Option Value->Option Value->Bool
 |some (.int _ a),some (.int _ b)=>a==b
 |some (.bool a),some (.bool b)=>a==b
 |some (.string a),some (.string b)=>a.toList==b.toList
 |_,_=>false
def zEv(P:Program)(t:TypeId)(us vs:List Value):Bool:=(P.fieldsOf t).toList.all λf=>f.name== "_"||eqAt us[f.offset]? vs[f.offset]?
def zB8(P:Program)(b:BinOp)(t:TypeId)(c:Bool):V->V->(V->Prop)->Prop
 |.ifx,.at .nilIface,K=>zFg P t=true/\kW b false true K
 |.at .nilIface,.at .nilIface,K=>zFg P t=true/\c=true/\kW b true true K
 |.agg fs,.agg d,K=>∃us vs:List Value,fs=us.map V.at/\d=vs.map V.at/\(zFL P t us vs=true/\zBY us vs=true)/\kW b (zEv P t us vs) true K
 |x,y,K=>aBin P b t x y K
def zAX:List V->Option (List Int)
 |[]=>some []
 |.at (.int .u8 n)::r=>(zAX r).map (n::·)
 |_::_=>none
def zLj(b:List Int):ByteArray:=b.foldl (λr n=>r.push (UInt8.ofNat n.toNat)) ByteArray.empty
def zI2(P:Program)(t:TypeId):Bool:=match elT P t with|some e=>(match P.underlying e with|some (.int .u8)=>true|_=>false)&&hasT P e&&(P.cellsOf e==1)|none=>false
def zFA(P:Program)(f t:TypeId)(x:V)(K:V->Prop):Prop:=
 match x with
 |.lst _ es=>zI2 P f=true/\kN P t=true/\(match zAX es with|some b=>K (.at (.string (zLj b)))|none=>False)
 |.at (.int _ n)=>(match intT P t with|some k=>hasT P f=true/\K (.at (.int k (k.wrap n)))|none=>False)
 |.at (.string s)=>kN P f=true/\kN P t=true/\K (.at (.string s))
 |_=>False
def mapT(P:Program)(t:TypeId):Option TypeId:=match P.underlying t with|some (.map k e)=>(match P.underlying k with|some .string=>some e|_=>none)|_=>none
def zOk:Value->Bool
 |.agg cs=>cs.toList.all one
 |v=>one v
def zV:Value->V
 |.agg cs=>.agg (cs.toList.map cV1)
 |v=>cV1 v
def outV(c:Bool)(v:V)(b:Bool):V:=if c=true then .tup [v,.at (.bool b)]else v
def jK(P:Program)(st:S)(t:TypeId)(x i:V)(c:Bool)(K:V->Prop):Prop:=
 match mapT P t,i with
 |some e,.at (.string s)=>
  (match zAM P e with
   |some z=>zOk z=true /\
    (match x with
     |.at (.map none)=>K (outV c (zV z) false)
     |.at (.map (some b))=>(match zQ st.ob b with
      |some (.mp o,_)=>(match mget o s with|some v=>K (outV c v true)|none=>K (outV c (zV z) false))
      |_=>False)
     |_=>False)
   |none=>False)
 |_,_=>False
def x9(P:Program)(st:S)(t:TypeId)(x i y:V)(K:S->Prop):Prop:=
 match mapT P t,x,i with
 |some _,.at (.map (some b)),.at (.string s)=>
  (match zQ st.ob b with
   |some (.mp o,c)=>y.flat.all V.isOne=true/\K ⟨st.box,st.tg,st.nx,(b,.mp (mput o s y.untag),c)::st.ob⟩
   |_=>False)
 |_,_,_=>False
def zFG(st:S)(K:V->S->Prop):Prop:=∀b,zQ st.ob b=none->K (.at (.map (some b))) ⟨st.box,st.tg,st.nx,(b,.mp [],[b])::st.ob⟩
def atsV:List V->Option (List Value)
 |[]=>some []
 |.at v::r=>(atsV r).map (v::·)
 |_::_=>none
def zPV:V->Bool
 |.at _=>true
 |_=>false
def zI4(b:Fn)(first caps:List V)(K:V->Prop):Prop:=
 match b,first with
 |.func n,[]=>caps.all zPV=true/\K (.clo (.func n) caps)
 |_,_=>False
def zFH(P:Program)(t:TypeId)(x:V)(K:V->Prop):Prop:=
 P.concrete t=true/\match x with
 |.at v=>K (.at (.iface t v))
 |.agg fs=>(match atsV fs with|some us=>K (.at (.iface t (.agg us.toArray)))|none=>K .ifx)
 |_=>K .ifx
def resM(P:Program)(t:TypeId)(m:String):Option FuncId:=
 match P.info? t with
 |some i=>(match i.methods.find? (λx=>x.name==m)with
  |some r=>(match r.path.toList with
   |[]=>(match r.func with
    |some (f,b)=>(match P.underlying t with
     |some (.pointer _)=>none
     |some _=>if b=true then none else some f
     |none=>none)
    |none=>none)
   |_::_=>none)
  |none=>none)
 |none=>none
def okV:Value->Bool
 |.agg cs=>cs.toList.all one
 |v=>one v
def zOO(P:Program)(x:V)(m:String)(args:List V)(st:S)(K:V->S->Prop):Prop:=
 match x with
 |.at (.iface t v)=>(match resM P t m with
  |some f=>zU P f=true/\okV v=true/\(args.all λx=>x.flat.all V.isOne)=true/\∃r,PureF P f (cV v::args.map V.untag) r/\K r st
  |none=>False)
 |_=>False
def zIr(x:V)(KP:List PanicEntry->Prop):Prop:=
 match x with
 |.at (.iface t v)=>KP [{ v:=.iface t v,recovered:=false }]
 |_=>False
def aop(P:Program)(L:Pol)(e:Env)(st:S)(o:Oper)(K:V->S->Prop)(KP:List PanicEntry->S->Prop):Prop:=
 match o.op with
 |.move x=>K (e.ev x) st
 |.assign x=>K (e.ev x) st
 |.pick c a b=>zB4 (e.ev c) (e.ev a) (e.ev b) λv=>K v st
 |.binOp h t x y _=>zB8 P h t (zGo y) (e.ev x) (e.ev y) λv=>K v st
 |.unOp h _ x=>aUn h (e.ev x) λv=>K v st
 |.extract x i=>kn (e.ev x) i λv=>K v st
 |.fieldAddr t x f=>yY P t (e.ev x) f λv=>K v st
 |.indexAddr t x i=>ym P t (e.ev x) (e.ev i) λv=>K v st
 |.index t x i=>kp P t (e.ev x) (e.ev i) λv=>K v st
 |.load t x=>ldK L x (e.ev x)/\xH P st t (e.ev x) λv=>K v st
 |.store t x y=>stK L x (e.ev x)/\qS P st t (e.ev x) (e.ev y) λd=>K .any d
 |.alloc t=>jk P st t K
 |.box _ x=>aNew st (e.ev x).flat K
 |.build t parts=>zCu P t (parts.toList.map λp=>(p.1,e.ev p.2)) λv=>K v st
 |.buildSlice t n parts=>yU P L o.dst st t n (parts.toList.map λp=>(p.1,e.ev p.2)) K
 |.nilCheck x=>xQ (e.ev x) λv=>K v st
 |.slice t x lo hi mx=>mx.isNone=true/\jo P t (e.ev x) (lo.map e.ev) (hi.map e.ev) λv=>K v st
 |.call c=>(match c.callee with
  |.value f=>zCm P L (klb L o.dst) (e.ev f) (c.args.toList.map e.ev) st K KP
  |.builtin b=>ju P L o.dst b c.argTypes (c.args.toList.map e.ev) st K
  |.invoke _ _=>False)
 |.convert f t x=>zFA P f t (e.ev x) λv=>K v st
 |.makeMap _ r=>r.isNone=true/\zFG st K
 |.lookup t x i c=>jK P st t (e.ev x) (e.ev i) c λv=>K v st
 |.mapUpdate t m k y=>x9 P st t (e.ev m) (e.ev k) (e.ev y) λd=>K .any d
 |.makeInterface t x=>zFH P t (e.ev x) λv=>K v st
 |.makeFunc j first caps=>zI4 j (first.toList.map e.ev) (caps.toList.map e.ev) λv=>K v st
 |.panic x=>zIr (e.ev x) λc=>KP c st
 |_=>False
open Go.RowKit
section inv
variable{g:Gh}{w:World}
theorem zr{v u:Value}(h:RV g w (.at v) u):u=v:=by
 obtain⟨us,b,c⟩:=h;simp only[RC]at b;rw[c,b.1];rfl
theorem zR2{v u:Value}(h:RV g w (.at v) u):one v=true:=by
 obtain⟨us,b,c⟩:=h;simp only[RC]at b;exact b.2
theorem RV_at_mk{v:Value}(h:one v=true):RV g w (.at v) v:=⟨[v],by simp[RC,h],rfl⟩
theorem zDV{fs:List V}{u:Value}(h:RV g w (.agg fs) u):∃us,RCs g w fs us/\u=.agg us.toArray:=by
 obtain⟨us,b,c⟩:=h;exact⟨us,by simpa only[RC]using b,c⟩
theorem zFq{fs:List V}{us:List Value}(h:RCs g w fs us):RV g w (.agg fs) (.agg us.toArray):=⟨us,by simpa only[RC]using h,rfl⟩
theorem zBQ{tg:Tag}{es:List V}{u:Value}(h:RV g w (.lst tg es) u):RC g w (.lst tg es) [u]:=by
 obtain⟨us,c,f⟩:=h;have d:=c;simp only[RC]at c;rcases c with⟨_,e,_⟩|⟨b,o,cap,ds,e,_⟩<;>(subst e;rw[f];exact d)
theorem xR{tg:Tag}{es:List V}{u:Value}(h:RC g w (.lst tg es) [u]):RV g w (.lst tg es) u:=⟨[u],h,rfl⟩
theorem zCy{x:V}{u:Value}(h:RV g w (.rptr x) u):∃b o ds,u=.pointer (some ⟨b,o,none⟩)/\RC g.bare w x ds/\At g w b o ds:=by
 obtain⟨us,c,d⟩:=h;simp only[RC]at c;obtain⟨b,o,ds,rfl,f,i⟩:=c;exact⟨b,o,ds,d,f,i⟩
theorem zCg{x:V}{b o:Nat}{ds:List Value}(h:RC g.bare w x ds)(c:At g w b o ds):RV g w (.rptr x) (.pointer (some ⟨b,o,none⟩)):=
 ⟨[.pointer (some ⟨b,o,none⟩)],by simp only[RC];exact⟨b,o,ds,rfl,h,c⟩,rfl⟩
theorem zQK{b:Fn}{caps:List V}{u:Value}(h:RV g w (.clo b caps) u):∃ds,RCs g.bare w caps ds/\u=.func b #[] ds.toArray:=by
 obtain⟨us,c,d⟩:=h;simp only[RC]at c;obtain⟨ds,f,rfl⟩:=c;exact⟨ds,f,d⟩
theorem zHX{x:V}{us:List Value}(h:RC g w x us):RV g w x (pack x us):=RV.of_RV1 ⟨us,h,rfl⟩
theorem zDI{x:V}(h:x.isOne=true):x.size=1:=by cases x<;>simp[V.isOne]at h<;>simp[V.size]
theorem yV:∀{fs:List V},zJ fs->jg fs=fs.length
 |[],_=>rfl
 |x::xs,h=>by
  simp only[zJ,zWK,zV5]at h;simp[jg,zDI h.1,yV (fs:=xs) h.2];omega
theorem zCT{x:V}{us:List Value}(h:RC g w x us)(b:x.isOne=true):∃u,us=[u]:=by
 have:=qc g w x us h;rw[zDI b]at this
 match us,this with
 |[u],_=>exact⟨u,rfl⟩
theorem yW:∀{fs:List V}{us:List Value}(_:zJ fs)(_:RCs g w fs us)(n:Nat),RCs g w (fs.take n) (us.take n)/\RCs g w (fs.drop n) (us.drop n)
 |[],us,_,h,n=>by simp only[RCs]at h;subst h;simp[RCs]
 |x::xs,us,b,h,n=>by
  simp only[zJ,zWK,zV5]at b;simp only[RCs]at h;obtain⟨k,c,rfl,d,f⟩:=h;obtain⟨u,rfl⟩:=zCT d b.1;cases n with
  |zero=>simp only[zWo,zWg];exact⟨by simp[RCs],by simp only[RCs];exact⟨[u],c,rfl,d,f⟩⟩
  |succ n=>
   obtain⟨i,j⟩:=yW (fs:=xs) (us:=c) b.2 f n;simp only[zWW,zWl,zWY,zWR];exact⟨by simp only[RCs];exact⟨[u],c.take n,rfl,d,i⟩,j⟩
theorem qZ:∀{fs b:List V}{us vs:List Value},RCs g w fs us->RCs g w b vs->RCs g w (fs++b) (us++vs)
 |[],b,us,vs,h,h'=>by simp only[RCs]at h;subst h;exact h'
 |x::xs,b,us,vs,h,h'=>by
  simp only[RCs]at h;obtain⟨c,d,rfl,f,i⟩:=h;simp only[zWY,RCs];exact⟨c,d++vs,by simp,f,qZ i h'⟩
theorem zOh{fs:List V}{us:List Value}(d:zJ fs)(h:RCs g w fs us)(i:Nat)(hi:i<fs.length):∃u,us[i]?=some u/\RC g w (fs.getD i .any) [u]:=by
 have c:=(yW d h i).2;rw[zWn hi]at c;simp only[RCs]at c;obtain⟨j,k,e,f,_⟩:=c;have b:(fs[i]).isOne=true:=by
  have:=zWL.1 d (fs[i]) (zXZ hi);exact this
 obtain⟨u,rfl⟩:=zCT f b;refine⟨u,?_,?_⟩
 .have:=zWp (λl=>l[0]?) e;simpa using this
 .simpa [hi]using f
theorem zMX{sz:Nat}:∀{es:List V}{ds:List Value},(∀x∈es,x.size=sz)->RCs g w es ds->∀(n:Nat),n<es.length->RC g w (es.getD n .any) ((ds.drop (n*sz)).take sz)
 |[],ds,_,_,n,d=>by simp at d
 |x::xs,ds,i,h,n,d=>by
  simp only[RCs]at h;obtain⟨b,c,rfl,j,k⟩:=h;have f:=qc g w x b j;rw[i x (by simp)]at f;cases n with
  |zero=>
   have:(List.drop (0*sz) (b++c)).take sz=b:=by rw[zX2,zWg,<-f];exact zYr
   rw[this];simpa using j
  |succ n=>
   have:=zMX (es:=xs) (ds:=c) (λy l=>i y (by simp[l])) k n (by simpa using d);have e:List.drop ((n+1)*sz) (b++c)=c.drop (n*sz):=by
    rw[zWs,zYC,zYZ,<-f,<-zZL,List.drop_left]
   rw[e];simpa using this
theorem At.sub{b o:Nat}{us:List Value}(h:At g w b o us)(n m:Nat):At g w b (o+n) ((us.drop n).take m):=by
 intro k u c;rw[zWb]at c;split at c
 .rw[zXG]at c;have:=h (n+k) u c;rw[zX7];exact this
 .cases c
theorem zGC{x:V}{us:List Value}(h:RC g w x us):RC g w (zx x) us:=by
 unfold zx;split
 .rename_i t f s es;simp only[RC]at h ⊢;rcases h with⟨rfl,c,i⟩|⟨b,o,cap,ds,c,j,k,l,m,n⟩
  .refine .inl ⟨rfl,c,?_⟩;obtain⟨_,rfl⟩:=i;simp[yL,zG4]
  .refine .inr ⟨b,o,cap,ds,c,j,?_,l,?_,n⟩
   .cases f with
    |false=>simp[zIK]
    |true=>
     have d:=k.2.2 rfl;have:es.isEmpty=false:=by cases es<;>simp at d ⊢
     simp[yL,this,zIK]
   .obtain⟨sz,p,r⟩:=m;refine⟨sz,p,λu q v e=>?_⟩;cases f<;>simp[yL]at e
    split at e<;>cases e
 .exact h
theorem zIW:∀{xs:List V}{us:List Value},RCs g w xs us->RCs g w (xs.map zx) us
 |[],us,h=>h
 |x::xs,us,h=>by
  simp only[RCs,zV6]at h ⊢;obtain⟨b,c,rfl,d,f⟩:=h;exact⟨b,c,rfl,zGC d,zIW f⟩
theorem zS1{x:V}{us:List Value}(h:RC g w x us):RC g w x.untag us:=by
 unfold V.untag;split
 .simp only[RC]at h ⊢;exact zIW h
 .exact zGC h
theorem zD2{x:V}{us:List Value}(h:RC g w x us)(j:x.isOne=true):RC g.bare w (zx x) us:=by
 have c:=zGC h;cases x with
 |any=>simp[V.isOne]at j
 |agg fs=>simp[V.isOne]at j
 |tup vs=>simp[V.isOne]at j
 |rptr x=>simp only[zx,RC]at c ⊢;exact c
 |ifx=>simp only[zx,RC]at c ⊢;exact c
 |clo y caps=>simp only[zx,RC]at c ⊢;exact c
 |lst tg es=>
  have d:∀tg',(∀t f s,tg'≠.own t f s)->RC g w (.lst tg' es) us->RC g.bare w (.lst tg' es) us:=by
   intro tg' i h;simp only[RC]at h ⊢;rcases h with⟨n,k,l⟩|⟨b,o,cap,ds,k,p,m,q,r,u⟩
   .refine .inl ⟨n,k,?_⟩;cases tg' with
    |nil=>exact l
    |no=>exact l
    |own t f s=>exact absurd rfl (i t f s)
   .refine .inr ⟨b,o,cap,ds,k,p,?_,q,r,u⟩;cases tg' with
    |nil=>exact m
    |no=>exact m
    |own t f s=>exact absurd rfl (i t f s)
  cases tg with
  |nil=>exact d _ (λ_ _ _ e=>by cases e) c
  |no=>exact d _ (λ_ _ _ e=>by cases e) c
  |own t f s=>
   simp only[zx]at c ⊢;refine d _ (λz v A e=>?_) c;cases f<;>simp[yL]at e
   split at e<;>cases e
 |_=>simpa [RC,zx]using c
theorem zDd:∀{xs:List V}{us:List Value},RCs g w xs us->zJ xs->RCs g.bare w (xs.map zx) us
 |[],us,h,_=>h
 |x::xs,us,h,b=>by
  simp only[zJ,zWK,zV5]at b;simp only[RCs,zV6]at h ⊢;obtain⟨c,d,rfl,f,i⟩:=h;exact⟨c,d,rfl,zD2 f b.1,zDd i b.2⟩
theorem zAo{x:V}{us:List Value}(h:RC g w x us)(b:zJ x.flat):RC g.bare w x.untag us:=by
 cases x with
 |agg fs=>simp only[RC,V.untag]at h ⊢;exact zDd h b
 |any=>simp[RC]at h
 |tup vs=>simp[RC]at h
 |_=>exact zD2 h rfl
theorem zCa(x:V)(us:List Value):pack x.untag us=pack x us:=by
 cases x<;>simp only[V.untag,zx,pack]
 rename_i tg es;cases tg<;>simp[zx,pack]
theorem RV1.untag{x:V}{u:Value}(h:RV1 g w x u):RV1 g w x.untag u:=by
 obtain⟨us,b,c⟩:=h;exact⟨us,zS1 b,by rw[zCa];exact c⟩
theorem zTN{x:V}{u:Value}(h:RV g w x u)(b:x≠.any)(c:∀vs,x≠.tup vs):RV1 g w x u:=by
 cases x with
 |any=>exact absurd rfl b
 |tup vs=>exact absurd rfl (c vs)
 |_=>exact h
end inv
section runs
variable{P:Program}
theorem zGL{t:TypeId}(h:hasT P t=true):∃i,P.info? t=some i/\i.size=P.cellsOf t/\i.bytes=P.bytesOf t/\i.zero=zAM P t:=by
 simp only[hasT,zV5,zXd]at h;obtain⟨⟨i,hi⟩,_⟩:=h;exact⟨i,hi,by simp[Program.cellsOf,hi],by simp[Program.bytesOf,hi],by simp[zAM,hi]⟩
theorem yc{t:TypeId}(h:hasT P t=true)(w:World):(sizeOf t).run P w=.ok (P.cellsOf t) w:=by
 obtain⟨i,hi,b,_⟩:=zGL h;simp[sizeOf,typeInfo,hi,b]
theorem zFC{t:TypeId}(h:hasT P t=true)(w:World):(isAgg t).run P w=.ok (xD P t) w:=by
 simp only[hasT,zV5,zXd]at h;obtain⟨_,⟨d,b⟩⟩:=h;simp only[isAgg,Sem.run_bind,run_underlying b,Result.andThen_ok,xD,b];cases d<;>rfl
theorem zJ5{t:TypeId}{n:Nat}(h:arrT P t=some n):∃e,P.underlying t=some (.array n e)/\hasT P e=true/\P.cellsOf e=1/\xD P e=false:=by
 unfold arrT at h;split at h
 .rename_i m e b;split at h
  .rename_i c;injection h with h
   subst h;exact⟨e,b,c⟩
  .cases h
 .cases h
theorem jB{t el:TypeId}(h:elT P t=some el):P.underlying t=some (.slice el):=by
 unfold elT at h;split at h
 .rename_i e;rw[e];injection h with h;rw[h]
 .cases h
theorem z7(b o n:Nat):(⟨b,o,none⟩:Addr).add n=⟨b,o+n,none⟩:=by unfold Addr.add;split<;>simp_all
theorem zGH{g:Gh}{w:World}{t:TypeId}{x:V}{b o:Nat}{ds:List Value}(q:fits P t x)(r:RC g w x ds)(l:∀(k:Nat) u,ds[k]?=some u->w.cell? ⟨b,o+k,none⟩=some u) :
 (loadVar t ⟨b,o,none⟩).run P w=.ok (pack x ds) w:=by
 obtain⟨m,n,d⟩:=q;have f:=qc g w x ds r;simp only[loadVar,Sem.run_bind,zFC m,Result.andThen_ok];cases c:x.isAgg with
 |true=>
  rw[c]at d;rw[<-d];cases x<;>simp[V.isAgg]at c
  rename_i fs;have h:(loadCells ⟨b,o,none⟩ ds.length).run P w=.ok ds.toArray w:=
   run_loadCells_list (P:=P) w ⟨b,o,none⟩ ds (λj v s=>by rw[z7];exact l j v s)
  rw[<-f]at n;simp only[zWE,Sem.run_bind,yc m,Result.andThen_ok,<-n,h];rfl
 |false=>
  rw[c]at d;rw[<-d];simp only[zWO,zWA];have i:x.size=1:=by
   cases x<;>simp[V.isAgg]at c<;>simp[V.size]
  rw[i]at f
  match ds,f with
  |[u],_=>
   have p:=l 0 u (by simp);have y:pack x [u]=u:=by cases x<;>simp[V.isAgg]at c<;>rfl
   rw[y];simp only[zW0]at p;simp[load,Sem.run,p]
theorem zJd{g:Gh}{w:World}{t:TypeId}{fs:List V}{b:Nat}{us:List Value}(i:zJ fs)(n:yO P t fs b)(h:RCs g w fs us) :
 RC g w (yN P t fs b) ((us.drop b).take (P.cellsOf t))/\(yN P t fs b).isAgg=xD P t/\(yN P t fs b).size=P.cellsOf t:=by
 obtain⟨z,A,p⟩:=n;have q:=yG g w fs us h;rw[yV i]at q;unfold yN;cases r:xD P t with
 |true=>
  simp only[zWE];have f:zJ (fs.drop b):=by
   unfold zJ at i ⊢;rw[zWL]at i ⊢;exact λx l=>i x (zXW l)
  have s:=(yW f (yW i h b).2 (P.cellsOf t)).1;have j:zJ ((fs.drop b).take (P.cellsOf t)):=by
   unfold zJ at f ⊢;rw[zWL]at f ⊢;exact λx l=>f x (zW2 l)
  refine⟨by simp only[RC];exact s,rfl,?_⟩;simp only[V.size];rw[yV j];simp;omega
 |false=>
  simp only[zWO,zWA];have m:=p r;obtain⟨u,k,v⟩:=zOh i h b (by omega);have c:(fs.getD b .any).isOne=true:=by
   have d:b<fs.length:=by omega
   have:=zWL.1 i (fs[b]) (zXZ d);simpa [d]using this
  refine⟨?_,?_,?_⟩
  .rw[m];have:(us.drop b).take 1=[u]:=by
    have d:b<us.length:=by omega
    rw[zWn d];simp only[zWW,zWo];rw[zWX d]at k;injection k with k
    rw[k]
   rw[this];exact v
  .cases y:fs.getD b .any<;>rw[y]at c<;>simp[V.isOne]at c<;>rfl
  .rw[zDI c,m]
end runs
open Go.RowKit
def zIB(X:Cx)(g:Gh)(w:World)(o:Oper)(a:Act)(K:V->S->Prop):Act->World->Prop:=
 λa' w'=>∃u v g' b,a'=a.put o.dst u/\Out X.B g w g' b w'/\RV g' w' v u/\K v b
def zH1(X:Cx)(g:Gh)(w:World)(a:Act)(KP:List PanicEntry->S->Prop):Exit->Act->World->Prop:=
 λex a' w'=>∃c g' b,ex=.panic c/\a'=a/\Out X.B g w g' b w'/\KP c b
section
variable{P:Program}{X:Cx}{g:Gh}{w:World}{a:Act}{o:Oper}{st:S}{K:V->S->Prop}{KP:List PanicEntry->S->Prop}
theorem jX{w':World}{u:Value}{Q:Exit->Act->World->Prop}{K:Act->World->Prop}(h:(execOp a.eval o).run P w=.ok (.value u) w')(b:K (a.put o.dst u) w'):o.wp P a w K Q:=by
 unfold Oper.wp Oper.upon;rw[h];exact b
theorem zId{w':World}{Q:Exit->Act->World->Prop}{K:Act->World->Prop}(h:(execOp a.eval o).run P w=.ok .skip w')(b:K (a.put o.dst undef) w'):o.wp P a w K Q:=by
 unfold Oper.wp Oper.upon;rw[h];exact b
theorem yu(hi:Inv X.B g st w){u:Value}{v:V}(h:(execOp a.eval o).run P w=.ok (.value u) w)(b:RV g w v u)(c:K v st):o.wp P a w (zIB X g w o a K) (zH1 X g w a KP):=
 jX h ⟨u,v,g,st,rfl,.refl hi,b,c⟩
theorem xJ{s:Sem Value}{u:Value}{w':World}(h:s.run P w=.ok u w'):((do pure (Next.value (<-s))):Sem Next).run P w=.ok (.value u) w':=by
 simp[Sem.run_bind,h]
theorem zK2{s:Sem Unit}{w':World}(h:s.run P w=.ok () w'):((do s;pure Next.skip):Sem Next).run P w=.ok .skip w':=by
 simp[Sem.run_bind,h]
theorem zPT{c x y:V}{K:V->Prop}(h:zB4 c x y K){b d f:Value}(i:RV g w c b)(j:RV g w x d)(k:RV g w y f) :
 ∃v t,K v/\b=.bool t/\RV g w v (if t then d else f):=by
 unfold zB4 at h;split at h
 .rename_i t;refine⟨_,t,h,zr i,?_⟩;cases t<;>simpa
 .cases h
theorem zQ8{b:BinOp}{k c:IntKind}{x y:Int}{K:V->Prop}(i:k=c\/b=.shl\/b=.shr)(h:aInt b k x y K):∃v,K (.at v)/\one v=true/\(Go.binOp b 0 (.int k x) (.int c y)).run P w=.ok v w/\(∀t,Go.binOp b t (.int k x) (.int c y)=Go.binOp b 0 (.int k x) (.int c y)):=by
 have d:¬(b=.shl\/b=.shr)->k=c:=λj=>by
  rcases i with h|h
  .exact h
  .exact absurd h j
 cases b<;>simp only[aInt]at h
 case shl=>exact⟨_,h.2,rfl,by have f:¬y<0:=(by omega);simp[Go.binOp,Op.shift,f,ishl],λ_=>rfl⟩
 case shr=>exact⟨_,h.2,rfl,by have f:¬y<0:=(by omega);simp[Go.binOp,Op.shift,f,ishr],λ_=>rfl⟩
 all_goals obtain rfl:=d (by simp)
 case quo=>exact⟨_,h.2,rfl,by simp[Go.binOp,Op.intDiv,h.1],λ_=>rfl⟩
 case rem=>exact⟨_,h.2,rfl,by simp[Go.binOp,Op.intDiv,h.1],λ_=>rfl⟩
 case and=>exact⟨_,h,rfl,by simp[Go.binOp,Op.intBits,iand,ibit],λ_=>rfl⟩
 case or=>exact⟨_,h,rfl,by simp[Go.binOp,Op.intBits,ior,ibit],λ_=>rfl⟩
 case xor=>exact⟨_,h,rfl,by simp[Go.binOp,Op.intBits,ixor,ibit],λ_=>rfl⟩
 case andNot=>exact⟨_,h,rfl,by simp[Go.binOp,Op.intBits,zPO,ibit],λ_=>rfl⟩
 all_goals exact⟨_,h,rfl,by simp[Go.binOp,Op.intArith,Op.intCmp],λ_=>rfl⟩
theorem zSI{b:BinOp}{x y:ByteArray}{K:V->Prop}(h:aStr b x y K)(t:TypeId):∃v,K (.at v)/\one v=true/\(Go.binOp b t (.string x) (.string y)).run P w=.ok v w:=by
 cases b<;>simp only[aStr]at h
 case add=>
  refine⟨_,h.2,rfl,?_⟩;have:¬(((x.size+y.size:Nat):Int) > IntKind.i64.max):=by have:=h.1;omega
  simp only[Go.binOp,Op.stringOp,if_neg this];rfl
 all_goals exact⟨_,h,rfl,by simp[Go.binOp,Op.stringOp]⟩
theorem xB{b:BinOp}{t:TypeId}{x y:Operand}{u v:Value}(h:u≠.nilIface)(c:one u=true):(eqGuard b t x y u v).run P w=.ok () w:=by
 cases u<;>first|(exact absurd rfl h)|(simp[one]at c;done)|skip
 all_goals
  unfold eqGuard;cases b<;>simp
theorem zMr{t:TypeId}(h:zGk P t=true):P.underlying t=some .bool:=by
 unfold zGk at h;split at h
 .rename_i e;exact e
 .cases h
theorem kQ{t:TypeId}(h:kN P t=true):P.underlying t=some .string:=by
 unfold kN at h;split at h
 .rename_i e;exact e
 .cases h
theorem zEF{t:TypeId}(b:P.underlying t=some .bool)(p q:Bool)(w:World):(Op.equal t (.bool p) (.bool q)).run P w=.ok (p==q) w:=by
 show(Op.equalIn (9999+1) t (.bool p) (.bool q)).run P w=_;generalize 9999=d;unfold Op.equalIn;simp only[Sem.run_bind,run_underlying b,Result.andThen_ok,Sem.run_pure]
theorem zFT{t el:TypeId}(f:P.underlying t=some (.slice el))(b:Option Addr)(n c:Nat)(w:World):(Op.equal t (.slice b n c) (.slice none 0 0)).run P w=.ok b.isNone w:=by
 show(Op.equalIn (9999+1) t (.slice b n c) (.slice none 0 0)).run P w=_;generalize 9999=d;unfold Op.equalIn;cases b<;>simp only[Sem.run_bind,run_underlying f,Result.andThen_ok,Sem.run_pure,Option.isNone]
theorem zAR{b:BinOp}{x y:Bool}{K:V->Prop}(h:kW b x y K):(b=.eql/\K (.at (.bool (x==y))))\/(b=.neq/\K (.at (.bool (!(x==y))))):=by
 cases b<;>simp only[kW]at h
 .exact .inl ⟨rfl,h⟩
 .exact .inr ⟨rfl,h⟩
theorem zRf{tg:Tag}{es:List V}{u:Value}(h:RC g w (.lst tg es) [u]):∃f n c,u=.slice f n c/\f.isNone=nilB tg es:=by
 simp only[RC]at h;rcases h with⟨rfl,d,i⟩|⟨b,o,cap,ds,d,l,j,m,p,q⟩
 .injection d with d _
  refine⟨none,0,0,d,?_⟩;cases tg with
  |nil=>rfl
  |no=>exact i.elim
  |own t k s=>obtain⟨_,rfl⟩:=i;rfl
 .injection d with d _
  refine⟨some _,_,_,d,?_⟩;cases tg with
  |nil=>exact j.elim
  |no=>rfl
  |own t k s=>
   cases k with
   |false=>rfl
   |true=>have:=j.2.2 rfl;cases es<;>simp at this ⊢;simp[nilB]
theorem zQr{u:BinOp}{t:TypeId}{x y:V}{K:V->Prop}(h:aBin P u t x y K){z s:Value}(l:RV g w x z)(m:RV g w y s)(ox oy:Operand) :
 ∃v,K (.at v)/\one v=true/\((do eqGuard u t ox oy z s;Go.binOp u t z s):Sem Value).run P w=.ok v w:=by
 unfold aBin at h;split at h
 .rename_i k p J q;obtain⟨F,h⟩:=h;have i:=zr l;have f:=zr m;subst i;subst f;obtain⟨v,A,B,C,G⟩:=zQ8 (P:=P) (w:=w) F h;exact⟨v,A,B,by rw[Sem.run_bind,xB (by simp) rfl,Result.andThen_ok,G t,C]⟩
 .obtain⟨H,h⟩:=h;have i:=zr l;have f:=zr m;subst i;subst f;have d:=zMr H;rcases zAR h with⟨rfl,h⟩|⟨rfl,h⟩
  .exact⟨_,h,rfl,by rw[Sem.run_bind,xB (by simp) rfl,Result.andThen_ok];simp only[Go.binOp,Sem.run_bind,zEF d,Result.andThen_ok,Sem.run_pure]⟩
  .exact⟨_,h,rfl,by rw[Sem.run_bind,xB (by simp) rfl,Result.andThen_ok];simp only[Go.binOp,Sem.run_bind,zEF d,Result.andThen_ok,Sem.run_pure]⟩
 .have i:=zr l;have f:=zr m;subst i;subst f;obtain⟨v,A,B,C⟩:=zSI (P:=P) (w:=w) h t;exact⟨v,A,B,by rw[Sem.run_bind,xB (by simp) rfl,Result.andThen_ok,C]⟩
 .rename_i tg es;obtain⟨j,h⟩:=h;obtain⟨el,j⟩:=zXd.1 j;have d:=jB j;obtain⟨L,n,c,rfl,E⟩:=zRf (zBQ l);have r:=zBQ m;simp only[RC]at r;have f:s=.slice none 0 0:=by
   rcases r with⟨_,d,_⟩|⟨b,o,cap,ds,_,_,I,_⟩
   .injection d
   .exact I.elim
  subst f;rcases zAR h with⟨rfl,h⟩|⟨rfl,h⟩
  .refine⟨_,h,rfl,?_⟩;rw[Sem.run_bind,xB (by simp) rfl,Result.andThen_ok];simp only[Go.binOp,Sem.run_bind,zFT d,Result.andThen_ok,Sem.run_pure,E];cases nilB tg es<;>rfl
  .refine⟨_,h,rfl,?_⟩;rw[Sem.run_bind,xB (by simp) rfl,Result.andThen_ok];simp only[Go.binOp,Sem.run_bind,zFT d,Result.andThen_ok,Sem.run_pure,E];cases nilB tg es<;>rfl
 .rename_i p;obtain⟨D,h⟩:=h;have i:=zr l;have f:=zr m;subst i;subst f;have d:P.underlying t=some (.pointer (P.pointee t)):=by
   unfold zQa at D;unfold Program.pointee;split at D
   .rename_i e;rw[e]
   .cases D
  rcases zAR h with⟨rfl,h⟩|⟨rfl,h⟩
  .exact⟨_,h,rfl,by rw[Sem.run_bind,xB (by simp) rfl,Result.andThen_ok,run_eql_pointer_nil w t p d];simp⟩
  .exact⟨_,h,rfl,by rw[Sem.run_bind,xB (by simp) rfl,Result.andThen_ok,run_neq_pointer_nil w t p d];simp⟩
 .cases h
theorem zHF{t:TypeId}(h:zFg P t=true):∃b,P.underlying t=some (.interface b):=by
 unfold zFg at h;split at h
 .rename_i e;exact⟨_,e⟩
 .cases h
theorem zFR{t ty:TypeId}{p:Value}{ms}(b:P.underlying t=some (.interface ms))(w:World):(Op.equal t (.iface ty p) .nilIface).run P w=.ok false w:=by
 show(Op.equalIn (9999+1) t (.iface ty p) .nilIface).run P w=_;generalize 9999=d;unfold Op.equalIn;simp only[Sem.run_bind,run_underlying b,Result.andThen_ok,Sem.run_pure]
theorem zDT{t:TypeId}{ms}(b:P.underlying t=some (.interface ms))(w:World):(Op.equal t .nilIface .nilIface).run P w=.ok true w:=by
 show(Op.equalIn (9999+1) t .nilIface .nilIface).run P w=_;generalize 9999=d;unfold Op.equalIn;simp only[Sem.run_bind,run_underlying b,Result.andThen_ok,Sem.run_pure]
theorem zHJ{b:BinOp}{t:TypeId}{x y:Operand}(h:zGo y=true):(eqGuard b t x y .nilIface .nilIface).run P w=.ok () w:=by
 cases y<;>first|cases h|skip
 unfold eqGuard;cases b<;>simp
theorem RV_ifx{u:Value}(h:RV g w .ifx u):∃t p,u=.iface t p:=by
 obtain⟨us,b,c⟩:=h;simp only[RC]at b;obtain⟨t,p,rfl⟩:=b;exact⟨t,p,c⟩
theorem zHS:∀{us vs:List Value},RCs g w (us.map V.at) vs->vs=us
 |[],vs,h=>by simpa [RCs]using h
 |u::r,vs,h=>by
  simp only[zV6,RCs]at h;obtain⟨d,f,rfl,b,c⟩:=h;simp only[RC]at b;rw[b.1,zHS c];rfl
theorem zF6{us vs:List Value}(q:zBY us vs=true)(d:Nat):∀(fs:List Field),fs.all (zMG P us vs)=true->(Op.eqFields (d+1) us.toArray vs.toArray fs).run P w=.ok (fs.all λf=>f.name== "_"||eqAt us[f.offset]? vs[f.offset]?) w
 |[],_=>by simp[Op.eqFields]
 |f::fs,h=>by
  simp only[zWK,zV5]at h;obtain⟨p,x⟩:=h;have r:=zF6 (us:=us) (vs:=vs) q d fs x;unfold zMG at p;simp only[zV5,zXE]at p;obtain⟨⟨y,z⟩,s⟩:=p;have t:∀(us:List Value) u,us[f.offset]?=some u->(part f.type us.toArray f.offset).run P w=.ok u w:=λus u c=>by
   unfold part;simp only[Sem.run_bind,zFC y,Result.andThen_ok,z];simp[c]
  have j:∀u v,us[f.offset]?=some u->vs[f.offset]?=some v->(Op.equalIn (d+1) f.type u v).run P w=.ok (eqAt us[f.offset]? vs[f.offset]?) w->(Op.eqFields (d+1) us.toArray vs.toArray (f::fs)).run P w=.ok ((f::fs).all λf=>f.name== "_"||eqAt us[f.offset]? vs[f.offset]?) w:=λu v c i A=>by
   unfold Op.eqFields;simp only[zWK];split
   .rename_i l;have e0:(f.name== "_")=false:=by simpa using l
    simp only[Sem.run_bind,t us u c,t vs v i,Result.andThen_ok,A,e0,zYg];cases eqAt us[f.offset]? vs[f.offset]?
    .simp
    .simpa using r
   .rename_i l;have e0:(f.name== "_")=true:=by simpa using l
    simpa [e0]using r
  split at s
  .rename_i k n F B C c i m;obtain rfl:=zMR q c i;refine j _ _ c i ?_;rw[run_equalIn_int w d f.type k C n B m,c,i];rfl
  .rename_i b D c i m;refine j _ _ c i ?_;rw[run_equalIn_bool' w d f.type b D m,c,i];rfl
  .rename_i E sy c i m;refine j _ _ c i ?_;rw[run_equalIn_string w d f.type E sy m,c,i];rfl
  .cases s
theorem zVB{t:TypeId}{us vs:List Value}(h:zFL P t us vs=true)(f:zBY us vs=true):(Op.equalIn 10000 t (.agg us.toArray) (.agg vs.toArray)).run P w=.ok (zEv P t us vs) w/\P.eqGuardType P.depth t=false:=by
 unfold zFL at h;simp only[zV5,zXE]at h;obtain⟨⟨b,i⟩,j⟩:=h;refine⟨?_,j⟩;split at b
 .rename_i fs c;have d:P.fieldsOf t=fs:=by unfold Program.fieldsOf;rw[c]
  rw[run_equalIn_struct w 9999 t _ _ (by rw[d];exact c) i];unfold zEv;rw[d];exact zF6 f 9998 fs.toList b
 .cases b
theorem zPn{j:BinOp}{t:TypeId}{x y:V}{K:V->Prop}{ox oy:Operand}(h:zB8 P j t (zGo oy) x y K){k l:Value}(d:RV g w x k)(f:RV g w y l) :
 ∃v,K (.at v)/\one v=true/\((do eqGuard j t ox oy k l;Go.binOp j t k l):Sem Value).run P w=.ok v w:=by
 unfold zB8 at h;split at h
 .obtain⟨hi,h⟩:=h;obtain⟨q,c⟩:=zHF hi;obtain⟨ty,p,rfl⟩:=RV_ifx d;have b:=zr f;subst b;rcases zAR h with⟨rfl,h⟩|⟨rfl,h⟩
  .exact⟨_,h,rfl,by rw[Sem.run_bind,xB (by simp) rfl,Result.andThen_ok];simp only[Go.binOp,Sem.run_bind,zFR c,Result.andThen_ok,Sem.run_pure];rfl⟩
  .exact⟨_,h,rfl,by rw[Sem.run_bind,xB (by simp) rfl,Result.andThen_ok];simp only[Go.binOp,Sem.run_bind,zFR c,Result.andThen_ok,Sem.run_pure];rfl⟩
 .obtain⟨hi,m,h⟩:=h;obtain⟨q,c⟩:=zHF hi;have i:=zr d;have b:=zr f;subst i;subst b;rcases zAR h with⟨rfl,h⟩|⟨rfl,h⟩
  .exact⟨_,h,rfl,by rw[Sem.run_bind,zHJ m,Result.andThen_ok];simp only[Go.binOp,Sem.run_bind,zDT c,Result.andThen_ok,Sem.run_pure];rfl⟩
  .exact⟨_,h,rfl,by rw[Sem.run_bind,zHJ m,Result.andThen_ok];simp only[Go.binOp,Sem.run_bind,zDT c,Result.andThen_ok,Sem.run_pure];rfl⟩
 .obtain⟨us,vs,rfl,rfl,n,h⟩:=h;obtain⟨u,r,rfl⟩:=zDV d;obtain⟨z,s,rfl⟩:=zDV f;obtain rfl:=zHS r;obtain rfl:=zHS s;obtain⟨i,b⟩:=zVB (w:=w) n.1 n.2;rcases zAR h with⟨rfl,h⟩|⟨rfl,h⟩
  .exact⟨_,h,rfl,by rw[Sem.run_bind,run_eqGuard_agg w _ _ _ _ _ _ b,Result.andThen_ok,run_eql_struct,i];simp[Result.andThen]⟩
  .exact⟨_,h,rfl,by rw[Sem.run_bind,run_eqGuard_agg w _ _ _ _ _ _ b,Result.andThen_ok,run_neq_struct,i];simp[Result.andThen]⟩
 .exact zQr h d f ox oy
theorem zQZ{t:TypeId}{k:IntKind}(h:intT P t=some k):P.underlying t=some (.int k):=by
 unfold intT at h;split at h
 .rename_i e;injection h with h;subst h;exact e
 .cases h
theorem zIe{g:Gh}{w:World}:∀{es:List V}{c:List Int}{us:List Value},zAX es=some c->RCs g w es us->us=c.map (Value.int .u8)
 |[],_,us,h,b=>by
  injection h with h;subst h
  simpa [RCs]using b
 |x::r,c,us,h,b=>by
  simp only[RCs]at b;obtain⟨l,m,rfl,f,i⟩:=b;unfold zAX at h;split at h
  .rename_i e;cases e
  .rename_i n p e;injection e with j k
   subst j k;cases d:zAX r with
   |none=>rw[d]at h;cases h
   |some q=>
    rw[d]at h;injection h with h
    subst h;simp only[RC]at f;rw[f.1,zIe d i];rfl
  .cases h
theorem zNX{t:TypeId}(h:zI2 P t=true):∃e,P.underlying t=some (.slice e)/\P.underlying e=some (.int .u8):=by
 unfold zI2 at h;split at h
 .rename_i e b;simp only[zV5]at h;refine⟨e,jB b,?_⟩;have:=h.1.1;split at this
  .rename_i c;exact c
  .cases this
 .cases h
theorem zH8:∀{es:List V}{b:List Int},zAX es=some b->b.length=es.length
 |[],b,h=>by injection h with h;subst h;rfl
 |x::r,b,h=>by
  unfold zAX at h;split at h
  .rename_i e;cases e
  .rename_i n i e;injection e with d f
   subst d f;cases c:zAX r with
   |none=>rw[c]at h;cases h
   |some j=>rw[c]at h;injection h with h;subst h;simp[zH8 c]
  .cases h
theorem zO4{f t:TypeId}{x:V}{K:V->Prop}(h:zFA P f t x K){C:Value}(s:RV g w x C):∃v,K (.at v)/\one v=true/\(Go.convert f t C).run P w=.ok v w:=by
 unfold zFA at h;split at h
 .rename_i tg es;obtain⟨l,u,h⟩:=h;obtain⟨e,q,m⟩:=zNX l;have n:=kQ u;split at h
  .rename_i D i;have r:=zBQ s;simp only[RC]at r;refine⟨_,h,rfl,?_⟩;rcases r with⟨rfl,c,_⟩|⟨b,o,cap,ds,c,J,_,r,_,F⟩
   .injection c with c _
    subst c;injection i with i
    subst i;rw[run_convert_bytes_string w f t e none 0 0 q m n];rfl
   .injection c with c _
    subst c;have y:=zIe i r;subst y;rw[run_convert_bytes_string w f t e _ _ _ q m n];refine run_bytesToString w _ _ _ D ?_;have E:=run_loadCells_list (P:=P) (w:=w) ⟨b,o,none⟩ (D.map (Value.int .u8)) (λj v G=>by
     have:=(F j v G).1;by_cases p:j=0
     .subst p;simpa [Addr.add]using this
     .simpa [Addr.add,p]using this)
    rw[zWG,zH8 i]at E;exact E
  .cases h
 .have z:=zr s;subst z;split at h
  .rename_i k H;obtain⟨l,h⟩:=h;have q:=zQZ H;unfold hasT at l;simp only[zV5]at l;obtain⟨d,I⟩:=zXd.1 l.2;refine⟨_,h,rfl,?_⟩;unfold Go.convert;simp only[Sem.run_bind,run_underlying I,run_underlying q,Result.andThen_ok];rfl
  .cases h
 .have z:=zr s;subst z;obtain⟨l,u,h⟩:=h;have A:=kQ l;have B:=kQ u;refine⟨_,h,rfl,?_⟩;unfold Go.convert;simp only[Sem.run_bind,run_underlying A,run_underlying B,Result.andThen_ok,Sem.run_pure]
 .cases h
theorem zTU{c:UnOp}{x:V}{K:V->Prop}(h:aUn c x K){d:Value}(f:RV g w x d):∃v,K (.at v)/\one v=true/\(Op.unary c d).run P w=.ok v w:=by
 unfold aUn at h;split at h
 .have b:=zr f;subst b;split at h
  .exact⟨_,h,rfl,by simp[Op.unary]⟩
  .cases h
 .have b:=zr f;subst b;split at h
  .exact⟨_,h,rfl,by simp[Op.unary,Op.intArith]⟩
  .exact⟨_,h,rfl,by simp[Op.unary,Op.intBits,inot,ixor,ibit]⟩
  .cases h
 .cases h
theorem zKw{x:V}{i:Nat}{K:V->Prop}(h:kn x i K){b:Value}(c:RV g w x b):∃v u,K v/\RV g w v u/\(Instr.extract b i).run P w=.ok u w:=by
 unfold kn at h;split at h
 .rename_i vs;obtain⟨us,d,rfl⟩:=c;obtain⟨u,f,j⟩:=d.get i (vs[i]'h.1) (zWX h.1);refine⟨_,u,h.2,?_,?_⟩
  .have:vs.getD i .any=vs[i]'h.1:=by simp[h.1]
   rw[this];exact RV.of_RV1 j
  .simp[Instr.extract,f]
 .cases h
theorem zF1{t:TypeId}{i b:Nat}{d:TypeId}(h:fieldAt P t i=some (b,d)):∃fs f,P.underlying t=some (.struct fs)/\fs[i]?=some f/\f.offset=b/\f.type=d:=by
 unfold fieldAt at h;split at h
 .rename_i fs e;cases c:fs[i]? with
  |none=>simp[c]at h
  |some f=>simp[c]at h;exact⟨fs,f,e,c,h.1,h.2⟩
 .cases h
theorem zS6{t:TypeId}{fs:List V}{b:Nat}{us:List Value}(i:zJ fs)(l:yO P t fs b)(h:RCs g w fs us) :
 (part t us.toArray b).run P w=.ok (pack (yN P t fs b) ((us.drop b).take (P.cellsOf t))) w:=by
 have n:=l;obtain⟨m,v,p⟩:=l;have q:=yG g w fs us h;rw[yV i]at q;unfold part;simp only[Sem.run_bind,zFC m,Result.andThen_ok];cases j:xD P t with
 |true=>
  simp only[zWE,Sem.run_bind,yc m,Result.andThen_ok,yN,j,pack];simp only[zYl,zX9];simp
 |false=>
  simp only[zWO,zWA,yN,j];have r:=p j;obtain⟨u,f,x⟩:=zOh i h b (by omega);have c:b<us.length:=by omega
  have e:(us.drop b).take (P.cellsOf t)=[u]:=by
   rw[r,zWn c];rw[zWX c]at f;injection f with f
   simp[f]
  have d:(fs.getD b .any).isOne=true:=by
   have c:b<fs.length:=by omega
   have:=zWL.1 i (fs[b]) (zXZ c);simpa [c]using this
  have k:pack (fs.getD b .any) [u]=u:=by cases s:fs.getD b .any<;>rw[s]at d<;>simp[V.isOne]at d<;>rfl
  rw[e,k];simp[f]
theorem zIR{t:TypeId}{x:V}{f:Nat}{K:V->Prop}(h:yY P t x f K){n:Value}(p:RV g w x n):∃v u,K v/\RV g w v u/\(Instr.fieldAt t n f).run P w=.ok u w:=by
 unfold yY at h;split at h
 .rename_i fs i r c;obtain⟨j,d,k,l,rfl,rfl⟩:=zF1 c;obtain⟨b,o,ds,rfl,q,s⟩:=zCy p;simp only[RC]at q;refine⟨_,.pointer (some ⟨b,o+d.offset,none⟩),h.2.2.2,zCg (zJd h.1 h.2.1 q).1 (s.sub _ _),?_⟩;have m:¬P.cellsOf d.type=0:=by have:=h.2.2.1;omega
  simp[Instr.fieldAt,run_underlying k,l,Instr.sureAddr,fieldPlace,yc h.2.1.1,m,z7]
 .rename_i b o i r c;obtain⟨j,d,k,l,rfl,rfl⟩:=zF1 c;have y:=zr p;subst y;have m:¬P.cellsOf d.type=0:=by have:=h.2.1;omega
  refine⟨_,.pointer (some ⟨b,o+d.offset,none⟩),h.2.2,RV_at_mk rfl,?_⟩;simp[Instr.fieldAt,run_underlying k,l,Instr.sureAddr,fieldPlace,yc h.1,m,z7]
 .cases h
theorem zI5{t:TypeId}{x i:V}{K:V->Prop}(h:ym P t x i K){y z:Value}(A:RV g w x y)(hi:RV g w i z):∃v u,K v/\RV g w v u/\(Instr.indexAt t y z).run P w=.ok u w:=by
 unfold ym at h;split at h
 .rename_i el tg es k n c;obtain⟨m,l,C,p⟩:=h;have q:=jB c;have r:=zr hi;subst r;have B:=zBQ A;simp only[RC]at B;rcases B with⟨rfl,_,_⟩|⟨b,o,cap,ds,d,H,I,D,E,F⟩
  .simp at l;omega
  .injection d with d _
   subst d;obtain⟨sz,f,_⟩:=E;have s:n.toNat<es.length:=by omega
   have j:sz=P.cellsOf el:=by
    rw[<-C,<-f (es[n.toNat]) (zXZ s)];simp[s]
   refine⟨_,.pointer (some ⟨b,o+n.toNat*sz,none⟩),p,zCg (zMX f D n.toNat s) (F.sub _ _),?_⟩;simp[Instr.indexAt,asIntOf,run_underlying q,l,yc m,z7,j]
 .rename_i el b o len cap k n c;obtain⟨m,l,p⟩:=h;have q:=jB c;have r:=zr hi;subst r;have G:=zr A;subst G;refine⟨_,.pointer (some ⟨b,o+n.toNat*P.cellsOf el,none⟩),p,RV_at_mk rfl,?_⟩;simp[Instr.indexAt,asIntOf,run_underlying q,l,yc m,z7]
 .cases h
theorem zNg{t:TypeId}{x i:V}{K:V->Prop}(h:kp P t x i K){A B:Value}(C:RV g w x A)(hi:RV g w i B):∃v u,K v/\RV g w v u/\(Instr.index t A B).run P w=.ok u w:=by
 unfold kp at h;split at h
 .rename_i s k n;obtain⟨j,c,l⟩:=h;have m:=kQ j;have G:=zr C;have p:=zr hi;subst G;subst p;refine⟨_,_,l,RV_at_mk rfl,?_⟩;have q:n.toNat<s.size:=by omega
  have r:n.toNat<s.data.size:=q;have:s[n.toNat]?=some (s.data.getD n.toNat 0):=by
   rw[getElem?_pos s n.toNat q];simp only[Array.getD,r,dif_pos];rfl
  simp only[Instr.index,asIntOf,Sem.run_bind,Sem.run_pure,Result.andThen_ok,run_underlying m,if_pos c.1,this]
 .rename_i fs k n;obtain⟨j,c,l,H⟩:=h;obtain⟨e,m,D,f,I⟩:=zJ5 j;have p:=zr hi;subst p;obtain⟨us,y,rfl⟩:=zDV C;have d:=yG g w fs us y;rw[yV c]at d;have q:n.toNat<us.length:=by omega
  have J:n.toNat<fs.length:=by omega
  have E:yO P e fs n.toNat:=⟨D,by rw[f];omega,λ_=>f⟩;obtain⟨F,_,_⟩:=zJd c E y;have b:=zS6 (w:=w) c E y;have z:yN P e fs n.toNat=fs.getD n.toNat .any:=by unfold yN;rw[I];rfl
  rw[z]at F b;refine⟨_,_,H,zHX F,?_⟩;simp only[Instr.index,asIntOf,Sem.run_bind,Sem.run_pure,Result.andThen_ok,run_underlying m,if_pos l,yc D,f,Nat.mul_one];rw[b,f]
 .cases h
theorem zRT{t:TypeId}{x:V}{K:V->Prop}(h:aLen P t x K){l:Value}(j:RV g w x l)(i:List TypeId)(ty:TypeId):∃v,K (.at v)/\one v=true/\(Builtin.len_ (t::i).toArray ty #[l]).run P w=.ok v w:=by
 unfold aLen at h;split at h
 .rename_i tg es;obtain⟨el,d⟩:=zXd.1 h.1;have f:=jB d;have m:=zBQ j;simp only[RC]at m;refine⟨_,h.2,rfl,?_⟩;rcases m with⟨rfl,c,_⟩|⟨b,o,cap,ds,c,_⟩
  .injection c with c _
   subst c;simp[Builtin.len_,run_underlying f,goInt]
  .injection c with c _
   subst c;simp[Builtin.len_,run_underlying f,goInt]
 .obtain⟨el,d⟩:=zXd.1 h.1;have f:=jB d;have k:=zr j;subst k;exact⟨_,h.2,rfl,by simp[Builtin.len_,run_underlying f,goInt]⟩
 .have f:=kQ h.1;have k:=zr j;subst k;exact⟨_,h.2,rfl,by simp[Builtin.len_,run_underlying f,goInt]⟩
 .cases h
theorem zJT{x:V}{K:V->Prop}(h:xQ x K){c:Value}(d:RV g w x c):K x/\∃f,c=.pointer (some f):=by
 unfold xQ at h;split at h
 .obtain⟨b,o,ds,rfl,_⟩:=zCy d;exact⟨h,_,rfl⟩
 .exact⟨h,_,zr d⟩
 .cases h
theorem kR{x:Option V}{d:Int}{K:Int->Prop}(h:jR x d K){b:Option Value}(c:∀v,x=some v->∃u,b=some u/\RV g w v u)(f:x=none->b=none) :
 ∃n,K n/\((x=none/\b=none/\n=d)\/∃k,b=some (.int k n)):=by
 unfold jR at h;split at h
 .exact⟨_,h,.inl ⟨rfl,f rfl,rfl⟩⟩
 .rename_i k n;obtain⟨u,rfl,i⟩:=c _ rfl;exact⟨_,h,.inr ⟨k,by rw[zr i]⟩⟩
 .cases h
theorem zAP{k:IntKind}{n:Int}{y:Nat}{c:BoundsCode}(b:0<=n)(d:n<=y):(Instr.sliceBound (.int k n) y c).run P w=.ok n.toNat w:=by
 simp[Instr.sliceBound,asIntOf,b,d]
theorem jP{isS:Bool}{len cap:Nat}{lo hi:Option Value}{l h:Int}(d:(lo=none/\l=0)\/∃k,lo=some (.int k l))(f:(hi=none/\h=len)\/∃k,hi=some (.int k h))
 (b:0<=l) (i:l<=h) (c:h<=cap):(Instr.sliceBounds isS len cap lo hi none).run P w=.ok (l.toNat,h.toNat,cap) w:=by
 unfold Instr.sliceBounds;have e:((h.toNat:Nat):Int)=h:=by omega
 rcases f with⟨rfl,rfl⟩|⟨k,rfl⟩<;>rcases d with⟨rfl,rfl⟩|⟨j,rfl⟩
 .simp
 .simp only[Sem.run_bind,Sem.run_pure,Result.andThen_ok];rw[zAP b i];simp
 .simp only[Sem.run_bind,Sem.run_pure,Result.andThen_ok];rw[zAP (by omega) c];simp
 .simp only[Sem.run_bind,Sem.run_pure,Result.andThen_ok];rw[zAP (by omega) c];simp only[Result.andThen_ok];rw[zAP b (by omega)];simp
end
open Go.RowKit
section
variable{P:Program}{X:Cx}{g:Gh}{w:World}{a:Act}{o:Oper}{st:S}{K:V->S->Prop}{KP:List PanicEntry->S->Prop}
theorem one_eq(v:Value):one v=v.oneCell':=by cases v<;>rfl
end
mutual
theorem zJ2(g:Gh)(w:World):∀(x:V)(us:List Value),RC g w x us->∀u∈us,u.oneCell'=true
 |.any,us,h=>by simp[RC]at h
 |.at v,us,h=>by simp only[RC]at h;obtain⟨rfl,h1⟩:=h;intro u hu;simp at hu;subst hu;rw[<-one_eq];exact h1
 |.agg fs,us,h=>by simp only[RC]at h;exact zBs g w fs us h
 |.tup vs,us,h=>by simp[RC]at h
 |.lst tg es,us,h=>by
  simp only[RC]at h;rcases h with⟨_,rfl,_⟩|⟨b,o,cap,ds,rfl,_⟩<;>(intro u hu;simp at hu;subst hu;rfl)
 |.rptr x,us,h=>by simp only[RC]at h;obtain⟨b,o,ds,rfl,_⟩:=h;intro u hu;simp at hu;subst hu;rfl
 |.ifx,us,h=>by simp only[RC]at h;obtain⟨t,p,rfl⟩:=h;intro u hu;simp at hu;subst hu;rfl
 |.clo fn caps,us,h=>by simp only[RC]at h;obtain⟨ds,_,rfl⟩:=h;intro u hu;simp at hu;subst hu;rfl
theorem zBs(g:Gh)(w:World):∀(xs:List V)(us:List Value),RCs g w xs us->∀u∈us,u.oneCell'=true
 |[],us,h=>by simp only[RCs]at h;subst h;simp
 |x::xs,us,h=>by
  simp only[RCs]at h;obtain⟨u1,u2,rfl,h1,h2⟩:=h;intro u hu;rcases zWe.1 hu with hu|hu
  .exact zJ2 g w x u1 h1 u hu
  .exact zBs g w xs u2 h2 u hu
end
section
variable{P:Program}{X:Cx}{g:Gh}{w:World}{a:Act}{o:Oper}{st:S}{K:V->S->Prop}{KP:List PanicEntry->S->Prop}
theorem zJM{x:V}{u:Value}(h:RV g w x u)(c:zJ x.flat):∃us,RCs g w x.flat us/\u.cells=us.toArray/\us.length=x.flat.length:=by
 cases x with
 |any=>simp[V.flat,zJ,V.isOne]at c
 |tup vs=>simp[V.flat,zJ,V.isOne]at c
 |agg fs=>
  obtain⟨us,b,rfl⟩:=zDV h;have:=yG g w fs us b;have d:zJ fs:=c;rw[yV d]at this;exact⟨us,b,rfl,this⟩
 |_=>
  obtain⟨us,b,f⟩:=h;obtain⟨v,rfl⟩:=zCT b rfl;refine⟨[v],?_,?_,rfl⟩
  .simp only[V.flat,RCs];exact⟨[v],[],rfl,b,rfl⟩
  .have i:=zJ2 g w _ _ b v (by simp);have:u=v:=f;subst this;cases u<;>simp[Value.oneCell']at i<;>rfl
theorem zEm{t:TypeId}{x:V}{K:V->Prop}(h:xH P st t x K)(hi:Inv X.B g st w){f:Value}(i:RV g w x f):∃v u,K v/\RV g w v u/\(Instr.loadAt t f).run P w=.ok u w:=by
 unfold xH at h;split at h
 .obtain⟨b,o,ds,rfl,l,n⟩:=zCy i;refine⟨_,_,h.2,zHX (zFB g w _ _ l),?_⟩;simp only[Instr.loadAt,Instr.sureAddr,Sem.run_bind,Sem.run_pure,Result.andThen_ok];exact zGH h.1 l λk u p=>(n k u p).1
 .rename_i b o;have q:=zr i;subst q;split at h
  .rename_i cs k r;obtain⟨E,F,G,s,arr,el,us,y,H,z,A⟩:=hi.box b cs k r;have d:zJ cs:=by unfold zJ;rw[zWL];exact s
   obtain⟨m,C,D⟩:=zJd d h.1 z;refine⟨_,_,h.2,zHX m,?_⟩;simp only[Instr.loadAt,Instr.sureAddr,Sem.run_bind,Sem.run_pure,Result.andThen_ok];refine zGH ⟨h.1.1,D,C⟩ m λj u c=>?_;rw[zWb]at c;split at c
   .rw[zXG,<-A,zWb]at c;split at c
    .rw[cell_of_row w b _ arr el (0,0) y];simpa using c
    .cases c
   .cases c
  .cases h
 .cases h
theorem qX{fs:List V}(h:zJ fs):∀c∈fs,c.isOne=true:=zWL.1 h
theorem zNi{t:TypeId}{x y:V}{K:S->Prop}(h:qS P st t x y K)(hi:Inv X.B g st w){A n:Value}(J:RV g w x A)(L:RV g w y n) :
 ∃i w',K i/\Out X.B g w g i w'/\(Instr.storeAt t A n).run P w=.ok () w':=by
 unfold qS at h;split at h
 .rename_i b o;have M:=zr J;subst M;split at h
  .rename_i cs k C;obtain⟨N,O,D,Z,R⟩:=h;obtain⟨p1,p2,p3,q,arr,el,us,E,p6,r,T⟩:=hi.box b cs k C;have d:zJ cs:=by unfold zJ;rw[zWL];exact q
   have s:=yG g w cs us r;rw[yV d]at s;obtain⟨vs,F,G,H⟩:=zJM L D;have l:=run_storeCells_at (P:=P) b o el vs 0 arr w E (by omega) (zBs g w _ _ F);simp only[zW0]at l;have m:(us.take o++vs++us.drop (o+vs.length))=((arr.toList.take o++vs++arr.toList.drop (o+vs.length))).take (spl cs o y.flat).length:=by
    have U:(spl cs o y.flat).length=cs.length:=by simp[spl];omega
    rw[U,<-T];apply zXz;intro j;simp only[zYA,zWb,zXG,zWD,zWT,zWi];have W:min o (min cs.length arr.size)=o:=by omega
    have Y:min o arr.size=o:=by omega
    rw[W,Y];by_cases p:j<o
    .simp[p,show j<o+vs.length by omega,show j<cs.length by omega]
    .by_cases u:j<o+vs.length
     .simp[p,u,show j<cs.length by omega]
     .by_cases I:j<cs.length
      .simp[p,u,I,show o+vs.length+(j-(o+vs.length))<cs.length by omega]
      .simp[p,u,I,show ¬(o+vs.length+(j-(o+vs.length))<cs.length)by omega]
   refine⟨_,w.setRow b (arr.toList.take o++vs++arr.toList.drop (o+vs.length)).toArray,R,?_,?_⟩
   .refine zEu hi C E _ (by simp;omega) _ (us.take o++vs++us.drop (o+vs.length)) (by simp[spl];omega) ?_ ?_ (by simpa using m.symm)
    .intro c f;simp only[spl,zWe]at f;rcases f with(f|f)|f
     .exact q c (zW2 f)
     .exact qX D c f
     .exact q c (zXW f)
    .unfold spl;rw[<-H];exact qZ (qZ (yW d r o).1 F) (yW d r _).2
   .have v:n.cells.size=P.cellsOf t:=by rw[G];simpa using H.trans O
    have z:n.cells.toList=vs:=by rw[G]
    simp only[Instr.storeAt,Instr.sureAddr,storeVar,Sem.run_bind,Sem.run_pure,Result.andThen_ok,yc N,v,ne_eq,not_true_eq_false,zWA,z];exact l
  .cases h
 .cases h
theorem zKP{cs:List V}(h:aNew st cs K)(hi:Inv X.B g st w){us:List Value}(n:RCs g w cs us)(el:TypeId) :
 ∃v u g' i,K v i/\Out X.B g w g' i (w.alloc (.cells us.toArray el))/\RV g' (w.alloc (.cells us.toArray el)) v u/\u=.pointer (some ⟨w.heap.size,0,none⟩):=by
 obtain⟨q,r⟩:=h;have j:=yG g w cs us n;rw[yV q]at j;have f:look st.box w.heap.size=none:=by
  cases s:look st.box w.heap.size with
  |none=>rfl
  |some p=>
   obtain⟨c,k⟩:=p;obtain⟨_,_,_,_,arr,el,us,l,_⟩:=hi.box _ c k s;have:=(zV8.1 l).1;omega
 have m:=zA0 hi us.toArray el 0;refine⟨_,_,_,_,r _ f,⟨m.step,?_⟩,RV_at_mk rfl,rfl⟩;have:=m.inv.addBox (b:=w.heap.size) (arr:=us.toArray) (el:=el) (cs:=cs) (us:=us) hi.base (if_pos rfl) (ku w _) (by simp;omega) (qX q) (zq m.step.later _ _ n)
  (by simp only[<-j];exact zW6) (λt x d y=>by
   obtain⟨z,A,C⟩:=d;obtain⟨_,_,_,_,_,arr,el,l,_⟩:=hi.own t x _ z A C y;have:=(zV8.1 l).1;omega) hi.newFr hi.newOb
 simpa [j]using this
theorem zBC{t:TypeId}{cs:List V}(h:yZ P t=some cs):∃z,zAM P t=some z/\RCs g w cs z.cells.toList/\cs.length=z.cells.size:=by
 unfold yZ at h;cases b:zAM P t with
 |none=>simp[b]at h
 |some z=>
  simp only[b,zXg]at h;split at h
  .rename_i c;injection h with h
   subst h;exact⟨z,rfl,zEi g w _ c,by simp⟩
  .cases h
theorem jW{t:TypeId}{z:Value}(h:zAM P t=some z):∃i,P.info? t=some i/\i.zero=some z:=by
 unfold zAM at h;cases hi:P.info? t with
 |none=>simp[hi]at h
 |some i=>simp[hi]at h;exact⟨i,rfl,h⟩
theorem zNf{t:TypeId}(h:jk P st t K)(hi:Inv X.B g st w)(old:Value) :
 ∃v u g' b w',K v b/\Out X.B g w g' b w'/\RV g' w' v u/\(Instr.alloc t true old).run P w=.ok u w':=by
 unfold jk at h;split at h
 .rename_i cs j;obtain⟨z,c,k,_⟩:=zBC (g:=g) (w:=w) j;obtain⟨i,d,f⟩:=jW c;obtain⟨v,u,g',b,l,m,n,p⟩:=zKP (X:=X) h hi k t;refine⟨v,u,g',b,_,l,m,n,?_⟩;subst p;simp[Instr.alloc,zeroValue,typeInfo,d,f,newVar,newRow]
 .cases h
theorem zQ6{t:TypeId}{x:V}(h:aNew st x.flat K)(hi:Inv X.B g st w){c:Value}(d:RV g w x c) :
 ∃v u g' b w',K v b/\Out X.B g w g' b w'/\RV g' w' v u/\(Instr.box t c).run P w=.ok u w':=by
 obtain⟨us,f,i,n⟩:=zJM d h.1;obtain⟨v,u,g',b,j,k,l,m⟩:=zKP (X:=X) h hi f t;refine⟨v,u,g',b,_,j,k,l,?_⟩;subst m;simp[Instr.box,newVar,newRow,i]
theorem zDN(vs:List Value):∀(b:Nat)(k:Nat)(d:Array Value),b+k+vs.length<=d.size ->
 ((vs.zipIdx k).foldl (λcs (c,j)=>cs.setIfInBounds (b+j) c) d).toList=d.toList.take (b+k)++vs++d.toList.drop (b+k+vs.length):=by
 induction vs with
 |nil=>intro b k d h;simp
 |cons v vs l=>
  intro b k d h;simp only[List.zipIdx_cons,zYW,zWC]at h ⊢;rw[l b (k+1) _ (by simp;omega)];apply zXz;intro j;simp only[zYv,zYA,zWD,zWT,zWb,zXG,zY0,zWi,zYI,zWC];have m:min (b+(k+1)) d.size=b+(k+1):=by omega
  have n:min (b+k) d.size=b+k:=by omega
  rw[m,n];by_cases f:j<b+k
  .simp[f,show j<b+(k+1)by omega,show j<b+(k+1)+vs.length by omega,show b+k≠j by omega,show j<b+k+(vs.length+1)by omega]
  .by_cases p:j=b+k
   .subst p;simp[show b+k<b+(k+1)by omega,show b+k<b+(k+1)+vs.length by omega,show b+k<d.size by omega]
   .by_cases i:j<b+(k+1)+vs.length
    .have e:j-(b+k)=(j-(b+(k+1)))+1:=by omega
     simp[f,i,show ¬j<b+(k+1)by omega,e,show j<b+k+(vs.length+1)by omega]
    .simp[f,i,show ¬j<b+(k+1)by omega,show ¬j<b+k+(vs.length+1)by omega,show b+k≠b+(k+1)+vs.length+(j-(b+(k+1)+vs.length))by omega];congr 1;omega
inductive Parts(g:Gh)(w:World):List (Nat×V)->List (Nat×Value)->Prop where
 |nil:Parts g w [] []
 |cons {i x u ps qs} (h:RV g w x u) (hs:Parts g w ps qs):Parts g w ((i,x)::ps) ((i,u)::qs)
theorem zI3{place:Nat->Option (Nat×Nat)}:∀{ps:List (Nat×V)}{s:List (Nat×Value)}(_:Parts g w ps s){b:List V}{us:List Value}{cs':List V}(_:zJ b)(_:RCs g w b us)
 (_:zBS place b ps=some cs'),∃k,Instr.fill place us.toArray s=some k.toArray/\RCs g w cs' k/\zJ cs':=by
 intro ps s v
 induction v with
 |nil=>
  intro b us cs' l n f;simp only[zBS]at f;injection f with f
  subst f;exact⟨us,rfl,n,l⟩
 |@cons i x u ps s h I y=>
  intro b us cs' l n f;simp only[zBS]at f;cases m:place i with
  |none=>rw[m]at f;cases f
  |some p=>
   obtain⟨d,q⟩:=p;simp only[m]at f;split at f
   .rename_i j;obtain⟨J,L,c3⟩:=j;obtain⟨vs,z,A,B⟩:=zJM h c3;have C:=yG g w b us n;rw[yV l]at C;have r:zJ (spl b d x.flat):=by
     unfold zJ spl;rw[zWL];intro c j;simp only[zWe]at j;rcases j with(j|j)|j
     .exact qX l c (zW2 j)
     .exact qX c3 c j
     .exact qX l c (zXW j)
    have D:RCs g w (spl b d x.flat) (us.take d++vs++us.drop (d+vs.length)):=by
     unfold spl;rw[<-B];exact qZ (qZ (yW l n d).1 z) (yW l n _).2
    obtain⟨k,E,F,G⟩:=y r D f;refine⟨k,?_,F,G⟩;simp only[Instr.fill,m,A];have H:(decide (vs.toArray.size≠q)||decide (d+vs.toArray.size > us.toArray.size))=false:=by simp;omega
    have t:=zDN vs d 0 us.toArray (by simp;omega);simp only[zW0]at t;simp only[H,zWO,zWA];rw[<-E];congr 1;apply zXK;rw[<-t];simp
   .cases f
end
open Go.RowKit
section
variable{P:Program}{X:Cx}{g:Gh}{w:World}{a:Act}{o:Oper}{st:S}{K:V->S->Prop}{KP:List PanicEntry->S->Prop}
theorem zL1{α β:Type}(f:α->Option β)(h:α->β):∀(l:List α),(∀x∈l,f x=some (h x))->l.mapM f=some (l.map h)
 |[],_=>rfl
 |x::r,b=>by
  simp only[zXu,b x (by simp),zL1 f h r λy c=>b y (by simp[c])];rfl
theorem zNj{t:TypeId}{ps:List (Nat×V)}{q:List (Nat×Value)}{K:V->Prop}(h:zEJ P t ps K)(C:Parts g w ps q) :
 ∃v u,K v/\RV g w v u/\(Instr.build t q.toArray).run P w=.ok u w:=by
 obtain⟨k,h⟩:=h;split at h
 .rename_i cs b;split at h
  .rename_i cs' r;obtain⟨z,l,D,M⟩:=zBC (g:=g) (w:=w) b;obtain⟨i,s,x⟩:=jW l;have m:zJ cs:=by
    unfold yZ at b;rw[l]at b;simp only[zXg]at b;split at b
    .rename_i E;injection b with b
     subst b;unfold zJ;rw[zWL];intro c F;obtain⟨v,G,rfl⟩:=zWa.1 F;have:=zWL.1 E v G;cases v<;>simp[one]at this<;>first|rfl|(unfold cV1;split<;>first|rfl|simp_all)
    .cases b
   obtain⟨n,H,I,N⟩:=zI3 C m D r;refine⟨_,.agg n.toArray,h,zFq I,?_⟩;refine run_build w t q.toArray n.toArray ?_;unfold zDa at k;split at k
   .rename_i d B;have J:d.toList.mapM (λf=>(P.info? f.type).map λi=>(f.offset,i.size))=some (d.toList.map λf=>(f.offset,P.cellsOf f.type)):=
     zL1 _ _ _ λf r=>by
      obtain⟨j,p,L,_⟩:=zGL (zWL.1 k f r);simp[p,L]
    unfold Program.built;simp only[s,B,x,J];have y:(λi=>(d.toList.map λf=>(f.offset,P.cellsOf f.type)).toArray[i]?)=zBa P t:=by
     funext j
     unfold zBa fieldAt;simp only[B];cases p:d[j]? with
     |none=>simp[p]
     |some f=>
      have A:hasT P f.type=true:=zWL.1 k f (by simpa using zYP p);simp[p,A]
    rw[y];simpa using H
   .cases k
  .cases h
 .cases h
theorem zKS{pl d:Nat->Option (Nat×Nat)}(h:∀i x,pl i=some x->d i=some x):∀{l:List (Nat×Value)}{b r:Array Value},Instr.fill pl b l=some r->Instr.fill d b l=some r
 |[],_,_,c=>c
 |(i,v)::f,b,r,c=>by
  unfold Instr.fill at c ⊢;split at c
  .cases c
  .rename_i k j m;rw[h _ _ m];simp only;split at c
   .cases c
   .rename_i n;rw[if_neg n];exact zKS h c
theorem zMs{t:TypeId}{ps:List (Nat×V)}{A:List (Nat×Value)}{K:V->Prop}(h:zJ3 P t ps K)(E:Parts g w ps A) :
 ∃v u,K v/\RV g w v u/\(Instr.build t A.toArray).run P w=.ok u w:=by
 obtain⟨r,s,h⟩:=h;split at h
 .rename_i cs b;split at h
  .rename_i cs' F;obtain⟨z,k,G,R⟩:=zBC (g:=g) (w:=w) b;obtain⟨i,B,C⟩:=jW k;have l:zJ cs:=by
    unfold yZ at b;rw[k]at b;simp only[zXg]at b;split at b
    .rename_i H;injection b with b
     subst b;unfold zJ;rw[zWL];intro c I;obtain⟨v,y,rfl⟩:=zWa.1 I;have:=zWL.1 H v y;cases v<;>simp[one]at this<;>first|rfl|(unfold cV1;split<;>first|rfl|simp_all)
    .cases b
   obtain⟨p,J,L,S⟩:=zI3 E l G F;refine⟨_,.agg p.toArray,h,zFq L,?_⟩;refine run_build w t A.toArray p.toArray ?_;unfold zFE at r s;split at r
   .rename_i n e D;rw[D]at s;simp only at s;have q:hasT P e=true:=by
     cases n with
     |zero=>simp at r
     |succ n=>simpa [List.range_succ_eq_map]using s
    obtain⟨j,M,N,_⟩:=zGL q;unfold Program.built;simp only[B,D,C,M];refine zKS (λi x d=>?_) J;unfold zH7 zFE at d;rw[D]at d;simp only at d;rw[zWM]at d;cases f:(List.range n)[i]? with
    |none=>rw[f]at d;cases d
    |some m=>
     rw[f]at d;have O:m=i:=by
      have:=zW9.1 f;obtain⟨T,y⟩:=this;rw[List.getElem_range]at y;exact y.symm
     subst O;simp only[zXC,zXg,q,zWE]at d;rw[N];exact d
   .exact absurd rfl r
  .cases h
 .cases h
theorem zLU{t:TypeId}{ps:List (Nat×V)}{b:List (Nat×Value)}{K:V->Prop}(h:zCu P t ps K)(c:Parts g w ps b) :
 ∃v u,K v/\RV g w v u/\(Instr.build t b.toArray).run P w=.ok u w:=by
 rcases h with h|h
 .exact zNj h c
 .exact zMs h c
theorem zC9{x:V}{u:Value}(h:RV g w x u)(c:zJ x.flat):∃us,RC g w x us/\u.cells=us.toArray/\u=pack x us:=by
 cases x with
 |any=>simp[V.flat,zJ,V.isOne]at c
 |tup vs=>simp[V.flat,zJ,V.isOne]at c
 |agg fs=>
  obtain⟨us,b,rfl⟩:=zDV h;exact⟨us,by simp only[RC];exact b,rfl,rfl⟩
 |_=>
  obtain⟨us,b,d⟩:=h;obtain⟨v,rfl⟩:=zCT b rfl;refine⟨[v],b,?_,d⟩;have f:=zJ2 g w _ _ b v (by simp);have:u=v:=d;subst this;cases u<;>simp[Value.oneCell']at f<;>rfl
theorem zSH:∀{ps:List (Nat×V)}{f:List (Nat×Value)}(_:Parts g w ps f)(_:∀p∈ps,zJ p.2.flat){sz:Nat}(_:yw sz (ps.map (·.2)))(k:Nat)(_:jl k ps=true),
 ∃us,RCs g w (ps.map (·.2)) us/\us.length=ps.length*sz /\ 
  ∀(b:Array Value),k*sz+us.length<=b.size -> 
   Instr.fill (λi=>some (i*sz,sz)) b f=some (b.toList.take (k*sz)++us++b.toList.drop (k*sz+us.length)).toArray:=by
 intro ps f n
 induction n with
 |nil=>
  intro _ sz _ k _;refine⟨[],by simp[RCs],by simp,λb _=>?_⟩;simp[Instr.fill]
 |@cons i x u ps f h N C=>
  intro v sz z k l;simp only[jl,zV5,zXq]at l;obtain⟨rfl,l⟩:=l;obtain⟨us,D,E,F⟩:=C (λp n=>v p (by simp[n])) (λy G=>z y (by simp only[zV6,zWB];exact .inr G)) (i+1) l;obtain⟨vs,A,H,O⟩:=zC9 h (v (i,x) (by simp));have d:vs.length=sz:=by
   rw[qc _ _ _ _ A];exact z _ (by simp)
  refine⟨vs++us,?_,?_,λb I=>?_⟩
  .simp only[zV6,RCs];exact⟨vs,us,rfl,A,D⟩
  .simp only[zWD,zWC,E,d,zWs,zYC];omega
  .simp only[zWD]at I ⊢;simp only[Instr.fill,H];have J:(decide (vs.toArray.size≠sz)||decide (i*sz+vs.toArray.size > b.size))=false:=by simp;omega
   simp only[J,zWO,zWA];have q:=zDN vs (i*sz) 0 b (by omega);simp only[zW0]at q;have r:(List.foldl (λcs x=>cs.setIfInBounds (i*sz+x.snd) x.fst) b (vs.zipIdx 0)).size=b.size:=by
    rw[<-zWi,q];simp;omega
   have:=F ((vs.toArray.zipIdx 0).foldl (λcs (c,j)=>cs.setIfInBounds (i*sz+j) c) b) (by simp[r];rw[zWs];omega);rw[this];congr 2;have s:((vs.toArray.zipIdx 0).foldl (λcs (c,j)=>cs.setIfInBounds (i*sz+j) c) b).toList=b.toList.take (i*sz)++vs++b.toList.drop (i*sz+vs.length):=by
    rw[<-q];simp
   rw[s,zWs,zYC];apply zXz;intro j;simp only[zYA,zWD,zWT,zWb,zXG,zWi];have L:min (i*sz) b.size=i*sz:=by omega
   simp only[L,d];have M:min (i*sz+sz) (i*sz+sz+(b.size-(i*sz+sz)))=i*sz+sz:=by omega
   simp only[zXL,zWi,M];by_cases m:j<i*sz
   .simp[m,show j<i*sz+sz by omega,show j<i*sz+sz+us.length by omega,show j<i*sz+(sz+us.length)by omega]
   .by_cases t:j<i*sz+sz
    .simp[m,t,show j<i*sz+sz+us.length by omega,show j<i*sz+(sz+us.length)by omega,show j-i*sz<sz by omega]
    .by_cases B:j<i*sz+sz+us.length
     .simp[m,t,B,show j<i*sz+(sz+us.length)by omega,show ¬(j-i*sz<sz)by omega];congr 1;omega
     .simp[m,t,B,show ¬(j<i*sz+(sz+us.length))by omega,show ¬(i*sz+sz+us.length+(j-(i*sz+sz+us.length))<i*sz)by omega,show ¬(i*sz+sz+us.length+(j-(i*sz+sz+us.length))<i*sz+sz)by omega];congr 1;omega
theorem zHD(x:V):(zx x).size=x.size:=by
 cases x with
 |lst tg es=>cases tg<;>rfl
 |_=>rfl
theorem zFm:∀xs:List V,jg (xs.map zx)=jg xs
 |[]=>rfl
 |x::xs=>by simp[jg,zHD,zFm xs]
theorem zPo(x:V):x.untag.size=x.size:=by
 cases x with
 |agg fs=>simp only[V.untag,V.size];exact zFm fs
 |lst tg es=>exact zHD (.lst tg es)
 |any=>rfl
 |_=>rfl
theorem zAW:∀{xs:List V}{us:List Value},RCs g w xs us->(∀x∈xs,zJ x.flat)->RCs g.bare w (xs.map V.untag) us
 |[],us,h,_=>h
 |x::xs,us,h,b=>by
  simp only[RCs,zV6]at h ⊢;obtain⟨c,d,rfl,f,i⟩:=h;exact⟨c,d,rfl,zAo f (b x (by simp)),zAW i λy j=>b y (by simp[j])⟩
end
end Go.Al
end
section
namespace Go.Al
open Go.RowKit
section
variable{P:Program}{X:Cx}{g:Gh}{w:World}{a:Act}{o:Oper}{st:S}{K:V->S->Prop}{KP:List PanicEntry->S->Prop}
theorem zUl{x:V}{us:List Value}(h:RC g w x us):RCs g w x.flat us:=by
 cases x with
 |any=>simp[RC]at h
 |tup vs=>simp[RC]at h
 |agg fs=>simpa only[RC,V.flat]using h
 |_=>simp only[V.flat,RCs];exact⟨us,[],by simp,h,rfl⟩
theorem zCJ:∀{es:List V}{ds:List Value},RCs g w es ds->RCs g w (zf es) ds
 |[],ds,h=>h
 |x::xs,ds,h=>by
  simp only[RCs]at h;obtain⟨f,i,rfl,b,c⟩:=h;exact qZ (zUl b) (zCJ c)
theorem qC{sz:Nat}{es:List V}{ds:List Value}(h:yw sz es)(b:RCs g w es ds):ds.length=es.length*sz:=by
 rw[yG g w es ds b];clear b
 induction es with
 |nil=>simp[jg]
 |cons x xs c=>
  simp only[jg,zWC,h x (by simp),c λy f=>h y (by simp[f]),zWs,zYC];omega
theorem zBJ(hi:Inv X.B g st w):look st.box w.heap.size=none:=by
 cases b:look st.box w.heap.size with
 |none=>rfl
 |some p=>
  obtain⟨c,k⟩:=p;obtain⟨_,_,_,_,arr,el,us,f,_⟩:=hi.box _ c k b;have:=(zV8.1 f).1;omega
theorem zCA(hi:Inv X.B g st w):∀t∈st.tg,∀d,g.tb t=some (some (w.heap.size,d))->False:=λt b d c=>by
 obtain⟨f,h,i⟩:=d;obtain⟨_,_,_,_,_,arr,el,j,_⟩:=hi.own t b _ f h i c;have:=(zV8.1 j).1;omega
theorem Inv.boxFr{B:Nat}(hi:Inv B g st w){b:Nat}{c:List V×Nat}(i:look st.box b=some c):g.fr b=false/\∀h o f,zQ st.ob h=some (o,f)->b∉f:=by
 refine⟨?_,λh o f j k=>?_⟩
 .cases e:g.fr b with
  |false=>rfl
  |true=>have:=(hi.ex.frz b e).2.1;rw[i]at this;cases this
 .have:=((hi.ex.ob h o f j).2.2 b k).2.2.2.1;rw[i]at this;cases this
theorem Inv.rowFr{B:Nat}(hi:Inv B g st w){t b:Nat}{d:Nat×Nat×Nat}(h:t∈st.tg)(i:g.tb t=some (some (b,d))):g.fr b=false/\∀f o c,zQ st.ob f=some (o,c)->b∉c:=by
 refine⟨?_,λf o c j k=>((hi.ex.ob f o c j).2.2 b k).2.2.2.2.1 t h d i⟩;cases e:g.fr b with
 |false=>rfl
 |true=>exact((hi.ex.frz b e).2.2 t h d i).elim
theorem new_no(hi:Inv X.B g st w){es:List V}{us:List Value}{sz:Nat}(f:yw sz es)(h:RCs g.bare w es us)(el:TypeId)(b:List Value)(cap:Nat)(i:es.length<=cap) :
 ∃g',Out X.B g w g' st (w.alloc (.cells (us++b).toArray el))/\RV g' (w.alloc (.cells (us++b).toArray el)) (.lst .no es) (.slice (some ⟨w.heap.size,0,none⟩) es.length cap):=by
 have c:=zA0 hi (us++b).toArray el us.length;refine⟨_,c,xR ?_⟩;simp only[RC];refine .inr ⟨w.heap.size,0,cap,us,rfl,i,trivial,zq c.step.later.bare _ _ h,⟨sz,f,λ_ _ _ e=>by cases e⟩,?_⟩;exact zLi (w:=w) (us++b).toArray el us us.length (zV7 _) (by simp)
theorem zJi(hi:Inv X.B g st w){es:List V}{us:List Value}{sz:Nat}(k:yw sz es)(l:RCs g.bare w es us)(el:TypeId)(f:List Value)(cap:Nat)(m:es.length<=cap)(u:cap<=maxLen)
 (p:us.length+f.length=cap*sz) (q:Bool) (h:q=true->es.length≠0) :
 ∃g',Out X.B g w g' ⟨st.box,st.nx::st.tg,st.nx+1,st.ob⟩ (w.alloc (.cells (us++f).toArray el)) /\
  RV g' (w.alloc (.cells (us++f).toArray el)) (.lst (.own st.nx q sz) es) (.slice (some ⟨w.heap.size,0,none⟩) es.length cap):=by
 have i:=qC k l;have j:=zA0 hi (us++f).toArray el us.length;obtain⟨v,r⟩:=j.inv.addTag rfl (some (w.heap.size,cap,es.length,sz)) (λb c n s e=>by
  injection e with e;injection e with y e;injection e with z e;injection e with A C
  subst y;subst z;subst A;subst C;exact⟨hi.base,by simp[i],m,u,zBJ hi,⟨_,el,ku w _,by simp;omega⟩,λt D x p=>zCA hi t D x p,hi.newFr,hi.newOb⟩)
 refine⟨_,⟨j.step.trans ⟨r,.refl _ _,λ_ _=>⟨rfl,rfl⟩,λ_ _=>rfl,rfl⟩,v⟩,xR ?_⟩;simp only[RC];refine .inr ⟨w.heap.size,0,cap,us,rfl,m,⟨if_pos rfl,rfl,h⟩,zq (j.step.later.trans r).bare _ _ l,⟨sz,k,λ_ _ _ e=>by cases e;exact .inl rfl⟩,?_⟩;exact zLi (w:=w) (us++f).toArray el us us.length (zV7 _) (by simp)
theorem zUN(hi:Inv X.B g st w){es:List V}{us:List Value}(l:RCs g.bare w es us)(i:zJ (zf es))(el:TypeId)(c:List Value)(k:Nat)(p:us.length+c.length=k) :
 ∃g',Out X.B g w g' ⟨lay st.box w.heap.size (zf es,k),st.tg,st.nx,st.ob⟩ (w.alloc (.cells (us++c).toArray el)):=by
 have f:=zCJ (kw g w _ _ l);have j:=yG g w _ _ f;rw[yV i]at j;have h:=zA0 hi (us++c).toArray el 0;refine⟨_,⟨h.step,?_⟩⟩;have:=h.inv.addBox (b:=w.heap.size) (arr:=(us++c).toArray) (el:=el) (cs:=zf es) (us:=us) hi.base (if_pos rfl) (ku w _) (by simp;omega) (qX i)
  (zq h.step.later _ _ f) (by simp[<-j]) (by intro t m d n;exact zCA hi t m d n) hi.newFr hi.newOb
 have e:(us++c).toArray.size=k:=by simp;omega
 rw[e]at this;exact this
theorem zT1(hi:Inv X.B g st w){es:List V}{us:List Value}(l:RCs g w es us)(i:zJ (zf es))(el:TypeId)(c:List Value)(k:Nat)(p:us.length+c.length=k) :
 ∃g',Out X.B g w g' ⟨lay st.box w.heap.size (zf es,k),st.tg,st.nx,st.ob⟩ (w.alloc (.cells (us++c).toArray el)):=by
 have f:=zCJ l;have j:=yG g w _ _ f;rw[yV i]at j;have h:=zA0 hi (us++c).toArray el 0;refine⟨_,⟨h.step,?_⟩⟩;have:=h.inv.addBox (b:=w.heap.size) (arr:=(us++c).toArray) (el:=el) (cs:=zf es) (us:=us) hi.base (if_pos rfl) (ku w _) (by simp;omega) (qX i)
  (zq h.step.later _ _ f) (by simp[<-j]) (by intro t m d n;exact zCA hi t m d n) hi.newFr hi.newOb
 have e:(us++c).toArray.size=k:=by simp;omega
 rw[e]at this;exact this
theorem zKX{el:TypeId}(h:(yZ P el).map List.length=some (P.cellsOf el)):∃z,zAM P el=some z/\z.cells.size=P.cellsOf el:=by
 cases b:yZ P el with
 |none=>simp[b]at h
 |some cs=>
  obtain⟨z,c,_,f⟩:=zBC (g:=⟨λ_=>0,λ_=>none,Fr.no⟩) (w:=default) b;simp[b]at h;exact⟨z,c,by omega⟩
theorem zHM{L:Pol}{D:Option Nat}{t:TypeId}{n:Nat}{ps:List (Nat×V)}{y:List (Nat×Value)}(h:yU P L D st t n ps K)(hi:Inv X.B g st w)(E:Parts g w ps y) :
 ∃v u g' m w',K v m/\Out X.B g w g' m w'/\RV g' w' v u/\(Instr.buildSlice t n y.toArray).run P w=.ok u w':=by
 unfold yU at h;split at h
 .cases h
 .rename_i el F;obtain⟨M,h2,U,h4,W,N,Y,G,O,b⟩:=h;have Q:=jB F;obtain⟨z,Z,q⟩:=zKX U;obtain⟨i,r,H⟩:=jW Z;have I:yw (P.cellsOf el) (ps.map (·.2)):=λx J=>by
   obtain⟨p,k,rfl⟩:=zWa.1 J;rw[<-zPo];exact G _ (zWa.2 ⟨p,k,rfl⟩)
  obtain⟨us,R,A,q3⟩:=zSH E (λp E=>zWL.1 O p E) I 0 Y;have S:RCs g.bare w (ps.map λp=>p.2.untag) us:=by
   have:=zAW R (λx J=>by
    obtain⟨p,k,rfl⟩:=zWa.1 J;exact zWL.1 O p k)
   simpa [zXD,zYz]using this
  rw[N]at A;have aa:i.size=P.cellsOf el:=by simp[Program.cellsOf,r]
  have f:(ps.map λp=>p.2.untag).length=n:=by simp[N]
  have c:(Instr.buildSlice t n y.toArray).run P w=.ok (.slice (some ⟨w.heap.size,0,none⟩) n n) (w.alloc (.cells us.toArray el)):=by
   have T:∀C:Array Value,C.size=n*P.cellsOf el->Instr.fill (λi=>some (i*P.cellsOf el,P.cellsOf el)) C y=some us.toArray:=λC q=>by
    have:=q3 C (by omega);rw[this];simp only[zX2,zWo,zWR,zWP];rw[A,<-q,<-zWi,zYQ,zWc]
   by_cases l:n*P.cellsOf el=0
   .have:=T #[] (by simp[l]);simp[Instr.buildSlice,run_underlying Q,yc M,l,this,newRow,show(Array.range 0:Array Nat)=#[]from rfl]
   .have:=T ((Array.range (n*P.cellsOf el)).map (z.cells[· % z.cells.size]!)) (by simp);simp[Instr.buildSlice,run_underlying Q,yc M,l,zeroValue,typeInfo,r,H,this,newRow,show ¬(16777216<n*P.cellsOf el)by omega]
  split at b
  .obtain⟨g',j⟩:=zT1 (X:=X) hi R b.1 el [] (n*P.cellsOf el) (by simpa using A);simp only[zWc]at j;exact⟨_,_,g',_,_,b.2 _ (zBJ hi),j,RV_at_mk rfl,c⟩
  .split at b
   .obtain⟨g',j,s⟩:=zJi (X:=X) hi G S el [] n (by omega) W (by simpa using A) false (λe=>by cases e);simp only[zWc,f]at j s;exact⟨_,_,g',_,_,b,j,s,c⟩
   .obtain⟨g',j,s⟩:=new_no (X:=X) hi G S el [] n (by omega);simp only[zWc,f]at j s;exact⟨_,_,g',_,_,b,j,s,c⟩
theorem zIc{t el:TypeId}(k:P.underlying t=some (.slice el)){tg:Tag}{ys:List V}{l:Value}(n:RV g w (.lst tg ys) l)(p:yw (P.cellsOf el) ys) :
 ∃f,Src P (P.cellsOf el) t l ys.length f w/\RCs g.bare w ys f:=by
 have m:=zBQ n;simp only[RC]at m;rcases m with⟨rfl,c,_⟩|⟨b,o,cap,ds,c,s,v,i,x,q⟩
 .injection c with c _
  subst c;exact⟨[],Src.ofNil w k 0,by simp[RCs]⟩
 .injection c with c _
  subst c;have h:=qC p i;refine⟨ds,Src.ofSlice w k ⟨b,o,none⟩ ys.length cap ds h (λj u r=>by rw[z7];exact(q j u r).1) (zBs _ w _ _ i),i⟩
theorem zM6{t el:TypeId}(p:P.underlying t=some (.slice el))(q:hasT P el=true){k:Value}{m:Nat}{c:List Value}(j:Src P (P.cellsOf el) t k m c w)(ty:TypeId){b n cap:Nat}{arr:Array Value}{h:TypeId}
 (r:w.heap[b]?=some (.cells arr h (0,0))) (f:n+m<=cap) (s:cap*P.cellsOf el<=arr.size) :
 (Builtin.append_ #[t,t] ty #[.slice (some ⟨b,0,none⟩) n cap,k]).run P w=.ok (.slice (some ⟨b,0,none⟩) (n+m) cap) (w.setRow b (arr.toList.take (n*P.cellsOf el)++c++arr.toList.drop (n*P.cellsOf el+c.length)).toArray):=by
 have l:n*P.cellsOf el+c.length<=arr.size:=by
  have:(n+m)*P.cellsOf el<=cap*P.cellsOf el:=zWt _ f;rw[zWs]at this;rw[j.newsLen];omega
 have i:=run_storeCells_at (P:=P) b (n*P.cellsOf el) h c 0 arr w r (by omega) j.one;simp only[zW0]at i;simp[Builtin.append_,run_underlying p,yc q,j.len,f,j.cells,z7,i]
end
open Go.RowKit
section
variable{P:Program}{X:Cx}{g:Gh}{w:World}{a:Act}{o:Oper}{st:S}{K:V->S->Prop}{KP:List PanicEntry->S->Prop}
theorem zEo{t el:TypeId}(y:P.underlying t=some (.slice el))(E:hasT P el=true)(A:(yZ P el).map List.length=some (P.cellsOf el)){l:Value}{m:Nat}{c:List Value}
 (B:Src P (P.cellsOf el) t l m c w) (ty:TypeId) {base:Option Addr} {n cap:Nat} {olds:List Value} (j:(Builtin.firstCells (P.cellsOf el) n (.slice base n cap)).run P w.drew=.ok olds.toArray w.drew)
 (v:cap<n+m) (C:(n+m)*P.bytesOf el<=140737488355328) (x:n+m<=maxLen) :
 ∃b f,n+m<=b/\b<=maxLen/\f.length=(b-(n+m))*P.cellsOf el /\
  (Builtin.append_ #[t,t] ty #[.slice base n cap,l]).run P w=.ok (.slice (some ⟨w.heap.size,0,none⟩) (n+m) b) (w.drew.alloc (.cells ((olds++c)++f).toArray el)):=by
 obtain⟨z,p,q⟩:=zKX A;obtain⟨i,h,r⟩:=jW p;have k:i.size=P.cellsOf el:=by simp[Program.cellsOf,h]
 have s:i.bytes=P.bytesOf el:=by simp[Program.bytesOf,h]
 have u:=x;simp only[maxLen]at u;have D:=run_append_grow_src (P:=P) w t t ty el i z y h r base n cap olds (by rw[k];exact j) l m c (by rw[k];exact B) v (by omega) (by rw[s];exact growslice_fits v C);refine⟨_,(Builtin.zeroCells z.cells (grownCap w (n+m) cap el-(n+m))).toList,grownCap_ge w (n+m) cap el,grownCap_le_maxLen w (n+m) cap el x,?_,?_⟩
 .rw[zWi,size_zeroCells,q]
 .rw[D];congr 3;apply zXK;simp
theorem zNT{t:TypeId}{x:V}{K:S->Prop}(h:zEZ P st t x K)(hi:Inv X.B g st w){Q:Value}(hx:RV g w x Q)(ts:List TypeId)(ty:TypeId) :
 ∃q w',K q/\Out X.B g w g q w'/\(Builtin.clear_ (t::ts).toArray ty #[Q]).run P w=.ok (.tuple #[]) w':=by
 unfold zEZ at h;split at h
 .rename_i el b o n cp j;have e1:=zr hx;subst e1;have R:P.underlying t=some (.slice el):=by
   unfold elT at j;split at j
   .rename_i e hq;injection j with j;subst j;exact hq
   .cases j
  split at h
  .rename_i cs k z T hz;obtain⟨h1,h2,y⟩:=h;by_cases A:n=0
   .subst A;rw[if_pos rfl]at y;refine⟨st,w,y,Out.refl hi,?_⟩;simp[Builtin.clear_,run_underlying R,Sem.run_bind,Result.andThen]
   .rw[if_neg A]at y;obtain⟨p1,p2,p3,U,arr,C,us,W,p6,Y,p8⟩:=hi.box b cs k T;obtain⟨m,D,E,F⟩:=zBC (g:=g) (w:=w) hz;have l:zJ cs:=by unfold zJ;rw[zWL];exact U
    have G:=yG g w cs us Y;rw[yV l]at G;obtain⟨f,p,aa,H⟩:∃f:List Value,(Builtin.zeroCells m.cells n).toList=f/\f.length=n*z.length/\∀v∈f,v.oneCell'=true:=by
     refine⟨_,rfl,?_,?_⟩
     .rw[zWi,size_zeroCells,F]
     .intro v Z;refine zBs g w _ _ E v ?_;simp only[Builtin.zeroCells,Array.toList_map,Array.toList_range,zWa,zYO]at Z;obtain⟨i,I,rfl⟩:=Z;have r:0<m.cells.size:=by
       rcases Nat.eq_zero_or_pos m.cells.size with J|J
       .rw[J]at I;omega
       .exact J
      have s:i % m.cells.size<m.cells.size:=Nat.mod_lt _ r;rw[zYm m.cells _ s];exact Array.getElem_mem_toList s
    have u:=run_storeCells_at (P:=P) b o C f 0 arr w W (by omega) H;simp only[zW0]at u;refine⟨_,w.setRow b (arr.toList.take o++f++arr.toList.drop (o+f.length)).toArray,y,?_,?_⟩
    .refine zEu hi T W _ (by simp;omega) _ (us.take o) (by simp;omega) (λc hc=>U c (zW2 hc)) (yW l Y o).1 ?_;rw[<-p8];have e2:(cs.take o).length=o:=by rw[zWT];omega
     have e3:(arr.toList.take o).length=o:=by rw[zWT,zWi];omega
     rw[e2,zXT,zYn (by omega),zXM (by omega),zX0];congr 1;omega
    .have M:∀w,(zeroValue el).run P w=.ok m w:=λw=>by
      obtain⟨ab,N,O⟩:=jW D;simp[zeroValue,typeInfo,N,O]
     cases n with
     |zero=>exact absurd rfl A
     |succ n=>
      simp only[Builtin.clear_];simp[run_underlying R,Sem.run_bind,Result.andThen,M,p,u]
  .cases h
 .cases h
theorem zKx{B:Nat}(hi:Inv B g st w){t:Nat}(C:t∈st.tg){b cap n sz:Nat}(D:g.tb t=some (some (b,cap,n,sz))){arr:Array Value}{el:TypeId}(E:w.heap[b]?=some (.cells arr el (0,0)))
 (arr':Array Value) (hs:arr'.size=arr.size) (hp:∀k,k<n*sz->arr'[k]?=arr[k]?) (m:Nat) :
 Out B g w ⟨λj=>if j=b then(n+m)*sz else g.wm j,g.tb,g.fr⟩ ⟨st.box,st.tg.erase t,st.nx,st.ob⟩ (w.setRow b arr'):=by
 obtain⟨p1,V,p3,p4,p5,W,aa,p6,p7⟩:=hi.own t C b cap n sz D;have c:∀j,j≠b->(w.setRow b arr').heap[j]?=w.heap[j]?:=λj h=>setRow_other w b j _ h;have p:=setRow_heap w b arr arr' el (0,0) E;have F:g.wm b<=(n+m)*sz:=by rw[V];exact zWt _ (by omega)
 have q:Later g w ⟨λj=>if j=b then(n+m)*sz else g.wm j,g.tb,g.fr⟩ (w.setRow b arr'):=by
  refine⟨λj=>?_,λ_ _ e=>e,λj o Y=>?_⟩
  .show g.wm j<=if j=b then(n+m)*sz else g.wm j
   split
   .rename_i e;subst e;exact F
   .exact zV7 _
  .by_cases e:j=b
   .subst e;rw[cell_of_row _ j o arr' el (0,0) p,cell_of_row _ j o arr el (0,0) E];exact hp o (by rw[V]at Y;exact Y)
   .exact World.cell?_of_block (c j e)
 have G:=hi.base;obtain⟨H,I⟩:=hi.rowFr C D;have u:∀j,g.fr j=true->j≠b:=λj h e=>by subst e;rw[H]at h;cases h
 refine⟨⟨q,⟨rfl,rfl,rfl,by simp,λj h=>c j (by omega)⟩,λj h=>⟨c j (u j h),if_neg (u j h)⟩,λj h=>if_neg (by omega),rfl⟩,?_⟩
 .have s:=hi.dropTag t;have ab:b<w.heap.size:=(zV8.1 E).1;refine⟨by simpa using s.base,?_,s.tag,?_,s.dist,s.nodup,λj h=>?_,s.names,s.ex.step q (by simp) rfl rfl (λi o fp v j h=>?_) (λ_ e _=>e) (λ_ _ e=>e)⟩
  .intro i cs k v;obtain⟨J,M,N,O,l,r,Q,R,S,T,q8⟩:=hi.box i cs k v;have f:i≠b:=λe=>by subst e;rw[p5]at v;cases v
   exact⟨J,by show(if i=b then _ else g.wm i)=0;rw[if_neg f];exact M,N,O,l,r,Q,by rw[c i f];exact R,S,zq q _ _ T,q8⟩
  .intro Z x i y n' U z;have A:=zYk x;obtain⟨J,M,N,O,R,l,r,S,T⟩:=hi.own Z A i y n' U z;have f:i≠b:=λe=>by
    subst e;have:=hi.dist t C Z A i _ _ D z;subst this;exact(zY8 hi.nodup) x
   exact⟨J,by show(if i=b then _ else g.wm i)=_;rw[if_neg f];exact M,N,O,R,l,r,by rw[c i f];exact S,T⟩
  .show(if j=b then _ else g.wm j)=0;simp only[setRow_size]at h;rw[if_neg (by omega)];exact hi.fresh j h
  .have f:j≠b:=λe=>by subst e;exact I i o fp v h
   exact⟨c j f,if_neg f⟩
theorem zF0{sz:Nat}{xs ys:List V}(h:yw sz xs)(h':yw sz ys):yw sz (xs++ys):=λx b=>(zWe.1 b).elim (h x) (h' x)
theorem append_nil{t el:TypeId}(p:P.underlying t=some (.slice el))(x:hasT P el=true)(G:(yZ P el).map List.length=some (P.cellsOf el))
 {q:Tag} {ys:List V} (r:yw (P.cellsOf el) ys) (H:ys.length*P.bytesOf el<=140737488355328) (Q:ys.length<=maxLen)
 (hi:Inv X.B g st w) {y:Value} (I:RV g w (.lst q ys) y) (ty:TypeId) (z:K (.lst (.own st.nx true (P.cellsOf el)) ys) ⟨st.box,st.nx::st.tg,st.nx+1,st.ob⟩) :
 ∃v u g' i w',K v i/\Out X.B g w g' i w'/\RV g' w' v u/\(Builtin.append_ #[t,t] ty #[.slice none 0 0,y]).run P w=.ok u w':=by
 obtain⟨A,b,C⟩:=zIc p I r;by_cases D:ys.length=0
 .have s:ys=[]:=zXa D;subst s;obtain⟨J,M⟩:=hi.addTag rfl none (λ_ _ _ _ e=>by cases e);have j:=b.len;have k:=b.cells;simp only[zWI]at j k;refine⟨_,.slice none 0 0,_,_,w,z,⟨⟨M,.refl _ _,λ_ _=>⟨rfl,rfl⟩,λ_ _=>rfl,rfl⟩,J⟩,xR ?_,?_⟩
  .simp only[RC];exact .inl ⟨trivial,trivial,if_pos rfl,rfl⟩
  .simp[Builtin.append_,run_underlying p,yc x,j,k]
 .obtain⟨l,f,E,N,c3,c⟩:=zEo p x G b ty (base:=none) (n:=0) (cap:=0) (olds:=[]) (by simp[Builtin.firstCells]) (by omega) (by simpa using H) (by omega);simp only[zWP,zWR]at E c3 c;have h:=zBd hi (w.drawn+1);have m:=qC r C;obtain⟨g',F,O⟩:=zJi (X:=X) (w:=w.drew) h.inv r (zq h.step.later.bare _ _ C) el f l E N (by rw[m,c3,<-zWs];congr 1;omega) true (λ_=>D);exact⟨_,_,g',_,_,z,⟨h.step.trans F.step,F.inv⟩,O,c⟩
theorem zPm{t el:TypeId}(hu:P.underlying t=some (.slice el))(h1:hasT P el=true)(hz:(yZ P el).map List.length=some (P.cellsOf el))
 {ac:Tag} {ys:List V} (R:yw (P.cellsOf el) ys) {C:Nat} {O:Bool} {es:List V} (p:C∈st.tg) (hb:(es.length+ys.length)*P.bytesOf el<=140737488355328) (hm:es.length+ys.length<=maxLen)
 (hi:Inv X.B g st w) {us ux:Value} (ad:RV g w (.lst (.own C O (P.cellsOf el)) es) us) (A:RV g w (.lst ac ys) ux) (ty:TypeId)
 (m:K (.lst (.own st.nx O (P.cellsOf el)) (es++ys)) ⟨st.box,st.nx::st.tg.erase C,st.nx+1,st.ob⟩) :
 ∃v u g' S w',K v S/\Out X.B g w g' S w'/\RV g' w' v u/\(Builtin.append_ #[t,t] ty #[us,ux]).run P w=.ok u w':=by
 have hl:=zBQ ad;simp only[RC]at hl;have q:=hi.dropTag C;rcases hl with⟨rfl,l,ak,rfl⟩|⟨b,o,cap,ds,l,hc,⟨r,rfl,ae⟩,H,⟨sz,T,U⟩,ha⟩
 .injection l with l _
  subst l;simp only[zWR]at m;exact append_nil (st:=⟨st.box,st.tg.erase C,st.nx,st.ob⟩) hu h1 hz R (by simpa using hb) (by simpa using hm) q A ty m
 .injection l with l _
  subst l;obtain⟨p1,p2,p3,p4,p5,arr,D,p6,p7⟩:=hi.own C p b cap es.length _ r;obtain⟨f,E,I⟩:=zIc hu A R;have F:ds.length=es.length*P.cellsOf el:=by
   rcases U C O _ rfl with e|e
   .rw[yG _ w es ds H];exact(yG _ w es ds H).symm.trans (qC (λx A=>(T x A).trans e.symm) H)
   .subst e;simp only[RCs]at H;subst H;simp
  have W:yw (P.cellsOf el) es:=by
   rcases U C O _ rfl with e|e
   .exact λx A=>(T x A).trans e.symm
   .subst e;exact λx A=>by cases A
  have J:=qC R I;have Y:O=true->(es++ys).length≠0:=λe=>by have:=ae e;simp;intro h;subst h;simp at this
  by_cases i:es.length+ys.length<=cap
  .have y:=zM6 hu h1 E ty p6 i (by omega);have ag:(es.length+ys.length)*P.cellsOf el<=cap*P.cellsOf el:=zWt _ i;rw[zWs]at ag;have Z:arr.toList.take (es.length*P.cellsOf el)=ds:=by
    apply zXz;intro k;rw[zWb];split
    .have m:k<ds.length:=by omega
     have:=(ha k ds[k] (by simp[m])).1;rw[zWP,cell_of_row w b k arr D (0,0) p6]at this;rw[zWX m,<-this];simp
    .rw[zX4 (by omega)]
   have G:(arr.toList.take (es.length*P.cellsOf el)++f++arr.toList.drop (es.length*P.cellsOf el+f.length)).toArray.size=arr.size:=by simp;omega
   have Q:=zKx (B:=X.B) hi p r p6 (arr.toList.take (es.length*P.cellsOf el)++f++arr.toList.drop (es.length*P.cellsOf el+f.length)).toArray G
    (λk m=>by
     rw[zXv,zXT,zYB (by simp;omega),zWb,if_pos m];simp) ys.length
   have z:=setRow_heap w b arr (arr.toList.take (es.length*P.cellsOf el)++f++arr.toList.drop (es.length*P.cellsOf el+f.length)).toArray D (0,0) p6;obtain⟨i2,l2⟩:=Q.inv.addTag rfl (some (b,cap,es.length+ys.length,P.cellsOf el)) (λb' c n s e=>by
    injection e with e;injection e with e1 e;injection e with e2 e;injection e with e3 e4
    subst e1;subst e2;subst e3;subst e4;refine⟨p1,if_pos rfl,i,p4,p5,⟨_,D,z,by rw[G];exact p7⟩,λt ht x A=>?_,(hi.rowFr p r).1,(hi.rowFr p r).2⟩;have ah:=zYk ht;have:=hi.dist C p t ah b _ x r A;subst this;exact(zY8 hi.nodup) ht)
   refine⟨_,_,_,_,_,m,⟨Q.step.trans ⟨l2,.refl _ _,λ_ _=>⟨rfl,rfl⟩,λ_ _=>rfl,rfl⟩,i2⟩,xR ?_,y⟩;have ai:=zq (Q.step.later.trans l2).bare _ _ (qZ H I);simp only[RC];refine .inr ⟨b,0,cap,ds++f,by rw[zWD],by rw[zWD];exact i,⟨by rw[zWD];exact if_pos rfl,rfl,Y⟩,ai,
    ⟨P.cellsOf el,zF0 W R,λ_ _ _ e=>by cases e;exact .inl rfl⟩,?_⟩
   intro k u m;have aj:k<ds.length+f.length:=by
    rcases zW5 k (ds++f).length with h|h
    .simpa using h
    .rw[zX4 h]at m;cases m
   refine⟨?_,?_⟩
   .rw[zWP,cell_of_row _ b k _ D (0,0) z,Z,zXv,zYB (by simpa using aj)];exact m
   .show 0+k<if b=b then(es.length+ys.length)*P.cellsOf el else g.wm b
    rw[if_pos rfl,zWs];omega
  .have aa:(Builtin.firstCells (P.cellsOf el) es.length (.slice (some ⟨b,0,none⟩) es.length cap)).run P w.drew=.ok ds.toArray w.drew:=
    run_firstCells_some w.drew _ es.length ⟨b,0,none⟩ es.length cap ds F (λj u hj=>by rw[z7];exact(ha j u hj).1)
   obtain⟨ab,M,c1,c2,c3,y⟩:=zEo hu h1 hz E ty aa (by omega) hb hm;have N:=zBd q (w.drawn+1);obtain⟨g',Q,hv⟩:=zJi (X:=X) (w:=w.drew) N.inv (zF0 W R) (zq N.step.later.bare _ _ (qZ H I)) el M ab (by simpa using c1) c2
    (by rw[zWD,F,J,c3,<-zWs,<-zWs];congr 1;omega) O Y
   rw[zWD]at hv;exact⟨_,_,g',_,_,m,⟨N.step.trans Q.step,Q.inv⟩,hv,y⟩
end
open Go.RowKit
section
variable{P:Program}{X:Cx}{g:Gh}{w:World}{a:Act}{o:Oper}{st:S}{K:V->S->Prop}{KP:List PanicEntry->S->Prop}
theorem Inv.sameBox{B:Nat}{g:Gh}{st:S}{w:World}(h:Inv B g st w){f:List (Nat×List V×Nat)}(e:∀j,look f j=look st.box j):Inv B g ⟨f,st.tg,st.nx,st.ob⟩ w:=
 h.weaken ⟨λb c i=>(e b).symm.trans i,λ_ k=>k,λl=>l,λb i=>(e b).trans i,zV7 _,λ_ _ h=>h⟩
theorem zKf(hi:Inv X.B g st w){fs:List V}{us:List Value}(h:RCs g w fs us)(i:zJ fs)(el:TypeId)(c:List Value)(k:Nat)(n:us.length+c.length=k) :
 ∃g',Out X.B g w g' ⟨lay st.box w.heap.size (fs,k),st.tg,st.nx,st.ob⟩ (w.alloc (.cells (us++c).toArray el)):=by
 have j:=yG g w _ _ h;rw[yV i]at j;have f:=zA0 hi (us++c).toArray el 0;refine⟨_,⟨f.step,?_⟩⟩;have:=f.inv.addBox (b:=w.heap.size) (arr:=(us++c).toArray) (el:=el) (cs:=fs) (us:=us) hi.base (if_pos rfl) (ku w _) (by simp;omega) (qX i)
  (zq f.step.later _ _ h) (by simp[<-j]) (by intro t l d m;exact zCA hi t l d m) hi.newFr hi.newOb
 have e:(us++c).toArray.size=k:=by simp;omega
 rw[e]at this;exact this
theorem zHK{fs:List V}(h:zJ fs)(n:Nat):zJ (fs.take n):=by
 unfold zJ at *;rw[zWL]at *;exact λc b=>h c (zW2 b)
theorem zFY{fs b:List V}(h:zJ fs)(h':zJ b):zJ (fs++b):=by
 unfold zJ at *;rw[List.all_append,h,h'];rfl
theorem zEI{t el:TypeId}(z:P.underlying t=some (.slice el))(A:hasT P el=true)(C:(yZ P el).map List.length=some (P.cellsOf el))
 {m:Nat} {p:List V} {c:List Value} {s:Value} (D:m*P.bytesOf el<=140737488355328) (G:m<=maxLen) (H:m≠0) (q:zJ p)
 (hi:Inv X.B g st w) (j:Src P (P.cellsOf el) t s m c w) (E:RCs g w p c) (k:c.length=m*P.cellsOf el) (ty:TypeId)
 (F:∀b cap,look st.box b=none->m<=cap->K (.at (.slice (some ⟨b,0,none⟩) m cap)) ⟨lay st.box b (p,cap*P.cellsOf el),st.tg,st.nx,st.ob⟩) :
 ∃v u g' l w',K v l/\Out X.B g w g' l w'/\RV g' w' v u/\(Builtin.append_ #[t,t] ty #[.slice none 0 0,s]).run P w=.ok u w':=by
 obtain⟨f,i,x,I,c3,h⟩:=zEo z A C j ty (base:=none) (n:=0) (cap:=0) (olds:=[]) (by simp[Builtin.firstCells]) (by omega) (by simpa using D) (by omega);simp only[zWP,zWR]at x c3 h;have r:=zBd hi (w.drawn+1);obtain⟨g',y⟩:=zKf (X:=X) (w:=w.drew) r.inv (zq r.step.later _ _ E) q el i (f*P.cellsOf el) (by rw[k,c3,<-zWs];congr 1;omega);exact⟨_,_,g',_,_,F _ f (zBJ hi) x,⟨r.step.trans y.step,y.inv⟩,RV_at_mk rfl,h⟩
theorem zEH{t el:TypeId}(R:P.underlying t=some (.slice el))(S:hasT P el=true)(Z:(yZ P el).map List.length=some (P.cellsOf el))
 {m:Nat} {x:List V} {c:List Value} {T:Value} {b len cap:Nat} {cs:List V} (U:look st.box b=some (cs,cap*P.cellsOf el)) (aa:len<=cap) (I:len*P.cellsOf el<=cs.length)
 (hb:(len+m)*P.bytesOf el<=140737488355328) (hm:len+m<=maxLen) (y:zJ x)
 (hi:Inv X.B g st w) (p:Src P (P.cellsOf el) t T m c w) (z:RCs g w x c) (r:c.length=m*P.cellsOf el) (ty:TypeId)
 (W:∀J f,look (wipe st.box b) J=none->len+m<=f->K (.at (.slice (some ⟨J,0,none⟩) (len+m) f)) ⟨lay (wipe st.box b) J (cs.take (len*P.cellsOf el)++x,f*P.cellsOf el),st.tg,st.nx,st.ob⟩) :
 ∃v u g' A w',K v A/\Out X.B g w g' A w'/\RV g' w' v u/\(Builtin.append_ #[t,t] ty #[.slice (some ⟨b,0,none⟩) len cap,T]).run P w=.ok u w':=by
 obtain⟨p1,p2,p3,p4,arr,M,us,N,p6,Y,p8⟩:=hi.box b cs _ U;have i:zJ cs:=by unfold zJ;rw[zWL];exact p4
 have C:=yG g w cs us Y;rw[yV i]at C;have O:=yG g w _ _ z;rw[yV y]at O;have k:RCs g w (cs.take (len*P.cellsOf el)++x) (us.take (len*P.cellsOf el)++c):=qZ (yW i Y _).1 z;have l:=zFY (zHK i (len*P.cellsOf el)) y;have q:us.take (len*P.cellsOf el)=arr.toList.take (len*P.cellsOf el):=by
  rw[<-p8,zX0];congr 1;omega
 by_cases h:len+m<=cap
 .have n:=zM6 R S p ty N h (by omega);have Q:(len+m)*P.cellsOf el<=cap*P.cellsOf el:=zWt _ h;rw[zWs]at Q;have D:(arr.toList.take (len*P.cellsOf el)++c++arr.toList.drop (len*P.cellsOf el+c.length)).toArray.size=arr.size:=by simp;omega
  have E:=zEu (B:=X.B) hi U N _ D (cs.take (len*P.cellsOf el)++x) (us.take (len*P.cellsOf el)++c) (by simp;omega) (qX l) k (by
   rw[q];have e:(cs.take (len*P.cellsOf el)++x).length=(arr.toList.take (len*P.cellsOf el)++c).length:=by simp;omega
   rw[e];exact zYr)
  refine⟨_,_,_,_,_,W b cap (by rw[xA,if_pos rfl]) h,⟨E.step,?_⟩,RV_at_mk rfl,n⟩;refine E.inv.sameBox λj=>?_;rw[zR,zR,xA];by_cases e:b=j
  .rw[if_pos e,if_pos e]
  .rw[if_neg e,if_neg e,if_neg e]
 .have F:(Builtin.firstCells (P.cellsOf el) len (.slice (some ⟨b,0,none⟩) len cap)).run P w.drew=.ok (us.take (len*P.cellsOf el)).toArray w.drew:=
   run_firstCells_some w.drew _ len ⟨b,0,none⟩ len cap _ (by simp;omega) (λj u G=>by
    rw[z7,zWP];show w.cell? _=_;rw[cell_of_row w b j arr M (0,0) N];rw[q,zWb]at G;split at G
    .simpa using G
    .cases G)
  obtain⟨f,s,c1,c2,c3,n⟩:=zEo R S Z p ty F (by omega) hb hm;have H:=zBd (hi.dropBox b) (w.drawn+1);obtain⟨g',E⟩:=zKf (X:=X) (w:=w.drew) H.inv (zq H.step.later _ _ k) l el s (f*P.cellsOf el) (by
   rw[zWD,zWT,c3,r,C,Nat.min_eq_left I,<-zWs,<-zWs];congr 1;omega)
  exact⟨_,_,g',_,_,W _ f (zBJ H.inv) c1,⟨H.step.trans E.step,E.inv⟩,RV_at_mk rfl,n⟩
theorem zPY{t el:TypeId}(s:P.underlying t=some (.slice el)){b m cap:Nat}{cs:List V}{k:Nat}(hi:Inv X.B g st w)(v:look st.box b=some (cs,k))(x:m*P.cellsOf el<=cs.length) :
 ∃c,Src P (P.cellsOf el) t (.slice (some ⟨b,0,none⟩) m cap) m c w/\RCs g w (cs.take (m*P.cellsOf el)) c/\zJ (cs.take (m*P.cellsOf el))/\c.length=m*P.cellsOf el:=by
 obtain⟨C,D,E,y,arr,n,us,z,F,q,A⟩:=hi.box b cs _ v;have f:zJ cs:=by unfold zJ;rw[zWL];exact y
 have p:=yG g w cs us q;rw[yV f]at p;have r:=(yW f q (m*P.cellsOf el)).1;have h:(us.take (m*P.cellsOf el)).length=m*P.cellsOf el:=by simp;omega
 have i:us.take (m*P.cellsOf el)=arr.toList.take (m*P.cellsOf el):=by
  rw[<-A,zX0];congr 1;omega
 refine⟨us.take (m*P.cellsOf el),Src.ofSlice w s ⟨b,0,none⟩ m cap _ h (λj u l=>?_) (zBs _ w _ _ r),r,zHK f _,h⟩;rw[z7,zWP];rw[cell_of_row w b j arr n (0,0) z];rw[i,zWb]at l;split at l
 .simpa using l
 .cases l
theorem zEN{es:List V}{u:Value}(h:RV g w (.lst .nil es) u):u=.slice none 0 0:=by
 have h:=zBQ h;simp only[RC]at h;rcases h with⟨_,c,_⟩|⟨b,o,cap,ds,_,_,f,_⟩
 .injection c
 .exact f.elim
theorem zMa{L:Pol}{M:Option Nat}{t S:TypeId}{s x:V}(h:xS P L M st t S s x K)(hi:Inv X.B g st w){us T:Value}(j:RV g w s us)(I:RV g w x T)(ty:TypeId) :
 ∃v u g' J w',K v J/\Out X.B g w g' J w'/\RV g' w' v u/\(Builtin.append_ #[t,S] ty #[us,T]).run P w=.ok u w':=by
 unfold xS at h;split at h
 .rename_i el U ys D;obtain⟨rfl,E,F,W,G,l⟩:=h;have q:=jB D;split at l
  .obtain⟨r,f,i⟩:=l;have e:=zEN j;subst e;split at i
   .obtain⟨y,c,z⟩:=zIc q I G;exact zEI q E F r f (λe=>i.1 (zXa e)) i.2.1 hi c (zCJ (kw g w _ _ z)) (qC G z) ty i.2.2
   .exact append_nil q E F G r f hi I ty i
  .rename_i Z nb sz es;obtain⟨r,rfl,f,i,H⟩:=l;exact zPm q E F G r f i hi j I ty H
  .rename_i b len cap;have e:=zr j;subst e;split at l
   .rename_i cs k N;obtain⟨_,rfl,r,f,i,H,n,p⟩:=l;obtain⟨y,c,z⟩:=zIc q I G;exact zEH q E F N r f i H n hi c (zCJ (kw g w _ _ z)) (qC G z) ty p
   .cases l
  .cases l
 .rename_i el bs m O D;obtain⟨rfl,E,F,W,G,l⟩:=h;have q:=jB D;have e:=zr I;subst e;split at l
  .cases l
  .rename_i Y kk Q;obtain⟨r,f⟩:=l;obtain⟨y,c,z,A,C⟩:=zPY (cap:=O) q hi Q r;split at f
   .obtain⟨i,H,n,p⟩:=f;have e:=zEN j;subst e;exact zEI q E F i H n A hi c z C ty p
   .rename_i b len cap;have e:=zr j;subst e;split at f
    .rename_i cs k N;obtain⟨rfl,i,H,n,p,R⟩:=f;exact zEH q E F N i H n p A hi c z C ty R
    .cases f
   .cases f
 .cases h
theorem zQS{tg:Tag}{es:List V}(h:zG4 g tg)(b:es=[]):zG4 g (zGQ tg es):=by
 subst b;cases tg with
 |nil=>trivial
 |no=>exact h.elim
 |own t c s=>obtain⟨_,rfl⟩:=h;simp[zGQ,yL,zG4]
theorem zSo{tg:Tag}{es:List V}{b o cap:Nat}(h:zIK g es.length b o cap tg):zGQ tg es=.no:=by
 cases tg with
 |nil=>exact h.elim
 |no=>rfl
 |own t c s=>
  cases c with
  |false=>rfl
  |true=>have:=h.2.2 rfl;cases es<;>simp at this ⊢;simp[zGQ,yL]
theorem zAp{sz:Nat}:∀{es:List V}{ds:List Value}(_:yw sz es)(_:RCs g w es ds)(n:Nat),RCs g w (es.take n) (ds.take (n*sz))/\RCs g w (es.drop n) (ds.drop (n*sz))
 |[],ds,_,h,n=>by simp only[RCs]at h;subst h;simp[RCs]
 |x::xs,ds,c,h,n=>by
  have h':=h;simp only[RCs]at h;obtain⟨b,j,rfl,f,k⟩:=h;have i:=qc g w x b f;rw[c x (by simp)]at i;cases n with
  |zero=>simp only[zWo,zWg,zX2];exact⟨by simp[RCs],h'⟩
  |succ n=>
   obtain⟨l,m⟩:=zAp (es:=xs) (ds:=j) (λy p=>c y (by simp[p])) k n;have q:(n+1)*sz=b.length+n*sz:=by rw[zWs,zYC,i];omega
   rw[q,zYt,zYu];simp only[zWW,zWl];exact⟨by simp only[RCs];exact⟨b,_,rfl,f,l⟩,m⟩
theorem zKI{e:Env}(b:Rel X g e st a w)(x:Option Operand):(∀v,x.map e.ev=some v->∃u,x.map a.eval=some u/\RV g w v u)/\(x.map e.ev=none->x.map a.eval=none):=by
 cases x with
 |none=>exact⟨λv h=>by simp at h,λ_=>rfl⟩
 |some x=>exact⟨λv h=>by simp at h;subst h;exact⟨_,rfl,b.ev x⟩,λh=>by simp at h⟩
theorem zNS{t:TypeId}{x:V}{lo hi:Option V}{K:V->Prop}(h:jo P t x lo hi K){R:Value}{c j:Option Value}(y:RV g w x R)
 (m:(∀v,lo=some v->∃u,c=some u/\RV g w v u)/\(lo=none->c=none)) (n:(∀v,hi=some v->∃u,j=some u/\RV g w v u)/\(hi=none->j=none)) :
 ∃v u,K v/\RV g w v u/\(Instr.sliceAt t R c j none).run P w=.ok u w:=by
 have O:∀{l:Int},((lo=none/\c=none/\l=0)\/∃k,c=some (.int k l))->(c=none/\l=0)\/∃k,c=some (.int k l):=λh=>h.imp (λh=>⟨h.2.1,h.2.2⟩) id;unfold jo at h;split at h
 .rename_i tg es;split at h
  .cases h
  .rename_i el D;have z:=jB D;obtain⟨G,E,h⟩:=h;obtain⟨l,h,A⟩:=kR h m.1 m.2;obtain⟨f,h,B⟩:=kR h n.1 n.2;obtain⟨⟨I,b1,H⟩,q⟩:=h;have S:=zBQ y;simp only[RC]at S;rcases S with⟨rfl,p,W⟩|⟨b,o,cap,ds,p,Y,Z,Q,⟨sz,r,aa⟩,T⟩
   .injection p with p _
    subst p;simp only[zWI]at H;have e1:l=0:=by omega
    have e2:f=0:=by simp at H;omega
    subst e1;subst e2;have i:=jP (P:=P) (w:=w) (isS:=true) (len:=0) (cap:=0) (lo:=c) (hi:=j) (O A) (B.imp (λh=>⟨h.2.1,h.2.2⟩) id) (by omega) (by omega) (by simp);refine⟨_,.slice none 0 0,q,xR ?_,?_⟩
    .simp only[RC];exact .inl ⟨by simp,trivial,zQS W rfl⟩
    .simp[Instr.sliceAt,Instr.slice,run_underlying z,i,yc G]
   .injection p with p _
    subst p;have F:f<=(cap:Int):=by omega
    have i:=jP (P:=P) (w:=w) (isS:=true) (len:=es.length) (cap:=cap) (lo:=c) (hi:=j) (O A) (B.imp (λh=>⟨h.2.1,h.2.2⟩) id) I b1 F;have J:es=[]\/sz=P.cellsOf el:=by
     rcases E with E|E
     .exact .inl E
     .cases es with
      |nil=>exact .inl rfl
      |cons x xs=>exact .inr ((r x (by simp)).symm.trans (E x (by simp)))
    have M:(Instr.sliceAt t (.slice (some ⟨b,o,none⟩) es.length cap) c j none).run P w=.ok (.slice (if cap=l.toNat then some ⟨b,o,none⟩else some ⟨b,o+l.toNat*P.cellsOf el,none⟩) (f.toNat-l.toNat) (cap-l.toNat)) w:=by
     simp only[Instr.sliceAt,Instr.slice,Sem.run_bind,run_underlying z,Result.andThen_ok,i,yc G,Sem.run_pure];congr 2;split
     .rfl
     .simp[z7]
    refine⟨_,_,q,xR ?_,M⟩;rw[zSo Z];have C:((es.take f.toNat).drop l.toNat).length=f.toNat-l.toNat:=by simp;omega
    simp only[RC];refine .inr ⟨b,if cap=l.toNat then o else o+l.toNat*P.cellsOf el,cap-l.toNat,(ds.take (f.toNat*sz)).drop (l.toNat*sz),?_,by rw[C];omega,trivial,?_,?_,?_⟩
    .rw[C];split<;>rfl
    .exact(zAp (λx y=>r x (zW2 y)) (zAp r Q f.toNat).1 l.toNat).2
    .exact⟨sz,λx y=>r x (zW2 (zXW y)),λ_ _ _ e=>by cases e⟩
    .have ab:ds.length=es.length*sz:=qC r Q;by_cases N:cap=l.toNat
     .rw[if_pos N];have:(ds.take (f.toNat*sz)).drop (l.toNat*sz)=[]:=by
       apply zYe;rw[zWT];have:f.toNat*sz<=l.toNat*sz:=zWt _ (by omega);omega
      rw[this];intro k u q;simp at q
     .rw[if_neg N];rcases J with rfl|rfl
      .simp only[RCs]at Q;subst Q;intro k u q;simp at q
      .have:=T.sub (l.toNat*P.cellsOf el) (f.toNat*P.cellsOf el-l.toNat*P.cellsOf el)
       rwa [List.take_drop,Nat.add_sub_cancel' (zWt _ (by omega))]at this
 .rename_i b o len cap;have e:=zr y;subst e;split at h
  .cases h
  .rename_i el D;have z:=jB D;obtain⟨G,h⟩:=h;obtain⟨l,h,A⟩:=kR h m.1 m.2;obtain⟨f,h,B⟩:=kR h n.1 n.2;obtain⟨⟨I,b1,H⟩,q⟩:=h;have i:=jP (P:=P) (w:=w) (isS:=true) (len:=len) (cap:=cap) (lo:=c) (hi:=j) (O A) (B.imp (λh=>⟨h.2.1,h.2.2⟩) id) I b1 H;refine⟨_,_,q,RV_at_mk rfl,?_⟩;simp only[Instr.sliceAt,Instr.slice,Sem.run_bind,run_underlying z,Result.andThen_ok,i,yc G,Sem.run_pure];congr 2;by_cases N:cap=l.toNat
   .rw[if_pos N,if_pos (by omega)]
   .rw[if_neg N,if_neg (by omega)];simp[z7]
 .rename_i s;have z:=kQ h.1;have e:=zr y;subst e;obtain⟨l,h,A⟩:=kR h.2 m.1 m.2;obtain⟨f,h,B⟩:=kR h n.1 n.2;obtain⟨⟨I,b1,H⟩,q⟩:=h;have i:=jP (P:=P) (w:=w) (isS:=false) (len:=s.size) (cap:=s.size) (lo:=c) (hi:=j) (O A) (B.imp (λh=>⟨h.2.1,h.2.2⟩) id) I b1 H;refine⟨_,_,q,RV_at_mk rfl,?_⟩;simp[Instr.sliceAt,Instr.slice,run_underlying z,i]
 .rename_i fs;obtain⟨G,E,h3,rfl,rfl,q⟩:=h;obtain⟨e,z,he,Y,T⟩:=zJ5 G;obtain⟨b,o,ds,rfl,q1,q2⟩:=zCy y;have A:=m.2 rfl;have B:=n.2 rfl;subst A;subst B;have i:=jP (P:=P) (w:=w) (isS:=false) (len:=fs.length) (cap:=fs.length) (lo:=none) (hi:=none) (l:=0) (h:=fs.length) (.inl ⟨rfl,rfl⟩) (.inl ⟨rfl,rfl⟩) (by omega) (by omega) (by omega);have U:0<fs.length:=List.length_pos_iff.2 h3;refine⟨_,.slice (some ⟨b,o,none⟩) fs.length fs.length,q,xR ?_,?_⟩
  .simp only[RC];exact .inr ⟨b,o,fs.length,ds,rfl,zV7 _,trivial,by simpa only[RC]using q1,⟨1,λx y=>zDI (zWL.1 E x y),λ_ _ _ e=>by cases e⟩,q2⟩
  .simp only[Instr.sliceAt,Sem.run_bind,run_underlying z,Result.andThen_ok,Instr.sureAddr,Sem.run_pure,i,yc he];congr 2;rw[if_neg (by omega)];simp[z7]
 .cases h
end
open Go.RowKit
section
variable{P:Program}{X:Cx}{g:Gh}{w:World}{a:Act}{o:Oper}{st:S}{K:V->S->Prop}{KP:List PanicEntry->S->Prop}
theorem zJ4{t e:TypeId}(h:mapT P t=some e):∃k,P.underlying t=some (.map k e)/\P.underlying k=some .string:=by
 unfold mapT at h;split at h
 .rename_i k e' b;split at h
  .rename_i c;injection h with h
   subst h;exact⟨k,b,c⟩
  .cases h
 .cases h
theorem zBE{k:TypeId}(c:P.underlying k=some .string)(b:Bool)(n:Nat)(s:ByteArray):(Instr.checkKey b (n+1) k (.string s)).run P w=.ok () w:=by
 unfold Instr.checkKey;simp[Sem.run_bind,run_underlying c]
theorem zAa{k:TypeId}(b:P.underlying k=some .string){s:ByteArray}{es:List MapEntry}{r:Option (Nat×Value)}(h:Instr.findNow .string (.string s) es 0=some r):(Instr.findKey k (.string s) es).run P w=.ok r w:=by
 unfold Instr.findKey;simp[Sem.run_bind,run_underlying b,h]
theorem zBF{b c:Nat}{arr:Array MapEntry}(f:w.heap[b]?=some (.map arr c)):(getObj b).run P w=.ok (.map arr c) w:=by simp[getObj,Sem.run,f]
theorem zTP(z:Value)(h:one z=true):z=pack (cV1 z) [z]:=by
 unfold cV1;split<;>first|rfl|(simp[one]at h;done)|simp_all [pack]
theorem RV1_nm{x:V}{u:Value}(h:RV1 g.bare w x u):RV1 g w x u:=by
 obtain⟨us,b,c⟩:=h;exact⟨us,zFB g w x us b,c⟩
theorem zJl{v:V}{u:Value}(h:RV1 g w v u)(c b:Bool):RV g w (outV c v b) (if c=true then .tuple #[u,.bool b]else u):=by
 unfold outV;split
 .exact⟨[u,.bool b],.cons h (.cons ⟨[.bool b],by simp[RC,one],rfl⟩ .nil),rfl⟩
 .exact RV.of_RV1 h
theorem zV_ok{z:Value}(h:zOk z=true):RV1 g w (zV z) z:=by
 unfold zOk at h;split at h
 .rename_i cs;exact⟨cs.toList,by simpa [RC,zV]using zEi g w cs.toList h,by simp[pack,zV]⟩
 .have e:zV z=cV1 z:=by unfold zV;split<;>first|rfl|simp_all
  rw[e];exact⟨[z],zLk g w z h,zTP z h⟩
theorem zLt{t:TypeId}{x i:V}{c:Bool}{K:V->Prop}(h:jK P st t x i c K)(hi:Inv X.B g st w){E F:Value}(G:RV g w x E)(n:RV g w i F) :
 ∃v u,K v/\RV g w v u/\(Instr.lookup t E F c).run P w=.ok u w:=by
 unfold jK at h;split at h
 .rename_i e s I;obtain⟨k,p,f⟩:=zJ4 I;have J:=zr n;subst J;split at h
  .rename_i z M;obtain⟨N,h⟩:=h;obtain⟨O,q,r⟩:=jW M;have l:(zeroValue e).run P w=.ok z w:=by simp[zeroValue,typeInfo,q,r]
   have m:RV1 g w (zV z) z:=zV_ok N;split at h
   .have y:=zr G;subst y;refine⟨_,_,h,zJl m c false,?_⟩;have Q:Instr.findNow .string (.string s) [] 0=some none:=rfl;simp[Instr.lookup,Sem.run_bind,run_underlying p,zBE f,zAa f Q,l]
   .rename_i b;have y:=zr G;subst y;split at h
    .rename_i o R S;obtain⟨⟨_,arr,A,H,T⟩,_⟩:=hi.ex.ob b _ R S;rcases zDv s 0 T with⟨C,D⟩|⟨v,u,j,C,D,U,_,_,_⟩
     .rw[C]at h;refine⟨_,_,h,zJl m c false,?_⟩;simp[Instr.lookup,Sem.run_bind,run_underlying p,zBF H,zBE f,zAa f D,l]
     .rw[C]at h;refine⟨_,_,h,zJl (RV1_nm D) c true,?_⟩;simp[Instr.lookup,Sem.run_bind,run_underlying p,zBF H,zBE f,zAa f U]
    .cases h
   .cases h
  .cases h
 .cases h
theorem zw(k:Nat)(c:OV×List Nat)(r:List (Nat×OV×List Nat))(b:Nat):zQ ((k,c)::r) b=if k=b then some c else zQ r b:=rfl
theorem zKr(h:zFG st K)(hi:Inv X.B g st w)(t:TypeId) :
 ∃v u g' n w',K v n/\Out X.B g w g' n w'/\RV g' w' v u/\(Instr.makeMap t none).run P w=.ok u w':=by
 have y:zQ st.ob w.heap.size=none:=by
  cases E:zQ st.ob w.heap.size with
  |none=>rfl
  |some p=>exact absurd ((hi.ex.ob _ p.1 p.2 E).2.2 _ (hi.ex.ob _ p.1 p.2 E).2.1).2.1 (zZP _)
 have z:=zBJ hi;have A:=zCA hi;have i:∀b,b<w.heap.size->(w.alloc (.map #[] 0)).heap[b]?=w.heap[b]?:=λb m=>zDl w _ b m;have H:(w.alloc (.map #[] 0)).heap.size=w.heap.size+1:=by simp
 have F:Later g w g (w.alloc (.map #[] 0)):=zFV hi.fresh i (λ_=>zV7 _) (λ_ _ e=>e);have m:Below X.B w (w.alloc (.map #[] 0)):=(Below.refl _ _).alloc hi.base _;have f:=hi.grow (w':=w.alloc (.map #[] 0)) F (by omega) i (λ_ _=>rfl) (λb m=>hi.fresh b (by omega)) rfl rfl;refine⟨_,.map (some w.heap.size),g,_,w.alloc (.map #[] 0),h _ y,⟨⟨F,m,λb m=>⟨i b (hi.ex.frz b m).1,rfl⟩,λ_ _=>rfl,rfl⟩,?_⟩,RV_at_mk rfl,rfl⟩;refine⟨f.base,f.box,f.tag,f.own,f.dist,f.nodup,f.fresh,f.names,f.ex.frz,λb o x c=>?_,λb o x G o' q j l k C D=>?_,f.ex.ft⟩
 .rw[zw]at c;split at c
  .rename_i r;injection c with c
   injection c with I s
   subst r;subst I;subst s;refine⟨⟨rfl,#[],0,ku w _,rfl⟩,by simp,λj J=>?_⟩;have:j=w.heap.size:=by simpa using J
   subst this;exact⟨hi.base,by omega,hi.fresh _ (zV7 _),z,A,hi.newFr⟩
  .exact f.ex.ob b o x c
 .rw[zw]at l k;split at l
  .rename_i r;injection l with l
   injection l with _ s
   subst r;subst s;have:j=w.heap.size:=by simpa using C
   subst this;split at k
   .assumption
   .exact absurd D (hi.newOb G o' q k)
  .split at k
   .rename_i r;injection k with k
    injection k with _ s
    subst r;subst s;have:j=w.heap.size:=by simpa using D
    subst this;exact absurd C (hi.newOb b o x l)
   .exact f.ex.obd b o x G o' q j l k C D
theorem kT{w:World}{b:Nat}{o:Obj}(o':Obj)(h:w.heap[b]?=some o):(w.putObj b o').heap[b]?=some o':=by
 have c:=(zV8.1 h).1;simp[World.putObj,c]
theorem zAO{w:World}{b c:Nat}{arr:Array MapEntry}(h:w.heap[b]?=some (.map arr c))(o:Nat):w.cell? ⟨b,o,none⟩=none:=by simp[World.cell?,h]
theorem zEk{B:Nat}(hi:Inv B g st w){b x clock':Nat}{o o':MC}{I:List Nat}{arr arr':Array MapEntry}(J:zQ st.ob b=some (.mp o,I))(M:w.heap[b]?=some (.map arr x))
 (hr:MapR g (w.putObj b (.map arr' clock')) o' arr'.toList):Out B g w g ⟨st.box,st.tg,st.nx,(b,.mp o',I)::st.ob⟩ (w.putObj b (.map arr' clock')):=by
 obtain⟨⟨N,_⟩,hm,C⟩:=hi.ex.ob b _ I J;subst N;obtain⟨j1,j2,j3,j4,j5,j6⟩:=C b (by simp);have c:∀j,j≠b->(w.putObj b (.map arr' clock')).heap[j]?=w.heap[j]?:=λj h=>World.putObj_heap_other h;have r:=kT (.map arr' clock') M;have i:(w.putObj b (.map arr' clock')).heap.size=w.heap.size:=by simp[World.putObj]
 have y:Later g w g (w.putObj b (.map arr' clock')):=⟨λ_=>zV7 _,λ_ _ e=>e,λj o ho=>by
  by_cases e:j=b
  .subst e;rw[zAO r,zAO M]
  .exact World.cell?_of_block (c j e)⟩
 have D:∀{j:Nat}{a:Array Value}{el:TypeId}{m:Nat×Nat},w.heap[j]?=some (.cells a el m)->j≠b:=λh e=>by subst e;rw[M]at h;cases h
 refine⟨⟨y,⟨rfl,rfl,rfl,by rw[i];exact zV7 _,λj h=>c j (by omega)⟩,λj h=>⟨c j (λe=>by subst e;rw[j6]at h;cases h),rfl⟩,λ_ _=>rfl,rfl⟩,?_⟩;refine⟨by rw[i];exact hi.base,λs cs k f=>?_,hi.tag,λt ht s cap n sz O=>?_,hi.dist,hi.nodup,λj h=>hi.fresh j (by rw[i]at h;exact h),hi.names,λj h=>?_,λs Q q f=>?_,λb1 o1 R b2 Q q j h1 h2 h3 h4=>?_,hi.ex.ft⟩
 .obtain⟨S,T,U,V,l,z,W,G,H,Y,q8⟩:=hi.box s cs k f;exact⟨S,T,U,V,l,z,W,(c s (D G)).trans G,H,zq y _ _ Y,q8⟩
 .obtain⟨S,T,U,V,G,l,z,H,Y⟩:=hi.own t ht s cap n sz O;exact⟨S,T,U,V,G,l,z,(c s (D H)).trans H,Y⟩
 .rw[i];exact hi.ex.frz j h
 .rw[zw]at f;split at f
  .rename_i E;injection f with f
   injection f with e2 Z
   subst E;subst e2;subst Z;refine⟨⟨rfl,arr',clock',r,hr⟩,hm,λj p=>?_⟩;rw[i];exact C j p
  .rename_i E;obtain⟨k1,k2,k3⟩:=hi.ex.ob s Q q f;refine⟨k1.local y (λj p=>c j (λe=>?_)),k2,λj p=>by rw[i];exact k3 j p⟩;subst e;exact E (hi.ex.obd j (.mp o) [j] s Q q j J f (by simp) p)
 .have u:∀{b3:Nat}{F:OV}{A:List Nat},zQ ((b,.mp o',[b])::st.ob) b3=some (F,A)->∃o4,zQ st.ob b3=some (o4,A):=λ{b3 F A} v=>by
   rw[zw]at v;split at v
   .rename_i E;injection v with v
    injection v with _ Z
    subst E;subst Z;exact⟨.mp o,J⟩
   .exact⟨F,v⟩
  obtain⟨F,v⟩:=u h1;obtain⟨o4,h6⟩:=u h2;exact hi.ex.obd b1 F R b2 o4 q j v h6 h3 h4
theorem zJD{w:World}{b c:Nat}{arr:Array MapEntry}(o':Obj)(h:w.heap[b]?=some (.map arr c)):(setObj b o').run P w=.ok () (w.putObj b o'):=by
 have f:=(zV8.1 h).1;simp[setObj,Sem.run,World.putObj,h]
theorem zHY(s:ByteArray):(Instr.keyThatStays (.string s) (.string s)).run P w=.ok (.string s) w:=by
 unfold Instr.keyThatStays;have:Instr.sameBits 10000 (.string s) (.string s)=true:=zVg s;simp[this]
theorem zIZ{t:TypeId}{x i y:V}{K:S->Prop}(h:x9 P st t x i y K)(hi:Inv X.B g st w){J M l:Value}(R:RV g w x J)(D:RV g w i M)(T:RV g w y l) :
 ∃z w',K z/\Out X.B g w g z w'/\(Instr.mapUpdate t J M l).run P w=.ok () w':=by
 unfold x9 at h;cases E:mapT P t with
 |none=>simp only[E]at h
 |some e=>
 simp only[E]at h;obtain⟨k,U,F⟩:=zJ4 E;split at h
 .rename_i b s _;have W:=zr D;subst W;have Y:=zr R;subst Y;split at h
  .rename_i o Z C;obtain⟨G,N⟩:=h;obtain⟨⟨_,arr,c,f,H⟩,_⟩:=hi.ex.ob b _ Z C;have A:RV1 g.bare w y.untag l:=by
    have h3:RV1 g w y l:=zTN T (λe=>by subst e;simp[V.flat,V.isOne]at G) (λvs e=>by subst e;simp[V.flat,V.isOne]at G);obtain⟨us,k1,k2⟩:=h3;exact⟨us,zAo k1 (by unfold zJ;exact G),by rw[zCa];exact k2⟩
   have m:∀r,(Instr.findKey k (.string s) arr.toList).run P w=.ok r w->(Instr.mapUpdate t (.map (some b)) (.string s) l).run P w=(match r with
    |some (j,_)=>(do let key <-Instr.keyThatStays (((arr[j]?).map (·.key)).getD (.string s)) (.string s);setObj b (.map (arr.modify j λe=>{ e with key,val:=l }) c):Sem Unit).run P w
    |none=>(setObj b (.map (arr.push { key:=.string s,val:=l,born:=c }) (c+1))).run P w):=λr hf=>by
    unfold Instr.mapUpdate;simp only[Sem.run_bind,run_underlying U,Result.andThen_ok,zBF f,zBE F,hf];cases r with
    |none=>rfl
    |some p=>obtain⟨j,u⟩:=p;simp only[Sem.run_bind]
   rcases zDv s 0 H with⟨O,Q⟩|⟨v,u,j,O,Q,h7,h8,h9,I⟩
   .refine⟨_,_,N,?_,(m none (zAa F Q)).trans (zJD _ f)⟩;refine zEk hi C f ?_;have:=zMc s A c H O;have aa:=(zEk (o':=o) (arr':=arr) (clock':=c) hi C f (H.later ⟨λ_=>zV7 _,λ_ _ e=>e,λq o _=>by
     by_cases e:q=b
     .subst e;rw[zAO (kT _ f),zAO f]
     .exact World.cell?_of_block (World.putObj_heap_other e)⟩)).step.later
    have n:Later g w g (w.putObj b (.map (arr.push { key:=.string s,val:=l,born:=c }) (c+1))):=⟨λ_=>zV7 _,λ_ _ e=>e,λq o _=>by
     by_cases e:q=b
     .subst e;rw[zAO (kT _ f),zAO f]
     .exact World.cell?_of_block (World.putObj_heap_other e)⟩
    have:=this.later n;simpa using this
   .refine⟨_,w.putObj b (.map (arr.modify (0+j) λe=>{ e with key:=.string s,val:=l }) c),N,?_,(m (some (0+j,u)) (zAa F h7)).trans ?_⟩
    rotate_left
    .have e3:((arr[0+j]?).map (·.key)).getD (.string s)=.string s:=by
      rw[zWP];rw[<-zW3,h9];rfl
     simp only[e3,Sem.run_bind,zHY,Result.andThen_ok];exact zJD _ f
    .refine zEk hi C f ?_;have n:Later g w g (w.putObj b (.map (arr.modify (0+j) λe=>{ e with key:=.string s,val:=l }) c)):=⟨λ_=>zV7 _,λ_ _ e=>e,λq o _=>by
      by_cases e:q=b
      .subst e;rw[zAO (kT _ f),zAO f]
      .exact World.cell?_of_block (World.putObj_heap_other e)⟩
     have:=(I _ _ A).later n;rw[zWP]at this ⊢;simpa using this
  .cases h
 .cases h
theorem zNE{g:Gh}{w:World}:∀{es:List V}{us vs:List Value},atsV es=some us->RCs g w es vs->vs=us
 |[],us,vs,h,b=>by
  injection h with h;subst h
  simpa [RCs]using b
 |x::r,us,vs,h,b=>by
  simp only[RCs]at b;obtain⟨l,m,rfl,f,i⟩:=b;unfold atsV at h;split at h
  .rename_i e;cases e
  .rename_i v n e;injection e with j k
   subst j k;cases c:atsV r with
   |none=>rw[c]at h;cases h
   |some p=>
    rw[c]at h;injection h with h
    subst h;simp only[RC]at f;rw[f.1,zNE c i];rfl
  .cases h
theorem zTS{x:V}(h:zPV x=true):∃v,x=.at v:=by cases x<;>first|exact⟨_,rfl⟩|cases h
theorem zN2{α:Type}(f:α->V)(h:α->Value):∀(l:List α),(∀x∈l,RV g w (f x) (h x))->(l.map f).all zPV=true->RCs g.bare w (l.map f) (l.map h)
 |[],_,_=>by simp[RCs]
 |x::r,i,b=>by
  simp only[zV6,zWK,zV5]at b ⊢;have j:=zN2 f h r (λy k=>i y (zWU _ k)) b.2;have c:=i x (zWr ..);simp only[RCs];refine⟨[h x],r.map h,rfl,?_,j⟩;obtain⟨v,m⟩:=zTS b.1;rw[m]at c ⊢;have e:=zr c;have o:=zR2 c;rw[e];simp[RC,o]
theorem zP7{f:Fn}{first caps:List Operand}{c:Operand->V}{b:Operand->Value}{K:V->Prop}(h:zI4 f (first.map c) (caps.map c) K)(i:∀x,RV g w (c x) (b x)):first=[]/\∃v,K v/\RV g w v (.func f #[] (caps.map b).toArray):=by
 unfold zI4 at h;split at h
 .rename_i n j;obtain⟨k,l⟩:=h;refine⟨by simpa using j,_,l,⟨[.func (.func n) #[] (caps.map b).toArray],?_,rfl⟩⟩;simp only[RC];exact⟨caps.map b,zN2 c b caps (λx _=>i x) k,rfl⟩
 .cases h
theorem zKt{t:TypeId}{x:V}{K:V->Prop}(h:zFH P t x K){c:Value}(i:RV g w x c):∃v u,K v/\RV g w v u/\(Instr.makeInterface t c).run P w=.ok u w:=by
 obtain⟨j,h⟩:=h;have b:(Instr.makeInterface t c).run P w=.ok (.iface t c) w:=run_makeInterface _ t c j;split at h
 .rename_i v;have e:=zr i;subst e;exact⟨_,_,h,RV_at_mk rfl,b⟩
 .obtain⟨us,k,l⟩:=zDV i;split at h
  .rename_i m f;obtain rfl:=zNE f k;subst l;exact⟨_,_,h,RV_at_mk rfl,b⟩
  .exact⟨_,_,h,RV.of_RV1 ⟨[.iface t c],⟨_,_,rfl⟩,rfl⟩,b⟩
 .exact⟨_,_,h,⟨[.iface t c],by simp only[RC];exact⟨t,c,rfl⟩,rfl⟩,b⟩
theorem zNZ{w':World}{v:Value}{Q:Exit->Act->World->Prop}{K:Act->World->Prop}(h:(execOp a.eval o).run P w=.halt (.panic v) w')(b:Q (.panic [{ v,recovered:=false }]) a w'):o.wp P a w K Q:=by
 unfold Oper.wp Oper.upon;rw[h];exact b
theorem zNU{x:V}{KP:List PanicEntry->Prop}(h:zIr x KP){b:Value}(c:RV g w x b):∃v,KP [{ v,recovered:=false }]/\(Instr.panic b).run P w=.halt (.panic v) w:=by
 unfold zIr at h;split at h
 .have e:=zr c;subst e;exact⟨_,h,rfl⟩
 .cases h
end
open Go.RowKit
section
variable{P:Program}{L:Pol}{X:Cx}{g:Gh}{w:World}{a:Act}{o:Oper}{e:Env}{st:S}{K:V->S->Prop}{KP:List PanicEntry->S->Prop}
theorem zFZ{x:V}{u:Value}(h:RV1 g.bare w x u):RV1 g w x u:=let⟨us,h1,h2⟩:=h;⟨us,zFB g w x us h1,h2⟩
theorem zKO{xs:List V}{us:List Value}(h:RVs g.bare w xs us):RVs g w xs us:=by
 induction h with
 |nil=>exact .nil
 |cons h _ b=>exact .cons (zFZ h) b
theorem zT5{x:V}{u:Value}(h:RV g.bare w x u):RV g w x u:=by
 cases x with
 |any=>trivial
 |tup vs=>obtain⟨us,b,c⟩:=h;exact⟨us,zKO b,c⟩
 |_=>exact zFZ h
theorem zJ7(b:Rel X g e st a w):∀(xs:List Operand),(∀x∈xs.map e.ev,zJ x.flat)->RVs g.bare w ((xs.map e.ev).map V.untag) (xs.map a.eval)
 |[],_=>.nil
 |x::xs,h=>by
  obtain⟨us,c,_,f⟩:=zC9 (b.ev x) (h _ (by simp));exact .cons ⟨us,zAo c (h _ (by simp)),by rw[f,zCa]⟩ (zJ7 b xs λy i=>h y (by simp only[zV6,zWB];exact .inr i))
theorem zHv{xs ys:List V}{us vs:List Value}(h:RVs g w xs us)(h':RVs g w ys vs):RVs g w (xs++ys) (us++vs):=by
 induction h with
 |nil=>exact h'
 |cons h _ b=>exact .cons h b
theorem zBb:∀{xs:List V}{us:List Value},zJ xs->RCs g w xs us->RVs g w xs us
 |[],us,_,h=>by simp only[RCs]at h;subst h;exact .nil
 |x::xs,us,b,h=>by
  simp only[zJ,zWK,zV5]at b;simp only[RCs]at h;obtain⟨i,j,rfl,c,f⟩:=h;obtain⟨u,rfl⟩:=zCT c b.1;refine .cons ⟨[u],c,?_⟩ (zBb b.2 f);cases x<;>simp[V.isOne]at b<;>rfl
theorem zHp(b:Rel X g e st a w):∀(xs:List Operand),(∀x∈xs.map e.ev,zJ x.flat)->RVs g w (xs.map e.ev) (xs.map a.eval)
 |[],_=>.nil
 |x::xs,h=>by
  obtain⟨us,c,_,f⟩:=zC9 (b.ev x) (h _ (by simp));exact .cons ⟨us,c,f⟩ (zHp b xs λy i=>h y (by simp only[zV6,zWB];exact .inr i))
theorem zOZ{xs as:List V}(h:Sub xs as):∀{us:List Value},RVs g w xs us->RVs g.bare w (xs.map V.untag) us->RVs g w as us:=by
 induction h with
 |nil=>intro us h _;exact h
 |keep _ b=>
  intro us h h';cases h with
  |cons p q=>cases h' with
   |cons f c=>exact .cons p (b q c)
 |drop _ b=>
  intro us h h';cases h with
  |cons p q=>cases h' with
   |cons f c=>exact .cons (zFZ f) (b q c)
theorem zNJ{b:Nat->Nat}{c:Nat->Option (Option (Nat×Nat×Nat×Nat))}(f h:Fr)(w:World):Later ⟨b,c,f⟩ w ⟨b,c,h⟩ w:=⟨λ_=>zV7 _,λ_ _ e=>e,λ_ _ _=>rfl⟩
theorem RV.fr{b:Nat->Nat}{c:Nat->Option (Option (Nat×Nat×Nat×Nat))}{w:World}(f i:Fr){x:V}{u:Value}(h:RV ⟨b,c,f⟩ w x u):RV ⟨b,c,i⟩ w x u:=h.later (zNJ f i w)
theorem RVs.fr{b:Nat->Nat}{c:Nat->Option (Option (Nat×Nat×Nat×Nat))}{w:World}(f i:Fr){xs:List V}{us:List Value}(h:RVs ⟨b,c,f⟩ w xs us):RVs ⟨b,c,i⟩ w xs us:=h.later (zNJ f i w)
theorem zRW(i:Rel X g e st a w){f:FuncId}{args:List V}{r:V}(h:PureF P f args r){vs:List Value}(p:RVs g.bare w args vs) :
 Calls P f vs.toArray w λm w'=>∃v g',m=.returned v/\Out X.B g w g' st w'/\RV g' w' r v:=by
 refine(h g.wm w vs i.inv.fresh (i.gl.mono i.inv.base) (p.fr g.fr Fr.no)).mono ?_;rintro m w' ⟨v,j,rfl,q,c,s⟩;have k:=i.inv.base;have n:Later g w ⟨j,g.tb,g.fr⟩ w':=⟨c.later.wm,λ_ _ e=>e,c.later.cell⟩;refine⟨v,⟨j,g.tb,g.fr⟩,rfl,⟨⟨n,c.below.mono k,λb l=>⟨c.below.block b (i.inv.ex.frz b l).1,c.wmB b (i.inv.ex.frz b l).1⟩,λb l=>c.wmB b (by omega),rfl⟩,i.inv.grow n c.below.size (λb l=>c.below.block b l) (λb l=>c.wmB b l) q rfl rfl⟩,zT5 (g:=⟨j,g.tb,g.fr⟩) (RV.fr Fr.no g.fr s)⟩
theorem zBZ{n:FuncId}(h:zU P n=true)(args:Array Value):(callFunc n args).run P w=.ok (.enter n args) w:=by
 unfold zU at h;cases b:P.funcs[n]? with
 |none=>simp[b]at h
 |some c=>
  simp only[b,zV5,bne_iff_ne,ne_eq]at h;have i:c.body.isNone=false:=by cases j:c.body<;>simp[j]at h ⊢
  have f:c.body≠none:=by intro e;rw[e]at i;cases i
  simp[callFunc,b,h.1,f]
theorem zPr{c:Call}{f:Operand}(E:o.op=.call c)(N:c.callee=.value f)(j:Rel X g e st a w){O:List Nat}(h:zCm P L O (e.ev f) (c.args.toList.map e.ev) st K KP) :
 o.wp P a w (zIB X g w o a K) (zH1 X g w a KP):=by
 unfold zCm at h;split at h
 .rename_i n caps F;obtain⟨q,k,p,h⟩:=h;have b:∀x∈c.args.toList.map e.ev,zJ x.flat:=λx Q=>zWL.1 k x Q;have J:=j.ev f;rw[F]at J;obtain⟨ds,l,G⟩:=zQK J;have A:(execOp a.eval o).run P w=.ok (.enter n ((c.args.toList.map a.eval++ds).toArray)) w:=by
   unfold execOp;rw[E];simp only[resolve,N,G,Deferred.ofValue,Sem.run_bind,Sem.run_pure,Result.andThen_ok,invoke];rw[zBZ q];congr 2;apply zXK;simp
  have s:=zJ7 j c.args.toList b;unfold Oper.wp Oper.upon;rw[A];simp only;split at h
  .obtain⟨rfl,r,R,H⟩:=h;simp only[RCs]at l;subst l;rw[zWc];refine(zRW j R s).mono ?_;rintro D w' ⟨v,g',rfl,y,z⟩;exact⟨v,r,g',st,rfl,y,z,H⟩
  split at h
  .obtain⟨as,r,i,h,H⟩:=h;have t:RVs g w (as++caps) (c.args.toList.map a.eval++ds):=by
    exact zHv (zOZ i (zHp j c.args.toList b) s) (zBb p (kw g w _ _ l))
   refine(h X.B g w _ j.inv j.gl t).mono ?_;rintro D w' ⟨g',m,y,z,u⟩;cases D with
   |returned v=>
    obtain⟨S,I,C,rfl⟩:=u;injection C with C
    subst C;exact⟨v,S,g',m,rfl,⟨y,z⟩,I,H⟩
   |panicked M=>cases u.1
   |outgrown=>exact u.elim
  .obtain⟨as,i,h⟩:=h;have t:RVs g w (as++caps) (c.args.toList.map a.eval++ds):=by
    exact zHv (zOZ i (zHp j c.args.toList b) s) (zBb p (kw g w _ _ l))
   refine(h X.B g w _ j.inv j.gl t).mono ?_;rintro D w' ⟨g',m,y,z,u⟩;cases D with
   |returned v=>obtain⟨r,I,_,C⟩:=u;exact⟨v,r,g',m,rfl,⟨y,z⟩,I,C⟩
   |panicked M=>exact⟨M,g',m,rfl,rfl,⟨y,z⟩,u⟩
   |outgrown=>exact u.elim
 .cases h
theorem zHo(b:Rel X g e st a w):∀(ps:List (Nat×Operand)),Parts g w (ps.map λp=>(p.1,e.ev p.2)) (ps.map λp=>(p.1,a.eval p.2))
 |[]=>.nil
 |p::ps=>.cons (b.ev p.2) (zHo b ps)
theorem zQ9(h:aop P L e st o K KP)(q:Rel X g e st a w):o.wp P a w (zIB X g w o a K) (zH1 X g w a KP):=by
 unfold aop at h;split at h
 .rename_i x l;exact yu q.inv (by unfold execOp;rw[l];rfl) (q.ev x) h
 .rename_i x l;exact yu q.inv (by unfold execOp;rw[l];rfl) (q.ev x) h
 .rename_i c x y l;obtain⟨v,t,z,M,A⟩:=zPT h (q.ev c) (q.ev x) (q.ev y);exact yu q.inv (u:=if t then a.eval x else a.eval y) (by unfold execOp;rw[l];simp[M,asBool]) A z
 .rename_i W t x y yt l;obtain⟨v,z,H,j⟩:=zPn (P:=P) (ox:=x) (oy:=y) h (q.ev x) (q.ev y);exact yu q.inv (by unfold execOp;rw[l];exact xJ j) (RV_at_mk H) z
 .rename_i W t x l;obtain⟨v,z,H,j⟩:=zTU (P:=P) h (q.ev x);exact yu q.inv (by unfold execOp;rw[l];exact xJ j) (RV_at_mk H) z
 .rename_i x i l;obtain⟨v,u,z,A,j⟩:=zKw (P:=P) h (q.ev x);exact yu q.inv (by unfold execOp;rw[l];exact xJ j) A z
 .rename_i t x f l;obtain⟨v,u,z,A,j⟩:=zIR h (q.ev x);exact yu q.inv (by unfold execOp;rw[l];exact xJ j) A z
 .rename_i t x i l;obtain⟨v,u,z,A,j⟩:=zI5 h (q.ev x) (q.ev i);exact yu q.inv (by unfold execOp;rw[l];exact xJ j) A z
 .rename_i t x i l;obtain⟨v,u,z,A,j⟩:=zNg h (q.ev x) (q.ev i);exact yu q.inv (by unfold execOp;rw[l];exact xJ j) A z
 .rename_i t x l;obtain⟨v,u,z,A,j⟩:=zEm h.2 q.inv (q.ev x);exact yu q.inv (by unfold execOp;rw[l];exact xJ j) A z
 .rename_i t x y l;obtain⟨B,w',z,D,j⟩:=zNi h.2 q.inv (q.ev x) (q.ev y);exact zId (by unfold execOp;rw[l];exact zK2 j) ⟨undef,.any,g,B,rfl,D,trivial,z⟩
 .rename_i t l;obtain⟨v,u,g',B,w',z,D,A,j⟩:=zNf h q.inv (.tuple #[]);exact jX (by unfold execOp;rw[l];exact xJ j) ⟨u,v,g',B,rfl,D,A,z⟩
 .rename_i t x l;obtain⟨v,u,g',B,w',z,D,A,j⟩:=zQ6 (P:=P) (t:=t) h q.inv (q.ev x);exact jX (by unfold execOp;rw[l];exact xJ j) ⟨u,v,g',B,rfl,D,A,z⟩
 .rename_i t parts l;obtain⟨v,u,z,A,j⟩:=zLU h (zHo q parts.toList);refine yu q.inv ?_ A z;unfold execOp;rw[l];refine xJ ?_;have:(parts.map λx=>(x.1,a.eval x.2))=(parts.toList.map λp=>(p.1,a.eval p.2)).toArray:=by apply zXK;simp
  rw[<-j,<-this]
 .rename_i t n parts l;obtain⟨v,u,g',B,w',z,D,A,j⟩:=zHM h q.inv (zHo q parts.toList);refine jX ?_ ⟨u,v,g',B,rfl,D,A,z⟩;unfold execOp;rw[l];refine xJ ?_;have:(parts.map λx=>(x.1,a.eval x.2))=(parts.toList.map λp=>(p.1,a.eval p.2)).toArray:=by apply zXK;simp
  rw[<-j,<-this]
 .rename_i x l;obtain⟨z,ad,Y⟩:=zJT h (q.ev x);refine yu q.inv (u:=a.eval x) ?_ (q.ev x) z;unfold execOp;rw[l];simp[Y]
 .rename_i t x lo hi mx l;obtain⟨R,h⟩:=h;have N:mx=none:=by simpa using R
  subst N;obtain⟨v,u,z,A,j⟩:=zNS h (q.ev x) (zKI q lo) (zKI q hi);exact yu q.inv (by unfold execOp;rw[l];exact xJ j) A z
 .rename_i c l;split at h
  .rename_i f M;exact zPr l M q h
  .rename_i b M;unfold ju at h;have I:∀{u w'},(builtin b c.argTypes o.type (c.args.map λ|.const _=>true|_=>false) (c.args.toList.map a.eval).toArray).run P w=.ok (.value u) w'->(execOp a.eval o).run P w=.ok (.value u) w':=by
    intro u w' Z;unfold execOp;rw[l];simp only[resolve,M,Sem.run_bind,Sem.run_pure,Result.andThen_ok,invoke];rw[<-Z];congr 2;apply zXK;simp
   split at h
   .rename_i t O x F s;have Q:∃ox,c.args.toList=[ox]/\e.ev ox=x:=by
     cases E:c.args.toList with
     |nil=>simp[E]at s
     |cons ox C=>cases C with
      |nil=>simp[E]at s;exact⟨ox,rfl,s⟩
      |cons _ _=>simp[E]at s
    obtain⟨ox,G,rfl⟩:=Q;obtain⟨v,z,H,j⟩:=zRT (P:=P) h (q.ev ox) O o.type;refine yu q.inv (I ?_) (RV_at_mk H) z;have J:c.argTypes=(t::O).toArray:=by apply zXK;simpa using F
    rw[G,J];exact xJ j
   .rename_i t V x y F s;have Q:∃ox oy,c.args.toList=[ox,oy]/\e.ev ox=x/\e.ev oy=y:=by
     cases E:c.args.toList with
     |nil=>simp[E]at s
     |cons ox C=>cases C with
      |nil=>simp[E]at s
      |cons oy C=>cases C with
       |nil=>simp[E]at s;exact⟨ox,oy,rfl,s.1,s.2⟩
       |cons _ _=>simp[E]at s
    obtain⟨ox,oy,G,rfl,rfl⟩:=Q;obtain⟨v,u,g',B,w',z,D,A,j⟩:=zMa (P:=P) h q.inv (q.ev ox) (q.ev oy) o.type;refine jX (I ?_) ⟨u,v,g',B,rfl,D,A,z⟩;have J:c.argTypes=#[t,V]:=by apply zXK;simpa using F
    have S:V=t:=by
     unfold xS at h;split at h
     .exact h.1
     .exact h.1
     .cases h
    subst S;rw[G,J];exact xJ j
   .rename_i t O x F s;have Q:∃ox,c.args.toList=[ox]/\e.ev ox=x:=by
     cases E:c.args.toList with
     |nil=>simp[E]at s
     |cons ox C=>cases C with
      |nil=>simp[E]at s;exact⟨ox,rfl,s⟩
      |cons _ _=>simp[E]at s
    obtain⟨ox,G,rfl⟩:=Q;obtain⟨B,w',z,D,j⟩:=zNT (P:=P) h q.inv (q.ev ox) O o.type;refine jX (I ?_) ⟨.tuple #[],.tup [],g,B,rfl,D,⟨[],.nil,rfl⟩,z⟩;have J:c.argTypes=(t::O).toArray:=by apply zXK;simpa using F
    rw[G,J];exact xJ j
   .cases h
  .exact h.elim
 .rename_i f t x l;obtain⟨v,z,H,j⟩:=zO4 (P:=P) h (q.ev x);exact yu q.inv (by unfold execOp;rw[l];exact xJ j) (RV_at_mk H) z
 .rename_i t r l;obtain⟨T,h⟩:=h;have U:r=none:=by simpa using T
  subst U;obtain⟨v,u,g',B,w',z,D,A,j⟩:=zKr (P:=P) h q.inv t;exact jX (by unfold execOp;rw[l];exact xJ j) ⟨u,v,g',B,rfl,D,A,z⟩
 .rename_i t x i c l;obtain⟨v,u,z,A,j⟩:=zLt h q.inv (q.ev x) (q.ev i);exact yu q.inv (by unfold execOp;rw[l];exact xJ j) A z
 .rename_i t m k y l;obtain⟨B,w',z,D,j⟩:=zIZ h q.inv (q.ev m) (q.ev k) (q.ev y);exact zId (by unfold execOp;rw[l];exact zK2 j) ⟨undef,.any,g,B,rfl,D,trivial,z⟩
 .rename_i t x l;obtain⟨v,u,z,A,j⟩:=zKt h (q.ev x);exact yu q.inv (by unfold execOp;rw[l];exact xJ j) A z
 .rename_i fn first caps l;obtain⟨hf,v,z,A⟩:=zP7 (first:=first.toList) (caps:=caps.toList) h q.ev;have J:first=#[]:=by apply zXK;simpa using hf
  subst J;refine yu q.inv (u:=.func fn #[] (caps.toList.map a.eval).toArray) ?_ A z;unfold execOp;rw[l];have S:(caps.toList.map a.eval).toArray=caps.map a.eval:=by apply zXK;simp
  rw[S];simp[Instr.makeFunc]
 .rename_i x l;obtain⟨v,z,j⟩:=zNU (P:=P) h (q.ev x);refine zNZ (v:=v) (by unfold execOp;rw[l];simp[j,Sem.run_bind,Result.andThen]) ⟨_,g,st,rfl,rfl,Out.refl q.inv,z⟩
 .cases h
end
open Go.RowKit
section
variable{P:Program}{L:Pol}{X:Cx}{g:Gh}{w:World}{a:Act}{o:Oper}{e:Env}{st:S}{KP:List PanicEntry->S->Prop}
def jH(ds:List (Option Nat))(e:Env)(c:Option (Nat×Bool)):Option Bool:=
 match c with
 |none=>some true
 |some (j,b)=>
  match ds.getD j none with
  |none=>none
  |some d=>match e.get d with
   |.at (.bool t)=>some (t==b)
   |.tup []=>some false
   |_=>none
def zt(P:Program)(L:Pol)(ds:List (Option Nat))(KP:List PanicEntry->S->Prop)(o:Oper)(K:Env->S->Prop)(e:Env)(st:S):Prop:=
 match jH ds e o.guard with
 |none=>False
 |some c=>if c=true then aop P L e st o (λv b=>K (e.putO o.dst v) b) KP else K (e.putO o.dst (.tup [])) st
def AL(P:Program)(L:Pol)(ds:List (Option Nat))(KP:List PanicEntry->S->Prop):List Oper->(Env->S->Prop)->Env->S->Prop
 |[],K,e,st=>K e st
 |o::os,K,e,st=>zt P L ds KP o (AL P L ds KP os K) e st
def zOI(o:Oper):Bool:=match o.op with|.defer _=>false|_=>true
def zEA(N:NF)(l:List Oper):Bool:=l.all λo=>(match o.dst with|some d=>N.ok d|none=>true)&&zOI o
theorem zP2{ops:Array Oper}{ds:List (Option Nat)}(m:ds=ops.toList.map (·.dst))(s:Rel X g e st a w){c:Bool}(h:jH ds e o.guard=some c):Region.wanted o (yielded ops a.tmps)=c:=by
 unfold jH at h;unfold Region.wanted;cases u:o.guard with
 |none=>rw[u]at h;injection h with h; 
 |some p=>
  obtain⟨j,b⟩:=p;rw[u]at h;simp only at h ⊢;cases i:ds.getD j none with
  |none=>rw[i]at h;cases h
  |some d=>
   rw[i]at h;simp only at h;split at h
   .rename_i t q;injection h with h
    have r:(ops[j]?).bind (·.dst)=some d:=by
     subst m;simp only[zWk,zWM,zW3]at i;cases f:ops[j]? with
     |none=>simp[f]at i
     |some x=>simpa [f]using i
    have n:=s.env d;rw[q]at n;have k:=zr n;have l:a.tmps[d]?=some (.bool t):=by
     rw[zWS]at k;cases f:a.tmps[d]? with
     |none=>rw[f]at k;simp[undef]at k
     |some v=>rw[f]at k;simpa using k
    have:yielded ops a.tmps j=some t:=by unfold yielded;rw[r];simp[l]
    rw[this,<-h];cases t<;>cases b<;>rfl
   .rename_i q;injection h with h
    have r:(ops[j]?).bind (·.dst)=some d:=by
     subst m;simp only[zWk,zWM,zW3]at i;cases f:ops[j]? with
     |none=>simp[f]at i
     |some x=>simpa [f]using i
    have n:=s.env d;rw[q]at n;obtain⟨us,k,l⟩:=n;cases k;have:yielded ops a.tmps j=none:=by
     unfold yielded;rw[r];rw[zWS]at l;cases f:a.tmps[d]? with
     |none=>simp[f]
     |some v=>rw[f]at l;simp at l;simp[f,l]
    rw[this,<-h];rfl
   .cases h
theorem zRn{N:NF}{l:List Oper}(h:zEA N l=true)(b:o∈l):∀t,o.dst=some t->N.ok t=true:=by
 intro t c;have:=(zV5 _ _▸zWL.1 h o b).1;rw[c]at this;simpa using this
theorem zF3{N:NF}{l:List Oper}(h:zEA N l=true)(b:o∈l):∀c,o.op≠.defer c:=by
 intro c e;have:=(zV5 _ _▸zWL.1 h o b).2;unfold zOI at this;rw[e]at this;cases this
def Goes(X:Cx)(g:Gh)(w:World)(Q:Exit->Env->S->Prop):Exit->Act->World->Prop:=
 λex a' w'=>∃g' e' b,Step X.B g w g' w'/\Rel X g' e' b a' w'/\Q ex e' b
theorem zHC{ops:Array Oper}{ds:List (Option Nat)}(q:ds=ops.toList.map (·.dst)){Q:Exit->Env->S->Prop}(F:∀c s,KP c s->Q (.panic c) [] s)
 {i:Nat} (G:ops[i]?=some o) (j:∀t,o.dst=some t->X.N.ok t=true) {K:Env->S->Prop} (h:zt P L ds KP o K e st) {g0:Gh} {w0:World} (y:Step X.B g0 w0 g w) (l:Rel X g e st a w) :
 wpOp P ops (Goes X g0 w0 Q) i (λa' w'=>∃g' e' b,Step X.B g0 w0 g' w'/\Rel X g' e' b a' w'/\K e' b) a w:=by
 unfold zt at h;unfold wpOp;simp only[G];cases z:jH ds e o.guard with
 |none=>rw[z]at h;exact h.elim
 |some c=>
  rw[z]at h;simp only at h;rw[zP2 q l z];cases c with
  |false=>
   simp only[zWO,zWA]at h ⊢;exact⟨g,_,st,y,l.put (x:=.tup []) (u:=undef) (Later.refl _ _) (Below.refl _ _) l.inv ⟨[],.nil,rfl⟩ _ j,h⟩
  |true=>
   simp only[zWE]at h ⊢;have H:=zQ9 h l;refine .inl ?_;have A:∀(r:Result Next),o.upon P a (zIB X g w o a λv b=>K (e.putO o.dst v) b) (zH1 X g w a KP) r ->
    o.upon P a (λa' w'=>∃g' e' b,Step X.B g0 w0 g' w'/\Rel X g' e' b a' w'/\K e' b) (Goes X g0 w0 Q) r:=by
    have C:∀a' w',zIB X g w o a (λv b=>K (e.putO o.dst v) b) a' w'->∃g' e' b,Step X.B g0 w0 g' w'/\Rel X g' e' b a' w'/\K e' b:=by
     rintro a' w' ⟨u,v,g',b,rfl,f,D,I⟩;exact⟨g',_,b,y.trans f.step,l.put f.step.later f.step.below f.inv D _ j,I⟩
    have E:∀ex a' w',zH1 X g w a KP ex a' w'->Goes X g0 w0 Q ex a' w':=by
     rintro ex a' w' ⟨c,g',b,rfl,rfl,f,D⟩;exact⟨g',[],b,y.trans f.step,⟨f.inv,λk=>trivial,l.size,l.df,l.gl.below f.step.below f.step.later.wm⟩,F c b D⟩
    intro r m;cases r with
    |ok n w'=>
     cases n<;>simp only[Oper.upon]at m ⊢ <;>
      first
       |exact C _ _ m
       |exact m.elim
       |exact Calls.mono m (λ(J:Ending) M p=>by
        cases J with
        |returned v=>exact C _ _ p
        |panicked R=>exact E _ _ _ p
        |outgrown=>obtain⟨a1,w1,O⟩:=p;exact⟨a1,w1,E _ _ _ O⟩)
       |exact Rows.mono m (λ_ _ p=>C _ _ p)
    |halt x w'=>cases x<;>simp only[Oper.upon]at m ⊢<;>first|exact E _ _ _ m|exact m.elim
   exact A _ H
theorem zLh{ops:Array Oper}{ds:List (Option Nat)}(m:ds=ops.toList.map (·.dst)){Q:Exit->Env->S->Prop}(r:∀c s,KP c s->Q (.panic c) [] s){K:Env->S->Prop}(u:∀e s,K e s->Q .normal e s){g0:Gh}{w0:World} :
 ∀(l:List Oper)(k:Nat)(_:∀j,l[j]?=ops[k+j]?)(_:∀o∈l,∀t,o.dst=some t->X.N.ok t=true){e:Env}{st:S}{g:Gh}{a:Act}{w:World},
  AL P L ds KP l K e st->Step X.B g0 w0 g w->Rel X g e st a w->wpList P ops (Goes X g0 w0 Q) l a w
 |[],k,_,_,e,st,g,a,w,h,n,p=>⟨g,e,st,n,p,u e st h⟩
 |o::l,k,v,x,e,st,g,a,w,h,n,p=>by
  have y:ops[k]?=some o:=by simpa using(v 0).symm
  have i:=zHC m r y (x o (by simp)) h n p;unfold wpOp at i;simp only[y]at i;unfold wpList;have b:∀a' w',(∃g' e' f,Step X.B g0 w0 g' w'/\Rel X g' e' f a' w'/\AL P L ds KP l K e' f)->wpList P ops (Goes X g0 w0 Q) l a' w':=by
   rintro a' w' ⟨g',e',f,z,A,C⟩;exact zLh m r u l (k+1) (λj=>by have:=v (j+1);simpa [zX7,zYZ 1 j]using this) (λo D=>x o (by simp[D])) C z A
  split
  .rename_i q;simp only[q,zWE]at i;exact i.imp (Oper.wp_mono b) id
  .rename_i q;simp only[q]at i;exact b _ _ i
theorem zVP{P:Program}{o:Oper}{a:Act}{w:World}{i:Option Nat}{n:Nat}{next:Act->World->Prop}{Q:Exit->Act->World->Prop}(m:∀c,o.op≠.defer c)(h:o.wp P a w next Q):o.wpIn (fen i) n P a w next Q:=by
 refine⟨λ_ _=>trivial,?_⟩;rw[Oper.semAt_eq _ _ _ m];unfold Oper.wp at h;generalize(execOp a.eval o).run P w=r at h;have j:∀{b:String}{args:Array Value}{w':World}{R:Value->World->Prop},Rows P b args w' R->RowsIn (fen i) (n-1) P b args w' R:=λk c cs _=>let⟨v,w2,r,st⟩:=k c cs;⟨v,w2,r,stepsIn_wide.2 st⟩
 have l:∀{f:FuncId}{args:Array Value}{w':World}{R:Ending->World->Prop},Calls P f args w' R->CallsIn (fen i) (n-1) P f args w' R:=λk=>(callsIn_wide (n:=n-1)).2 k;cases r with
 |ok x w'=>
  cases x<;>simp only[Oper.upon,Oper.uponIn]at h ⊢ <;>
   first
    |exact h
    |exact⟨λe=>(by cases e),l h⟩
    |exact⟨λe=>(by cases e),j h⟩
    |exact h.elim
 |halt x w'=>cases x<;>simp only[Oper.upon,Oper.uponIn]at h ⊢<;>exact h
theorem zDO{P:Program}{ops:Array Oper}{q:Option Nat}{n:Nat}{Q:Exit->Act->World->Prop}(f:∀o∈ops.toList,∀c,o.op≠.defer c)(j:¬LetsOut Q):∀(l:List Nat)(a:Act)(w:World),wpOps P ops Q l a w->wpOpsIn (fen q) n P ops Q l a w
 |[],a,w,h=>h
 |i::b,a,w,h=>by
  unfold wpOps at h;unfold wpOpsIn;cases m:ops[i]? with
  |none=>rw[m]at h;exact zDO f j b a w h
  |some o=>
   rw[m]at h;simp only at h ⊢;have r:o∈ops.toList:=by simpa using zYP m
   split
   .rename_i p;rw[if_pos p]at h;rcases h with h|h
    .exact zVP (f o r) (Oper.wp_mono (λa' w' k=>zDO f j b a' w' k) h)
    .exact absurd h.2 j
   .rename_i p;rw[if_neg p]at h;exact⟨λ_ _=>trivial,zDO f j b _ w h⟩
theorem zKW{X:Cx}{g:Gh}{w:World}{Q:Exit->Env->S->Prop}(b:∀e s,¬Q .outgrown e s):¬LetsOut (Goes X g w Q):=λ⟨_,_,_,_,_,_,_,h⟩=>b _ _ h
def inQ(Q:Exit->Env->S->Prop):Exit->Env->S->Prop
 |.normal,e,s=>Q .normal e s
 |.panic c,e,s=>Q (.panic c) e s
 |_,_,_=>False
theorem zMu{X:Cx}{g:Gh}{w:World}{Q:Exit->Env->S->Prop}:∀ex a' w',Goes X g w (inQ Q) ex a' w'->Goes X g w Q ex a' w':=by
 rintro ex a' w' ⟨g',e',b,f,h,c⟩;refine⟨g',e',b,f,h,?_⟩;cases ex<;>first|exact c|exact c.elim
theorem zQA{Q:Exit->Env->S->Prop}{id:Nat}{l:List Oper}(ds:List (Option Nat))(b:l.map (·.dst)=ds)(m:zEA X.N l=true)
 (h:AL P L ds (λc s=>Q (.panic c) [] s) l (λe' n=>Q .normal e' n) e st):awp P X (.region id l.toArray false) Q e st:=by
 intro g a w p;have f:∀o∈l.toArray.toList,∀c,o.op≠.defer c:=λo i=>zF3 m (by simpa using i);have q:wpList P l.toArray (Goes X g w (inQ Q)) l a w:=zLh (ops:=l.toArray) (ds:=ds) (by simpa using b.symm) (λ_ _ k=>k) (λ_ _ k=>k) l 0 (λj=>by simp) (λo i=>zRn m i) h (Step.refl _ _ _) p;refine wpIn_mono (wpIn_region (zDO f (zKW λ_ _ k=>k) _ a w ?_)) zMu;have r:=wpOps_eq_wpList (P:=P) (ops:=l.toArray) (Q:=Goes X g w (inQ Q)) l 0 (λj=>by simp);rw[List.range_eq_range'];rw[show l.toArray.size=l.length from by simp,r];exact q
end
open Go.RowKit
def yk(P:Program):List ResultVar->Env->S->(List V->Prop)->Prop
 |[],_,_,K=>K []
 |.tmp t::rs,e,st,K=>zJ (e.get t).flat/\yk P rs e st λxs=>K ((e.get t).untag::xs)
 |.cell p t::rs,e,st,K=>xH P st t (e.get p) λv=>zJ v.flat/\yk P rs e st λxs=>K (v.untag::xs)
def finV:List V->V
 |[x]=>x
 |xs=>.tup xs
def jh:Nat->List V->Env
 |_,[]=>[]
 |n,x::xs=>(n,x)::jh (n+1) xs
def retE(P:Program)(rs:List ResultVar)(Q:Outc->S->Prop):Exit->Env->S->Prop
 |.normal,e,st|.ret,e,st=>yk P rs e st λxs=>Q (.ret (finV xs)) st
 |.panic c,_,st=>Q (.pan c) st
 |_,_,_=>False
def xo(P:Program):List ResultVar->Env->S->(List V->Prop)->Prop
 |[],_,_,K=>K []
 |.tmp t::rs,e,st,K=>zJ (e.get t).flat/\xo P rs e st λxs=>K (e.get t::xs)
 |.cell p t::rs,e,st,K=>xH P st t (e.get p) λv=>zJ v.flat/\xo P rs e st λxs=>K (v::xs)
def retER(P:Program)(rs:List ResultVar)(Q:Outc->S->Prop):Exit->Env->S->Prop
 |.normal,e,st|.ret,e,st=>xo P rs e st λxs=>∃b,st.sub b/\Q (.ret (finV xs)) b
 |.panic c,_,st=>Q (.pan c) st
 |_,_,_=>False
section
variable{P:Program}{X:Cx}{g:Gh}{w:World}{a:Act}{e:Env}{st:S}
theorem zKH:∀(xs:List V)(n k:Nat),(jh n xs).get k=if n<=k/\k<n+xs.length then xs.getD (k-n) .any else .any
 |[],n,k=>by simp[jh,Env.get]
 |x::xs,n,k=>by
  simp only[jh,Env.get];by_cases h:n=k
  .subst h;simp
  .rw[if_neg h,zKH xs (n+1) k];by_cases b:n+1<=k/\k<n+1+xs.length
   .rw[if_pos b,if_pos (by simp;omega)];have:k-n=(k-(n+1))+1:=by omega
    rw[this];simp
   .rw[if_neg b,if_neg (by simp;omega)]
theorem zDi{B N:Nat}{args:List V}{vs:List Value}(hi:Inv B g st w)(f:GlobOk B g.wm w)(i:RVs g w args vs)(p:args.length<=N) :
 Rel ⟨B,⟨N,[]⟩,none,[]⟩ g (jh 0 args) st { tmps:=vs.toArray++Array.replicate (N-vs.toArray.size) undef,defers:=[] } w:=by
 have q:=i.length;refine⟨hi,λk=>?_,by simp;omega,rfl,f⟩;rw[zKH];split
 .rename_i h;have j:k<args.length:=by omega
  obtain⟨u,c,l⟩:=i.get k args[k] (zWX j);have b:k<vs.length:=by omega
  have m:args.getD (k-0) .any=args[k]:=by simp[j]
  rw[m];have n:(vs.toArray++Array.replicate (N-vs.toArray.size) undef).getD k undef=u:=by
   rw[zWX b]at c;injection c with c
   rw[zWS,zYw (by simpa using b)];simp[b,c]
  rw[n];exact RV.of_RV1 l
 .trivial
theorem zB7{x:V}{u:Value}(h:RV g w x u)(b:zJ x.flat):RV1 g.bare w x.untag u:=by
 obtain⟨us,c,_,f⟩:=zC9 h b;exact⟨us,zAo c b,by rw[f,zCa]⟩
def qY(b:Array Value):ResultVar->Sem Value
 |.tmp t=>pure (b.getD t undef)
 |.cell p t=>do loadVar t (<-asAddr (b.getD p undef))
theorem kH:∀{rs:List ResultVar}{K:List V->Prop}(_:yk P rs e st K)(_:Rel X g e st a w),∃xs us,K xs/\RVs g.bare w xs us /\
 (rs.mapM (qY a.tmps)).run P w=.ok us w
 |[],K,h,f=>⟨[],[],h,.nil,by simp⟩
 |.tmp t::rs,K,h,f=>by
  obtain⟨l,m⟩:=h;obtain⟨xs,us,n,q,r⟩:=kH m f;refine⟨_,a.tmps.getD t undef::us,n,.cons (zB7 (f.env t) l) q,?_⟩;simp only[zXu,Sem.run_bind,qY,Sem.run_pure,Result.andThen_ok];rw[r];rfl
 |.cell p t::rs,K,h,f=>by
  obtain⟨v,u,⟨l,m⟩,z,c⟩:=zEm h f.inv (f.env p);obtain⟨xs,us,n,q,r⟩:=kH m f;have i:∃x,a.tmps.getD p undef=.pointer (some x):=by
   have k:=f.env p;replace h:xH P st t (e.get p) (λv=>zJ v.flat/\yk P rs e st λxs=>K (v.untag::xs)):=h;unfold xH at h;split at h
   .rename_i y s;rw[s]at k;obtain⟨b,o,ds,A,_⟩:=zCy k;exact⟨_,A⟩
   .rename_i b o s;rw[s]at k;exact⟨_,zr k⟩
   .cases h
  obtain⟨x,j⟩:=i;refine⟨_,u::us,n,.cons (zB7 z l) q,?_⟩;rw[j]at c;simp only[Instr.loadAt,Instr.sureAddr,Sem.run_bind,Sem.run_pure,Result.andThen_ok]at c;simp only[zXu,Sem.run_bind,qY,j,asAddr,Sem.run_pure,Result.andThen_ok,c];rw[r];rfl
theorem zFf{xs:List V}{us:List Value}(h:RVs g w xs us):RV g w (finV xs) (if h:us.toArray.size=1 then us.toArray[0]else .tuple us.toArray):=by
 cases h with
 |nil=>simp[finV];exact⟨[],.nil,rfl⟩
 |cons h b=>
  cases b with
  |nil=>simp[finV];exact RV.of_RV1 h
  |cons c b=>
   simp[finV];exact⟨_,.cons h (.cons c b),rfl⟩
theorem jd{b:Func}{us:List Value}(h:(b.results.toList.mapM (qY a.tmps)).run P w=.ok us w) :
 (results b a.tmps).run P w=.ok (if h:us.toArray.size=1 then us.toArray[0]else .tuple us.toArray) w:=by
 have e:results b a.tmps=(do let vs <-b.results.mapM (qY a.tmps);pure (if h:vs.size=1 then vs[0]else .tuple vs)):=by
  unfold results;congr 1
 rw[e,zY1];have:(Functor.map List.toArray (b.results.toList.mapM (qY a.tmps))).run P w=.ok us.toArray w:=by
  rw[<-bind_pure_comp,Sem.run_bind,h];rfl
 rw[Sem.run_bind,this];rfl
theorem zIi{x:V}{u:Value}(h:RV g w x u)(b:zJ x.flat):RV1 g w x u:=by
 obtain⟨us,c,_,f⟩:=zC9 h b;exact⟨us,c,f⟩
theorem zBh:∀{rs:List ResultVar}{K:List V->Prop}(_:xo P rs e st K)(_:Rel X g e st a w),∃xs us,K xs/\RVs g w xs us /\
 (rs.mapM (qY a.tmps)).run P w=.ok us w
 |[],K,h,f=>⟨[],[],h,.nil,by simp⟩
 |.tmp t::rs,K,h,f=>by
  obtain⟨l,m⟩:=h;obtain⟨xs,us,n,q,r⟩:=zBh m f;refine⟨_,a.tmps.getD t undef::us,n,.cons (zIi (f.env t) l) q,?_⟩;simp only[zXu,Sem.run_bind,qY,Sem.run_pure,Result.andThen_ok];rw[r];rfl
 |.cell p t::rs,K,h,f=>by
  obtain⟨v,u,⟨l,m⟩,z,c⟩:=zEm h f.inv (f.env p);obtain⟨xs,us,n,q,r⟩:=zBh m f;have i:∃x,a.tmps.getD p undef=.pointer (some x):=by
   have k:=f.env p;replace h:xH P st t (e.get p) (λv=>zJ v.flat/\xo P rs e st λxs=>K (v::xs)):=h;unfold xH at h;split at h
   .rename_i y s;rw[s]at k;obtain⟨b,o,ds,A,_⟩:=zCy k;exact⟨_,A⟩
   .rename_i b o s;rw[s]at k;exact⟨_,zr k⟩
   .cases h
  obtain⟨x,j⟩:=i;refine⟨_,u::us,n,.cons (zIi z l) q,?_⟩;rw[j]at c;simp only[Instr.loadAt,Instr.sureAddr,Sem.run_bind,Sem.run_pure,Result.andThen_ok]at c;simp only[zXu,Sem.run_bind,qY,j,asAddr,Sem.run_pure,Result.andThen_ok,c];rw[r];rfl
theorem zKi{f:FuncId}{k:Func}{c:Code}{args:List V}{Q:Outc->S->Prop}{N:Nat}{rs:List ResultVar}(u:P.funcs[f]?=some k)(x:k.body=some c)(y:k.ntmps=N)(q:k.results=rs.toArray)(z:args.length<=N)
 (h:∀B,awp P ⟨B,⟨N,[]⟩,none,[]⟩ c (retER P rs Q) (jh 0 args) st):FnC P f args st Q:=by
 intro B g w vs hi s A;refine calls_of_wp u x ?_;have C:=zDi (N:=N) hi s A z;rw[y];refine wpIn_wide.1 (wpIn_mono (h B g _ w C) ?_);rintro ex a' w' ⟨g',e',b,t,m,i⟩;have n:k.results.toList=rs:=by rw[q]
 subst n;have j:xo P k.results.toList e' b (λxs=>∃p,b.sub p/\Q (.ret (finV xs)) p)->a'.defers=[]/\∃v,(results k a'.tmps).run P w'=.ok v w' /\
  ∃g' b,Step B g w g' w'/\Inv B g' b w'/\∃r,RV g' w' r v/\Q (.ret r) b:=by
  intro i;obtain⟨xs,us,⟨p,k0,D⟩,E,F⟩:=zBh i m;exact⟨m.df,_,jd F,g',p,t,m.inv.weaken k0,_,zFf E,D⟩
 cases ex with
 |normal=>exact j i
 |ret=>exact j i
 |panic c=>exact⟨m.df,g',b,t,m.inv,i⟩
 |exit id=>exact i.elim
 |goto l=>exact i.elim
 |outgrown=>exact i.elim
theorem zNV{f:FuncId}{n:Func}{c:Code}{args:List V}{r:V}{N:Nat}{rs:List ResultVar}(I:P.funcs[f]?=some n)(s:n.body=some c)(J:n.ntmps=N)(A:n.results=rs.toArray)(M:args.length<=N)
 (h:∀B,awp P ⟨B,⟨N,[]⟩,none,[]⟩ c (retE P rs λoc _=>oc=.ret r) (jh 0 args) ⟨[],[],0,[]⟩):PureF P f args r:=by
 intro H w vs C D O;refine calls_of_wp I s ?_;have hi:Inv w.heap.size ⟨H,λ_=>none,Fr.no⟩ ⟨[],[],0,[]⟩ w:=
  ⟨zV7 _,(λb cs k u=>(by cases u)),(λt p=>(by cases p)),(λt p=>(by cases p)),(λt p=>(by cases p)),zW7,C,λ_ _=>rfl,⟨(λb s=>by cases s),(λb o Q u=>(by cases u)),(λb o Q W o' R j u=>(by cases u)),(λt p=>by cases p)⟩⟩
 have S:=zDi (N:=N) hi D O M;rw[J];refine wpIn_wide.1 (wpIn_mono (h _ _ _ w S) ?_);rintro ex a' w' ⟨g',e',E,z,F,i⟩;have x:n.results.toList=rs:=by rw[A]
 subst x;have m:yk P n.results.toList e' E (λxs=>(Outc.ret (finV xs))=.ret r)->a'.defers=[]/\∃v,(results n a'.tmps).run P w'=.ok v w' /\
  ∃y q,Ending.returned v=.returned y/\(∀b,w'.heap.size<=b->q b=0)/\Step w.heap.size ⟨H,λ_=>none,Fr.no⟩ w ⟨q,λ_=>none,Fr.no⟩ w'/\RV ⟨q,λ_=>none,Fr.no⟩ w' r y:=by
  intro i;obtain⟨xs,us,G,T,U⟩:=kH i F;injection G with G
  subst G;exact⟨F.df,_,jd U,_,g'.wm,rfl,F.inv.fresh,⟨⟨z.later.wm,(λ_ _ e=>(by cases e)),z.later.cell⟩,z.below,(λb s=>by cases s),z.wmB,rfl⟩,RV.fr _ _ (zFf T)⟩
 cases ex with
 |normal=>exact m i
 |ret=>exact m i
 |panic c=>cases i
 |exit id=>exact i.elim
 |goto l=>exact i.elim
 |outgrown=>exact i.elim
end
section
variable{P:Program}{L:Pol}{ds:List (Option Nat)}{KP:List PanicEntry->S->Prop}{os:List Oper}{K:Env->S->Prop}{e:Env}{st:S}
variable{d:Option Nat}{ty:TypeId}{pos:String}{af:Array Edge}
theorem yE:AL P L ds KP [] K e st=K e st:=rfl
theorem xi(x:Operand):AL P L ds KP (⟨d,.move x,ty,pos,af,none⟩::os) K e st=AL P L ds KP os K (e.putO d (e.ev x)) st:=rfl
theorem zAK(x:Operand):AL P L ds KP (⟨d,.assign x,ty,pos,af,none⟩::os) K e st=AL P L ds KP os K (e.putO d (e.ev x)) st:=rfl
theorem jL(c x y:Operand):AL P L ds KP (⟨d,.pick c x y,ty,pos,af,none⟩::os) K e st=zB4 (e.ev c) (e.ev x) (e.ev y) λv=>AL P L ds KP os K (e.putO d v) st:=rfl
theorem zIP(b:BinOp)(t:TypeId)(x y:Operand)(c:TypeId):AL P L ds KP (⟨d,.binOp b t x y c,ty,pos,af,none⟩::os) K e st=zB8 P b t (zGo y) (e.ev x) (e.ev y) λv=>AL P L ds KP os K (e.putO d v) st:=rfl
theorem zG2(b:UnOp)(t:TypeId)(x:Operand):AL P L ds KP (⟨d,.unOp b t x,ty,pos,af,none⟩::os) K e st=aUn b (e.ev x) λv=>AL P L ds KP os K (e.putO d v) st:=rfl
theorem qD(t:TypeId)(x:Operand)(f:Nat):AL P L ds KP (⟨d,.fieldAddr t x f,ty,pos,af,none⟩::os) K e st=yY P t (e.ev x) f λv=>AL P L ds KP os K (e.putO d v) st:=rfl
theorem zTB(t:TypeId)(x i:Operand):AL P L ds KP (⟨d,.index t x i,ty,pos,af,none⟩::os) K e st=kp P t (e.ev x) (e.ev i) λv=>AL P L ds KP os K (e.putO d v) st:=rfl
theorem zUk{pf rf:FuncId->Bool}{wr own:Nat->Bool}{b:Nat->List Nat}(x:Operand)(v:V):ldK ⟨pf,wr,own,rf,[],b⟩ x v:=by
 cases x<;>first|trivial|(intro p c;cases c)
theorem yq{pf rf:FuncId->Bool}{wr own:Nat->Bool}{b:Nat->List Nat}(t:TypeId)(x:Operand):AL P ⟨pf,wr,own,rf,[],b⟩ ds KP (⟨d,.load t x,ty,pos,af,none⟩::os) K e st=xH P st t (e.ev x) λv=>AL P ⟨pf,wr,own,rf,[],b⟩ ds KP os K (e.putO d v) st:=
 propext ⟨λh=>h.2,λh=>⟨zUk x _,h⟩⟩
theorem zVe{pf rf:FuncId->Bool}{wr own:Nat->Bool}{c:List (Nat×Nat)}(x:Operand)(v:V):stK ⟨pf,wr,own,rf,c,λ_=>[]⟩ x v:=by
 cases x<;>first|trivial|(intro b o _ h;cases h)
theorem qt{pf rf:FuncId->Bool}{wr own:Nat->Bool}(t:TypeId)(x y:Operand):AL P ⟨pf,wr,own,rf,[],λ_=>[]⟩ ds KP (⟨d,.store t x y,ty,pos,af,none⟩::os) K e st=qS P st t (e.ev x) (e.ev y) λb=>AL P ⟨pf,wr,own,rf,[],λ_=>[]⟩ ds KP os K (e.putO d .any) b:=
 propext ⟨λh=>h.2,λh=>⟨zVe x _,h⟩⟩
theorem zLu(t:TypeId):AL P L ds KP (⟨d,.alloc t,ty,pos,af,none⟩::os) K e st=jk P st t λv b=>AL P L ds KP os K (e.putO d v) b:=rfl
theorem zRo(t:TypeId)(x:Operand):AL P L ds KP (⟨d,.box t x,ty,pos,af,none⟩::os) K e st=aNew st (e.ev x).flat λv b=>AL P L ds KP os K (e.putO d v) b:=rfl
theorem zMT(t:TypeId)(ps:List (Nat×Operand)):AL P L ds KP (⟨d,.build t ps.toArray,ty,pos,af,none⟩::os) K e st=zCu P t (ps.map λp=>(p.1,e.ev p.2)) λv=>AL P L ds KP os K (e.putO d v) st:=rfl
theorem zFU(t:TypeId)(n:Nat)(ps:List (Nat×Operand)):AL P L ds KP (⟨d,.buildSlice t n ps.toArray,ty,pos,af,none⟩::os) K e st=yU P L d st t n (ps.map λp=>(p.1,e.ev p.2)) λv b=>AL P L ds KP os K (e.putO d v) b:=rfl
theorem qe(x:Operand):AL P L ds KP (⟨d,.nilCheck x,ty,pos,af,none⟩::os) K e st=xQ (e.ev x) λv=>AL P L ds KP os K (e.putO d v) st:=rfl
theorem AL_len(t:TypeId)(x:Operand):AL P L ds KP (⟨d,.call ⟨.builtin .len,#[x],#[t]⟩,ty,pos,af,none⟩::os) K e st=aLen P t (e.ev x) λv=>AL P L ds KP os K (e.putO d v) st:=rfl
theorem zJ8(t c:TypeId)(x y:Operand):AL P L ds KP (⟨d,.call ⟨.builtin .append,#[x,y],#[t,c]⟩,ty,pos,af,none⟩::os) K e st=xS P L d st t c (e.ev x) (e.ev y) λv b=>AL P L ds KP os K (e.putO d v) b:=rfl
def zAN:V->Bool->Prop->Prop->Prop
 |.at (.bool t),b,A,B=>if t=b then A else B
 |.tup [],_,_,B=>B
 |_,_,_,_=>False
theorem zTH(f:Op)(j:Nat)(b:Bool)(t:Nat)(h:ds.getD j none=some t):AL P L ds KP (⟨d,f,ty,pos,af,some (j,b)⟩::os) K e st =
 zAN (e.get t) b (AL P L ds KP (⟨d,f,ty,pos,af,none⟩::os) K e st) (AL P L ds KP os K (e.putO d (.tup [])) st):=by
 show zt P L ds KP ⟨d,f,ty,pos,af,some (j,b)⟩ (AL P L ds KP os K) e st=zAN (e.get t) b (zt P L ds KP ⟨d,f,ty,pos,af,none⟩ (AL P L ds KP os K) e st) _;unfold zt zAN jH;simp only[h];cases i:e.get t with
 |tup vs=>cases vs<;>rfl
 |any=>rfl
 |agg fs=>rfl
 |lst tg es=>rfl
 |rptr x=>rfl
 |ifx=>rfl
 |clo k caps=>rfl
 |_=>
  rename_i v;cases v with
  |bool c=>cases c<;>cases b<;>rfl
  |_=>rfl
theorem qf(b:Bool)(A B:Prop):zAN (.at (.bool b)) b A B=A:=by simp[zAN]
theorem zQM(A B:Prop):zAN (.at (.bool true)) false A B=B:=rfl
theorem zDf(A B:Prop):zAN (.at (.bool false)) true A B=B:=rfl
theorem zVR{f:FuncId}{xs:List Operand}{b:Array TypeId}(r:V)(c:L.pf f=true)(i:zU P f=true)(j:((xs.map e.ev).all λx=>x.flat.all V.isOne)=true)(k:PureF P f ((xs.map e.ev).map V.untag) r)
 (h:AL P L ds KP os K (e.putO d r) st):AL P L ds KP (⟨d,.call ⟨.value (.func f),xs.toArray,b⟩,ty,pos,af,none⟩::os) K e st:=by
 show zU P f=true/\_/\_/\_;refine⟨i,j,rfl,?_⟩;rw[if_pos c];exact⟨rfl,r,k,h⟩
theorem yI{f:FuncId}{xs:List Operand}{q:Array TypeId}{Q:Outc->S->Prop}(as:List V)(t:L.pf f=false)(u:L.rf f=false)(y:klb L d=[])(z:zU P f=true)(A:((xs.map e.ev).all λx=>x.flat.all V.isOne)=true)(j:Sub (xs.map e.ev) as)(C:FnC P f as st Q)
 (h:∀r s,Q (.ret r) s->AL P L ds KP os K (e.putO d r) s) (l:∀c s,Q (.pan c) s->KP c s):AL P L ds KP (⟨d,.call ⟨.value (.func f),xs.toArray,q⟩,ty,pos,af,none⟩::os) K e st:=by
 show zU P f=true/\_/\_/\_;refine⟨z,A,rfl,?_⟩;rw[if_neg (by simp[t]),if_neg (by simp[u])];refine⟨as,j,?_⟩;intro B g w vs hi m p;rw[zWc]at p;refine(C B g w vs hi m p).mono ?_;rintro D w' ⟨g',i,E,F,n⟩;refine⟨g',i,E,F,?_⟩;cases D with
 |returned v=>obtain⟨r,G,H⟩:=n;exact⟨r,G,(λb k=>by replace k:b∈klb L d:=k;rw[y]at k;cases k),h r i H⟩
 |panicked c=>exact l c i n
 |outgrown=>exact n.elim
theorem qy{x c:V}(h:x=c)(b:Bool)(A B:Prop):zAN x b A B=zAN c b A B:=by rw[h]
theorem jb{c b x f y i:V}(h:c=b)(j:x=f)(k:y=i)(K:V->Prop):zB4 c x y K=zB4 b f i K:=by rw[h,j,k]
theorem jw(P:Program)(b:BinOp)(t:TypeId){x c y f:V}(h:x=c)(i:y=f)(K:V->Prop):aBin P b t x y K=aBin P b t c f K:=by rw[h,i]
theorem zAB(b:UnOp){x c:V}(h:x=c)(K:V->Prop):aUn b x K=aUn b c K:=by rw[h]
theorem xx{x b:V}(h:x=b)(i:Nat)(K:V->Prop):kn x i K=kn b i K:=by rw[h]
theorem jE(P:Program)(t:TypeId){x b:V}(h:x=b)(f:Nat)(K:V->Prop):zRI P t x f K=zRI P t b f K:=by rw[h]
theorem xP(P:Program)(t:TypeId){x b:V}(h:x=b)(f:Nat)(K:V->Prop):yY P t x f K=yY P t b f K:=by rw[h]
theorem xN(P:Program)(t:TypeId){x b i c:V}(h:x=b)(f:i=c)(K:V->Prop):ym P t x i K=ym P t b c K:=by rw[h,f]
theorem qk(P:Program)(t:TypeId){x b i c:V}(h:x=b)(f:i=c)(K:V->Prop):kp P t x i K=kp P t b c K:=by rw[h,f]
theorem jV(P:Program){st b:S}(f:st=b)(t:TypeId){x c:V}(h:x=c)(K:V->Prop):xH P st t x K=xH P b t c K:=by rw[h,f]
theorem qo(P:Program){st b:S}(i:st=b)(t:TypeId){x c y f:V}(h:x=c)(j:y=f)(K:S->Prop):qS P st t x y K=qS P b t c f K:=by rw[h,i,j]
theorem j0{st b:S}(i:st=b){c f:List V}(h:c=f)(K:V->S->Prop):aNew st c K=aNew b f K:=by rw[h,i]
theorem qr(P:Program){st b:S}(c:st=b)(t:TypeId)(K:V->S->Prop):jk P st t K=jk P b t K:=by rw[c]
theorem jD(P:Program)(t:TypeId){ps b:List (Nat×V)}(h:ps=b)(K:V->Prop):zEJ P t ps K=zEJ P t b K:=by rw[h]
theorem xF(P:Program)(L:Pol)(d:Option Nat){st b:S}(f:st=b)(t:TypeId)(n:Nat){ps c:List (Nat×V)}(h:ps=c)(K:V->S->Prop):yU P L d st t n ps K=yU P L d b t n c K:=by rw[h,f]
theorem xW{x b:V}(h:x=b)(K:V->Prop):xQ x K=xQ b K:=by rw[h]
theorem qn(P:Program)(t:TypeId){x f:V}{lo b hi c:Option V}(h:x=f)(i:lo=b)(j:hi=c)(K:V->Prop):jo P t x lo hi K=jo P t f b c K:=by rw[h,i,j]
theorem jt(P:Program)(t:TypeId){x b:V}(h:x=b)(K:V->Prop):aLen P t x K=aLen P t b K:=by rw[h]
theorem jx{x b y c:V}(h:x=b)(f:y=c)(K:V->Prop):aMax x y K=aMax b c K:=by rw[h,f]
theorem qL(P:Program)(L:Pol)(d:Option Nat){st b:S}(j:st=b)(t c:TypeId){x f y i:V}(h:x=f)(k:y=i)(K:V->S->Prop):xS P L d st t c x y K=xS P L d b t c f i K:=by rw[h,j,k]
end
open Go.RowKit
def Pt(h:(V->Prop)->Prop):Prop:=∀K,h K->∃v,K v/\∀b,b v->h b
section
variable{P:Program}{L:Pol}{X:Cx}{e:Env}{st:S}{KP:List PanicEntry->S->Prop}
theorem zSz(c x y:V):Pt (zB4 c x y):=λK h=>by
 unfold zB4 at *;split at h
 .exact⟨_,h,λ_ k=>k⟩
 .cases h
theorem zVl(b:BinOp)(k:IntKind)(x y:Int):Pt (aInt b k x y):=λK h=>by
 cases b<;>simp only[aInt]at h ⊢
 case quo=>exact⟨_,h.2,λ_ q=>⟨h.1,q⟩⟩
 case rem=>exact⟨_,h.2,λ_ q=>⟨h.1,q⟩⟩
 case shl=>exact⟨_,h.2,λ_ q=>⟨h.1,q⟩⟩
 case shr=>exact⟨_,h.2,λ_ q=>⟨h.1,q⟩⟩
 all_goals exact⟨_,h,λ_ q=>q⟩
theorem zUo(b:BinOp)(x y:ByteArray):Pt (aStr b x y):=λK h=>by
 cases b<;>simp only[aStr]at h ⊢
 case add=>exact⟨_,h.2,λ_ q=>⟨h.1,q⟩⟩
 all_goals exact⟨_,h,λ_ q=>q⟩
theorem zBq(b:BinOp)(x y:Bool):Pt (kW b x y):=λK h=>by
 cases b<;>simp only[kW]at h ⊢
 all_goals exact⟨_,h,λ_ q=>q⟩
theorem zU6(i:BinOp)(t:TypeId)(x y:V):Pt (aBin P i t x y):=λK h=>by
 unfold aBin at *;split at h
 .obtain⟨v,b,c⟩:=zVl _ _ _ _ K h.2;exact⟨v,b,λf k=>⟨h.1,c f k⟩⟩
 .obtain⟨v,b,c⟩:=zBq _ _ _ K h.2;exact⟨v,b,λf k=>⟨h.1,c f k⟩⟩
 .obtain⟨v,b,c⟩:=zUo _ _ _ K h;exact⟨v,b,λf k=>c f k⟩
 .obtain⟨v,b,c⟩:=zBq _ _ _ K h.2;exact⟨v,b,λf k=>⟨h.1,c f k⟩⟩
 .obtain⟨v,b,c⟩:=zBq _ _ _ K h.2;exact⟨v,b,λf k=>⟨h.1,c f k⟩⟩
 .cases h
theorem zS5(j:BinOp)(t:TypeId)(c:Bool)(x y:V):Pt (zB8 P j t c x y):=λK h=>by
 unfold zB8 at *;split at h
 .obtain⟨v,b,f⟩:=zBq _ _ _ K h.2;exact⟨v,b,λi k=>⟨h.1,f i k⟩⟩
 .obtain⟨v,b,f⟩:=zBq _ _ _ K h.2.2;exact⟨v,b,λi k=>⟨h.1,h.2.1,f i k⟩⟩
 .obtain⟨us,vs,l,m,n,h⟩:=h;obtain⟨v,b,f⟩:=zBq _ _ _ K h;exact⟨v,b,λi k=>⟨us,vs,l,m,n,f i k⟩⟩
 .exact zU6 j t x y K h
theorem zTZ(f t:TypeId)(x:V):Pt (zFA P f t x):=λK h=>by
 unfold zFA at *;split at h
 .obtain⟨b,c,h⟩:=h;split at h
  .exact⟨_,h,λ_ k=>⟨b,c,k⟩⟩
  .cases h
 .split at h
  .exact⟨_,h.2,λ_ k=>⟨h.1,k⟩⟩
  .cases h
 .exact⟨_,h.2.2,λ_ k=>⟨h.1,h.2.1,k⟩⟩
 .cases h
theorem pt_aUn(b:UnOp)(x:V):Pt (aUn b x):=λK h=>by
 unfold aUn at *;split at h
 .split at h
  .exact⟨_,h,λ_ k=>k⟩
  .cases h
 .split at h
  .exact⟨_,h,λ_ k=>k⟩
  .exact⟨_,h,λ_ k=>k⟩
  .cases h
 .cases h
theorem zNd(x:V)(i:Nat):Pt (kn x i):=λK h=>by
 unfold kn at *;split at h
 .exact⟨_,h.2,λ_ k=>⟨h.1,k⟩⟩
 .cases h
theorem zKu(t:TypeId)(x:V)(f:Nat):Pt (yY P t x f):=λK h=>by
 unfold yY at *;split at h
 .exact⟨_,h.2.2.2,λ_ k=>⟨h.1,h.2.1,h.2.2.1,k⟩⟩
 .exact⟨_,h.2.2,λ_ k=>⟨h.1,h.2.1,k⟩⟩
 .cases h
theorem zKo(t:TypeId)(x i:V):Pt (ym P t x i):=λK h=>by
 unfold ym at *;split at h
 .exact⟨_,h.2.2.2,λ_ k=>⟨h.1,h.2.1,h.2.2.1,k⟩⟩
 .exact⟨_,h.2.2,λ_ k=>⟨h.1,h.2.1,k⟩⟩
 .cases h
theorem zRO(t:TypeId)(x i:V):Pt (kp P t x i):=λK h=>by
 unfold kp at *;split at h
 .exact⟨_,h.2.2,λ_ k=>⟨h.1,h.2.1,k⟩⟩
 .exact⟨_,h.2.2.2,λ_ k=>⟨h.1,h.2.1,h.2.2.1,k⟩⟩
 .cases h
theorem zMo(x:V):Pt (xQ x):=λK h=>by
 unfold xQ at *;split at h
 .exact⟨_,h,λ_ k=>k⟩
 .exact⟨_,h,λ_ k=>k⟩
 .cases h
theorem zQh(t:TypeId)(ps:List (Nat×V)):Pt (zEJ P t ps):=λK h=>by
 unfold zEJ at *;obtain⟨b,h⟩:=h;split at h
 .split at h
  .exact⟨_,h,λ_ k=>⟨b,k⟩⟩
  .cases h
 .cases h
theorem zPu(t:TypeId)(ps:List (Nat×V)):Pt (zCu P t ps):=λK h=>by
 rcases h with h|h
 .obtain⟨v,b,f⟩:=zQh t ps K h;exact⟨v,b,λc k=>.inl (f c k)⟩
 .unfold zJ3 at h;obtain⟨i,b,h⟩:=h;split at h
  .rename_i cs j;split at h
   .rename_i cs' l;exact⟨_,h,λc k=>.inr ⟨i,b,by rw[j];simp only[l];exact k⟩⟩
   .cases h
  .cases h
theorem zNs(t:TypeId)(x:V):Pt (aLen P t x):=λK h=>by
 unfold aLen at *;split at h
 .exact⟨_,h.2,λ_ k=>⟨h.1,k⟩⟩
 .exact⟨_,h.2,λ_ k=>⟨h.1,k⟩⟩
 .exact⟨_,h.2,λ_ k=>⟨h.1,k⟩⟩
 .cases h
theorem zA6{x:Option V}{d:Int}{K:Int->Prop}(h:jR x d K):∃n,K n/\∀b,b n->jR x d b:=by
 unfold jR at *;split at h
 .exact⟨_,h,λ_ k=>k⟩
 .exact⟨_,h,λ_ k=>k⟩
 .cases h
theorem zRV(t:TypeId)(x:V)(lo hi:Option V):Pt (jo P t x lo hi):=λK h=>by
 unfold jo at *;split at h
 .split at h
  .cases h
  .obtain⟨b,i,h⟩:=h;obtain⟨l,h,c⟩:=zA6 h;obtain⟨m,h,f⟩:=zA6 h;exact⟨_,h.2,λ_ k=>⟨b,i,c _ (f _ ⟨h.1,k⟩)⟩⟩
 .split at h
  .cases h
  .obtain⟨b,h⟩:=h;obtain⟨l,h,c⟩:=zA6 h;obtain⟨m,h,f⟩:=zA6 h;exact⟨_,h.2,λ_ k=>⟨b,c _ (f _ ⟨h.1,k⟩)⟩⟩
 .obtain⟨b,h⟩:=h;obtain⟨l,h,c⟩:=zA6 h;obtain⟨m,h,f⟩:=zA6 h;exact⟨_,h.2,λ_ k=>⟨b,c _ (f _ ⟨h.1,k⟩)⟩⟩
 .exact⟨_,h.2.2.2.2.2,λ_ k=>⟨h.1,h.2.1,h.2.2.1,h.2.2.2.1,h.2.2.2.2.1,k⟩⟩
 .cases h
theorem zHh(st:S)(t:TypeId)(x:V):Pt (xH P st t x):=λK h=>by
 unfold xH at *;split at h
 .exact⟨_,h.2,λ_ k=>⟨h.1,k⟩⟩
 .split at h
  .exact⟨_,h.2,λ_ k=>⟨h.1,k⟩⟩
  .cases h
 .cases h
def cls(L:Pol)(o:Oper):Nat:=
 match o.op with
 |.move _|.assign _=>if o.guard.isNone=true then 0 else 1
 |.pick ..|.binOp ..|.convert ..|.unOp ..|.extract ..|.field ..|.fieldAddr ..|.indexAddr ..|.index ..|.build ..|.nilCheck _|.slice ..=>1
 |.load ..=>3
 |.buildSlice ..=>if(o.dst.map L.wr).getD false=true then 5 else if(o.dst.map L.own).getD false=true then 4 else 1
 |.call c=>(match c.callee with
  |.builtin .len|.builtin .max=>1
  |.builtin .append=>if(o.dst.map L.wr).getD false=true then 5 else 4
  |.value (.func n)=>if L.pf n=true then 2 else 5
  |_=>5)
 |_=>5
def zRu(b c:Nat):Bool:=
 decide (b<=2)||c==0||(b==3&&decide (c<=4))||(b==4&&decide (c<=3))
theorem zFJ{o:Oper}(l:cls L o<=2){K:V->S->Prop}(h:aop P L e st o K KP):∃v,K v st/\∀j p A,p v j->aop P L e j o p A:=by
 obtain⟨I,J,ty,pos,af,Q⟩:=o;have i:∀(z:(V->Prop)->Prop),Pt z->(z λv=>K v st)->∃v,K v st/\∀(j:S)(p:V->S->Prop)(_:List PanicEntry->S->Prop),p v j->z λv=>p v j:=by
  intro z B h;obtain⟨v,s,u⟩:=B _ h;exact⟨v,s,λj p _ k=>u (λv=>p v j) k⟩
 cases J<;>simp only[cls]at l<;>simp only[aop]at h ⊢ <;>
  first
   |(refine⟨_,h,λ_ _ _ k=>k⟩)
   |exact i _ (zSz _ _ _) h
   |exact i _ (zS5 _ _ _ _ _) h
   |exact i _ (zTZ _ _ _) h
   |exact i _ (pt_aUn _ _) h
   |exact i _ (zNd _ _) h
   |exact i _ (zKu _ _ _) h
   |exact i _ (zKo _ _ _) h
   |exact i _ (zRO _ _ _) h
   |exact i _ (zPu _ _) h
   |exact i _ (zMo _) h
   |(omega)
   |skip
 case slice t x lo hi mx=>
  obtain⟨v,s,u⟩:=zRV _ _ _ _ _ h.2;exact⟨v,s,λj p _ k=>⟨h.1,u _ k⟩⟩
 case buildSlice t n ps=>
  split at l
  .omega
  .split at l
   .omega
   .rename_i s u;unfold yU at h ⊢;split at h
    .cases h
    .obtain⟨C,D,E,F,G,H,M,N,O,y⟩:=h;rw[if_neg s,if_neg u]at y;exact⟨_,y,λj p _ k=>⟨C,D,E,F,G,H,M,N,O,by rw[if_neg s,if_neg u];exact k⟩⟩
 case call c=>
  obtain⟨q,args,R⟩:=c;cases q with
  |invoke r m=>simp at l
  |value f=>
   simp only at h l ⊢;cases f with
   |func n=>
    simp only at l;split at l
    .rename_i B;simp only[Env.ev]at h ⊢;unfold zCm at h ⊢;simp only[if_pos B]at h ⊢;obtain⟨C,D,E,F,r,G,H⟩:=h;exact⟨r,H,λj p _ k=>⟨C,D,E,F,r,G,k⟩⟩
    .omega
   |tmp t=>simp at l
   |const v=>simp at l
   |global g=>simp at l
  |builtin b=>
   simp only at h l ⊢;unfold ju at h ⊢;split at h
   .exact i _ (zNs _ _) h
   .simp only at l;split at l<;>omega
   .simp at l
   .cases h
def More(st f:S):Prop:=∀b c,Go.Al.look st.box b=some c->Go.Al.look f.box b=some c
theorem More.of_eq{st f:S}(h:f.box=st.box):More st f:=λb c i=>by rw[h];exact i
theorem zPe{st c:S}(h:More st c)(t:TypeId)(x:V)(K:V->Prop)(b:xH P st t x K):xH P c t x K:=by
 unfold xH at *;split at b
 .exact b
 .split at b
  .rename_i cs k f;simp only[h _ _ f];exact b
  .cases b
 .cases b
def newB(L:Pol)(o:Oper):Bool:=
 match o.op with
 |.alloc _|.box ..|.lookup ..=>true
 |.buildSlice ..=>(o.dst.map L.wr).getD false
 |_=>false
def wrB(L:Pol)(o:Oper):Bool:=
 match o.op with
 |.alloc _|.box ..|.store ..=>true
 |.buildSlice ..=>(o.dst.map L.wr).getD false
 |.call ⟨.builtin .append,_,_⟩=>(o.dst.map L.wr).getD false
 |_=>false
def adr(o:Oper):Bool:=
 match o.op with
 |.nilCheck _|.fieldAddr ..=>true
 |_=>false
def rdB(L:Pol)(o:Oper):Bool:=
 match o.op with
 |.call c=>(match c.callee with|.value (.func n)=>!L.pf n&&L.rf n|_=>false)
 |_=>false
def kpB(L:Pol)(f b:Oper):Bool:=
 match f.op with
 |.load _ x=>(match x with
  |.tmp u=>(match b.op with
   |.call c=>(match c.callee with|.value _=>(match b.dst with|some d=>L.kl.contains (d,u)|none=>false)|_=>false)
   |.store _ y _=>(match y with|.tmp a=>L.kl.contains (1000000+a,u)|_=>false)
   |_=>false)
  |_=>false)
 |_=>false
def kkey(o:Oper):Option Nat:=
 match o.op with
 |.store _ y _=>(match y with|.tmp a=>some (1000000+a)|_=>none)
 |_=>o.dst
def lkB(o:Oper):Bool:=
 match o.op with
 |.lookup ..=>true
 |_=>false
def obB(o:Oper):Bool:=
 match o.op with
 |.alloc _|.box ..=>true
 |_=>false
def zC2(L:Pol)(b c:Oper):Bool:=
 (lkB b&&obB c)||zRu (cls L b) (cls L c)||(cls L b==3&&newB L c)||(wrB L b&&adr c)||(rdB L b&&decide (cls L c<=3))||kpB L b c
theorem zU2{o:Oper}(i:rdB L o=true){K:V->S->Prop}(h:aop P L e st o K KP):∃v,K v st/\∀l,l v st->aop P L e st o l KP:=by
 obtain⟨p,q,ty,pos,af,C⟩:=o;cases q<;>simp only[rdB]at i<;>try(simp at i;done)
 rename_i c;obtain⟨j,args,D⟩:=c;cases j with
 |invoke r m=>simp at i
 |builtin b=>simp at i
 |value f=>
  cases f with
  |func n=>
   simp only[zV5,zXE]at i;simp only[aop,Env.ev]at h ⊢;unfold zCm at h ⊢;have s:¬L.pf n=true:=by rw[i.1];simp
   simp only[if_neg s,if_pos i.2]at h ⊢;obtain⟨u,x,y,as,r,z,A,B⟩:=h;exact⟨r,B,λl k=>⟨u,x,y,as,r,z,A,k⟩⟩
  |tmp t=>simp at i
  |const v=>simp at i
  |global g=>simp at i
theorem zSy{s A:Oper}(f:kpB L s A=true){K:V->S->Prop}(h:aop P L e st s K KP):∃v,K v st/\∀j m,(∀b∈klb L (kkey A),Go.Al.look j.box b=Go.Al.look st.box b)->m v j->aop P L e j s m KP:=by
 obtain⟨G,I,ty,pos,af,J⟩:=s;unfold kpB at f;split at f
 .rename_i t x n;simp only at n;subst n;split at f
  .rename_i u;split at f
   .rename_i c p;split at f
    .split at f
     .rename_i d H;obtain⟨q,h⟩:=h;obtain⟨v,B,C⟩:=zHh _ _ _ _ h;refine⟨v,B,λj m D k=>⟨q,?_⟩⟩;have E:(d,u)∈L.kl:=by simpa using f
      have i:=C (λv=>m v j) k;have l:kkey A=some d:=by unfold kkey;rw[p];exact H
      unfold xH at i ⊢;split at i
      .exact i
      .rename_i b o F;rw[D b (by rw[l];exact q (d,u) E rfl b o F)];exact i
      .cases i
     .cases f
    .cases f
   .rename_i M y z r;split at f
    .rename_i a;obtain⟨q,h⟩:=h;obtain⟨v,B,C⟩:=zHh _ _ _ _ h;refine⟨v,B,λj m D k=>⟨q,?_⟩⟩;have E:(1000000+a,u)∈L.kl:=by simpa using f
     have i:=C (λv=>m v j) k;have l:kkey A=some (1000000+a):=by unfold kkey;rw[r]
     unfold xH at i ⊢;split at i
     .exact i
     .rename_i b o F;rw[D b (by rw[l];exact q (1000000+a,u) E rfl b o F)];exact i
     .cases i
    .cases f
   .cases f
  .cases f
 .cases f
theorem zPS{N m:Oper}(i:kpB L N m=true){K:V->S->Prop}(h:aop P L e st m K KP):aop P L e st m (λv s=>(∀b∈klb L (kkey m),Go.Al.look s.box b=Go.Al.look st.box b)/\K v s) KP:=by
 unfold kpB at i;split at i
 .split at i
  .split at i
   .rename_i c j;split at i
    .rename_i f n;obtain⟨t,O,ty,pos,af,Q⟩:=m;simp only at j;subst j;simp only[aop,n]at h ⊢;unfold zCm at h ⊢;split at h
     .obtain⟨u,x,A,k⟩:=h;refine⟨u,x,A,?_⟩;split at k
      .rename_i C;rw[if_pos C];obtain⟨p,r,q,D⟩:=k;exact⟨p,r,q,λ_ _=>rfl,D⟩
      .rename_i C;rw[if_neg C];split at k
       .rename_i l;rw[if_pos l];obtain⟨as,r,p,q,D⟩:=k;exact⟨as,r,p,q,λ_ _=>rfl,D⟩
       .rename_i l;rw[if_neg l];obtain⟨as,p,q⟩:=k;refine⟨as,p,λB g w vs hi E F=>(q B g w vs hi E F).mono ?_⟩;rintro R w' ⟨g',G,T,U,H⟩;refine⟨g',G,T,U,?_⟩;cases R with
        |returned v=>obtain⟨r,W,J,Y⟩:=H;exact⟨r,W,J,J,Y⟩
        |panicked ch=>exact H
        |outgrown=>exact H
     .cases h
    .cases i
   .rename_i t2 y z j;split at i
    .rename_i a;obtain⟨t,O,ty,pos,af,Q⟩:=m;simp only at j;subst j;simp only[aop]at h ⊢;obtain⟨M,h⟩:=h;refine⟨M,?_⟩;unfold qS at *;split at h
     .rename_i b o F;split at h
      .obtain⟨u,x,A,k,Z⟩:=h;refine⟨u,x,A,k,λb2 I=>?_,Z⟩;rw[zR,if_neg (λe1=>by subst e1;exact M b o F I)]
      .cases h
     .cases h
    .cases i
   .cases i
  .cases i
 .cases i
theorem zDk{o:Oper}(f:cls L o=3){K:V->S->Prop}(h:aop P L e st o K KP):∃v,K v st/\∀b c i,More st b->c v b->aop P L e b o c i:=by
 obtain⟨j,l,ty,pos,af,r⟩:=o;cases l<;>simp only[cls]at f<;>try(first|omega|(split at f<;>first|omega|(split at f<;>omega)))
 case load t x=>
  simp only[aop]at h ⊢;obtain⟨m,h⟩:=h;obtain⟨v,n,p⟩:=zHh _ _ _ _ h;exact⟨v,n,λb c _ q k=>⟨m,zPe q _ _ _ (p (λv=>c v b) k)⟩⟩
end
end Go.Al
end
section
namespace Go.Al
open Go.RowKit
section
variable{P:Program}{L:Pol}{X:Cx}{e:Env}{st:S}{KP:List PanicEntry->S->Prop}
theorem zLS{o:Oper}(a:cls L o=4){K:V->S->Prop}(h:aop P L e st o K KP):∃v l,l.box=st.box/\K v l/\∀q C,q v l->aop P L e st o q C:=by
 obtain⟨G,H,ty,pos,af,R⟩:=o;cases H<;>simp only[cls]at a<;>try(first|omega|(split at a<;>omega))
 case buildSlice t n ps=>
  split at a
  .omega
  .rename_i p;split at a
   .rename_i F;simp only[aop]at h ⊢;unfold yU at h ⊢;split at h
    .cases h
    .obtain⟨u,x,y,z,A,i,I,J,M,s⟩:=h;rw[if_neg p,if_pos F]at s;exact⟨_,⟨st.box,st.nx::st.tg,st.nx+1,st.ob⟩,rfl,s,λq _ k=>⟨u,x,y,z,A,i,I,J,M,by rw[if_neg p,if_pos F];exact k⟩⟩
   .omega
 case call c=>
  obtain⟨j,args,T⟩:=c;cases j with
  |invoke r m=>simp at a
  |value f=>cases f<;>simp only at a<;>first|omega|(split at a<;>omega)
  |builtin b=>
   simp only[aop]at h a ⊢;unfold ju at h ⊢;split at h
   .simp only at a;omega
   .simp only at a ⊢;split at a
    .omega
    .rename_i p;unfold xS at h ⊢;split at h
     .obtain⟨u,x,y,z,A,i⟩:=h;split at i
      .obtain⟨D,E,B⟩:=i;rw[if_neg p]at B;exact⟨_,⟨st.box,st.nx::st.tg,st.nx+1,st.ob⟩,rfl,B,λq _ k=>⟨u,x,y,z,A,D,E,by rw[if_neg p];exact k⟩⟩
      .obtain⟨D,E,B,N,O⟩:=i;exact⟨_,⟨st.box,st.nx::st.tg.erase _,st.nx+1,st.ob⟩,rfl,O,λq _ k=>⟨u,x,y,z,A,D,E,B,N,k⟩⟩
      .split at i
       .exact absurd i.1 p
       .cases i
      .cases i
     .exact absurd h.2.2.2.2.1 p
     .cases h
   .simp at a
   .cases h
theorem zHb{f:FuncId}{args:List V}{Q j:Outc->S->Prop}(h:FnC P f args st Q)(k:∀o s,Q o s->j o s):FnC P f args st j:=by
 intro B g w vs hi a l;refine(h B g w vs hi a l).mono ?_;rintro m w' ⟨g',b,n,p,i⟩;refine⟨g',b,n,p,?_⟩;cases m with
 |returned v=>obtain⟨r,q,t⟩:=i;exact⟨r,q,k _ _ t⟩
 |panicked c=>exact k _ _ i
 |outgrown=>exact i
theorem zKd{cs:List V}{K a:V->S->Prop}(h:aNew st cs K)(c:∀v s,K v s->a v s):aNew st cs a:=⟨h.1,λb f=>c _ _ (h.2 b f)⟩
theorem zMO{o:Option Nat}{t C:TypeId}{s x:V}{K D:V->S->Prop}(h:xS P L o st t C s x K)(m:∀v s,K v s->D v s):xS P L o st t C s x D:=by
 unfold xS at *;split at h
 .obtain⟨q,r,u,y,z,a⟩:=h;refine⟨q,r,u,y,z,?_⟩;split at a
  .obtain⟨f,i,c⟩:=a;refine⟨f,i,?_⟩;split at c
   .rename_i A;rw[if_pos A];exact⟨c.1,c.2.1,λb cap j k=>m _ _ (c.2.2 b cap j k)⟩
   .rename_i A;rw[if_neg A];exact m _ _ c
  .obtain⟨f,i,c,l,p⟩:=a;exact⟨f,i,c,l,m _ _ p⟩
  .split at a
   .obtain⟨E,f,i,c,l,p,F,B⟩:=a;exact⟨E,f,i,c,l,p,F,λb cap j k=>m _ _ (B b cap j k)⟩
   .cases a
  .cases a
 .obtain⟨q,r,u,y,z,a⟩:=h;refine⟨q,r,u,y,z,?_⟩;split at a
  .cases a
  .obtain⟨a,n⟩:=a;refine⟨a,?_⟩;split at n
   .obtain⟨f,i,c,l⟩:=n;exact⟨f,i,c,λb cap j k=>m _ _ (l b cap j k)⟩
   .split at n
    .obtain⟨f,i,c,l,p,B⟩:=n;exact⟨f,i,c,l,p,λb cap j k=>m _ _ (B b cap j k)⟩
    .cases n
   .cases n
 .cases h
theorem zHr{c:Option Nat}{t:TypeId}{n:Nat}{ps:List (Nat×V)}{K k:V->S->Prop}(h:yU P L c st t n ps K)(f:∀v s,K v s->k v s):yU P L c st t n ps k:=by
 unfold yU at *;split at h
 .cases h
 .obtain⟨l,m,o,p,q,r,u,x,y,a⟩:=h;refine⟨l,m,o,p,q,r,u,x,y,?_⟩;split at a
  .rename_i i;rw[if_pos i];exact⟨a.1,λb z=>f _ _ (a.2 b z)⟩
  .rename_i i;rw[if_neg i];split at a
   .rename_i j;rw[if_pos j];exact f _ _ a
   .rename_i j;rw[if_neg j];exact f _ _ a
theorem qz{o:Oper}{K q:V->S->Prop}(h:aop P L e st o K KP)(f:∀v s,K v s->q v s):aop P L e st o q KP:=by
 by_cases u:cls L o<=2
 .obtain⟨v,l,a⟩:=zFJ u h;exact a st q KP (f _ _ l)
 .obtain⟨z,I,ty,pos,af,J⟩:=o;cases I<;>simp only[cls]at u<;>try(first|omega|(split at u<;>omega))
  case load t x=>obtain⟨v,l,a⟩:=zDk (o:=⟨z,.load t x,ty,pos,af,J⟩) rfl h;exact a st q KP (More.of_eq rfl) (f _ _ l)
  case store t x y=>
   simp only[aop]at h ⊢;obtain⟨M,h⟩:=h;refine⟨M,?_⟩;unfold qS at *;split at h
   .split at h
    .obtain⟨A,B,C,j,N⟩:=h;exact⟨A,B,C,j,f _ _ N⟩
    .cases h
   .cases h
  case alloc t=>
   simp only[aop]at h ⊢;unfold jk at *;split at h
   .exact zKd h f
   .cases h
  case box t x=>exact zKd h f
  case buildSlice t n ps=>exact zHr h f
  case call c=>
   simp only[aop]at h ⊢;split at h
   .unfold zCm at *;split at h
    .obtain⟨A,B,C,j⟩:=h;refine⟨A,B,C,?_⟩;split at j
     .rename_i D;rw[if_pos D];obtain⟨E,r,F,G⟩:=j;exact⟨E,r,F,f _ _ G⟩
     .rename_i D;rw[if_neg D];split at j
      .rename_i p;rw[if_pos p];obtain⟨as,r,E,F,G⟩:=j;exact⟨as,r,E,F,f _ _ G⟩
      .rename_i p;rw[if_neg p];exact j.imp λas j=>⟨j.1,zHb j.2 λoc s H=>by cases oc<;>first|exact⟨H.1,f _ _ H.2⟩|exact H⟩
    .cases h
   .unfold ju at *;split at h
    .obtain⟨v,l,a⟩:=zNs _ _ _ h;exact a _ (f _ _ l)
    .exact zMO h f
    .unfold zEZ at *;split at h
     .split at h
      .exact⟨h.1,h.2.1,f _ _ h.2.2⟩
      .cases h
     .cases h
    .cases h
   .exact h.elim
  case makeInterface t x=>
   simp only[aop]at h ⊢;unfold zFH at *;obtain⟨l,a⟩:=h;refine⟨l,?_⟩;revert a;split
   .exact λa=>f _ _ a
   .split<;>exact λa=>f _ _ a
   .exact λa=>f _ _ a
  case makeFunc R first caps=>
   simp only[aop]at h ⊢;unfold zI4 at *;revert h;split
   .exact λh=>⟨h.1,f _ _ h.2⟩
   .exact λh=>h
  case makeMap t r=>exact⟨h.1,λb O=>f _ _ (h.2 b O)⟩
  case lookup t x i c=>
   simp only[aop]at h ⊢;unfold jK at *;split at h
   .split at h
    .obtain⟨l,a⟩:=h;refine⟨l,?_⟩;split at a
     .exact f _ _ a
     .split at a
      .split at a
       .exact f _ _ a
       .exact f _ _ a
      .cases a
     .cases a
    .cases h
   .cases h
  case mapUpdate t m k y=>
   simp only[aop]at h ⊢;unfold x9 at *;split at h
   .split at h
    .exact⟨h.1,f _ _ h.2⟩
    .cases h
   .cases h
  case panic x=>exact h
  all_goals first|exact h.elim|(simp only[aop]at h)
theorem zA8(l:List (Nat×List V×Nat)):∃b,Go.Al.look l b=none:=by
 have h:∀l:List (Nat×List V×Nat),∃n,∀b,n<=b->Go.Al.look l b=none:=by
  intro l
  induction l with
  |nil=>exact⟨0,λ_ _=>rfl⟩
  |cons p r f=>
   obtain⟨n,a⟩:=f;obtain⟨k,c⟩:=p;refine⟨max n (k+1),λb i=>?_⟩;show(if k=b then some c else Go.Al.look r b)=none;rw[if_neg (by omega),a b (by omega)]
 obtain⟨n,a⟩:=h l;exact⟨n,a n (zV7 _)⟩
theorem zTK{o:Oper}(k:wrB L o=true){C:Prop}(h:aop P L e st o (λ_ _=>C) KP):C:=by
 obtain⟨H,I,ty,pos,af,M⟩:=o;have l:∀{cs:List V},aNew st cs (λ_ _=>C)->C:=λh=>by
  obtain⟨b,i⟩:=zA8 st.box;exact h.2 b i
 cases I<;>simp only[wrB]at k<;>try(simp at k;done)
 case alloc t=>
  simp only[aop]at h;unfold jk at h;split at h
  .exact l h
  .cases h
 case box t x=>exact l h
 case store t x y=>
  simp only[aop]at h;replace h:=h.2;unfold qS at h;split at h
  .split at h
   .exact h.2.2.2.2
   .cases h
  .cases h
 case buildSlice t n ps=>
  simp only[aop]at h;unfold yU at h;split at h
  .cases h
  .obtain⟨B,D,E,F,G,a,p,N,O,q⟩:=h;rw[if_pos k]at q;obtain⟨b,i⟩:=zA8 st.box;exact q.2 b i
 case call c=>
  obtain⟨j,args,R⟩:=c;cases j with
  |invoke r m=>simp at k
  |value f=>simp at k
  |builtin b=>
   cases b<;>simp only at k<;>try(simp at k;done)
   simp only[aop]at h;unfold ju at h;split at h
   .contradiction
   .unfold xS at h;split at h
    .obtain⟨B,D,E,F,G,a⟩:=h;split at a
     .obtain⟨u,v,s⟩:=a;rw[if_pos k]at s;obtain⟨b,i⟩:=zA8 st.box;exact s.2.2 b _ i (zV7 _)
     .exact a.2.2.2.2
     .split at a
      .obtain⟨S,u,v,s,z,J,T,A⟩:=a;obtain⟨b,i⟩:=zA8 (wipe st.box _);exact A b _ i (zV7 _)
      .cases a
     .cases a
    .obtain⟨B,D,E,F,G,a⟩:=h;split at a
     .cases a
     .obtain⟨a,p⟩:=a;split at p
      .obtain⟨u,v,s,z⟩:=p;obtain⟨b,i⟩:=zA8 st.box;exact z b _ i (zV7 _)
      .split at p
       .obtain⟨u,v,s,z,J,A⟩:=p;obtain⟨b,i⟩:=zA8 (wipe st.box _);exact A b _ i (zV7 _)
       .cases p
      .cases p
    .cases h
   .contradiction
   .cases h
theorem zSu{o:Oper}(i:adr o=true){K:V->S->Prop}(h:aop P L e st o K KP):∃v,∀a j b,aop P L e a o j b↔j v a:=by
 obtain⟨k,l,ty,pos,af,m⟩:=o;cases l<;>simp only[adr]at i<;>try(simp at i;done)
 case nilCheck x=>
  simp only[aop]at h ⊢;unfold xQ at *;split at h
  .rename_i c;simp only[c];exact⟨_,λ_ _ _=>zXt⟩
  .rename_i c;simp only[c];exact⟨_,λ_ _ _=>zXt⟩
  .cases h
 case fieldAddr t x f=>
  simp only[aop]at h ⊢;unfold yY at *;split at h
  .exact⟨_,λ_ _ _=>⟨λq=>q.2.2.2,λq=>⟨h.1,h.2.1,h.2.2.1,q⟩⟩⟩
  .exact⟨_,λ_ _ _=>⟨λq=>q.2.2,λq=>⟨h.1,h.2.1,q⟩⟩⟩
  .cases h
theorem zUM{o:Oper}(r:lkB o=true){K:V->S->Prop}(h:aop P L e st o K KP):∃v,K v st/\∀(s:S)(a:V->S->Prop) KP',s.ob=st.ob->a v s->aop P L e s o a KP':=by
 obtain⟨y,z,ty,pos,af,A⟩:=o;cases z<;>simp only[lkB]at r<;>try(simp at r;done)
 rename_i t x i c;simp only[aop]at h ⊢;unfold jK at h;split at h
 .rename_i l m;split at h
  .rename_i n;have p:=h.1;replace h:=h.2;split at h
   .rename_i f;exact⟨_,h,λs a _ j k=>by unfold jK;simp only[l,m,n,f];exact⟨p,k⟩⟩
   .rename_i b f;split at h
    .rename_i B C u;split at h
     .rename_i v q;exact⟨_,h,λs a _ j k=>by unfold jK;simp only[l,m,n,f,j,u,q];exact⟨p,k⟩⟩
     .rename_i q;exact⟨_,h,λs a _ j k=>by unfold jK;simp only[l,m,n,f,j,u,q];exact⟨p,k⟩⟩
    .cases h
   .cases h
  .cases h
 .cases h
theorem zSj{o:Oper}(c:obB o=true){K:V->S->Prop}(h:aop P L e st o K KP):aop P L e st o (λv s=>s.ob=st.ob/\K v s) KP:=by
 obtain⟨f,i,ty,pos,af,j⟩:=o;cases i<;>simp only[obB]at c<;>try(simp at c;done)
 case alloc t=>
  simp only[aop]at h ⊢;unfold jk at *;split at h
  .exact⟨h.1,λb a=>⟨rfl,h.2 b a⟩⟩
  .cases h
 case box t x=>exact⟨h.1,λb a=>⟨rfl,h.2 b a⟩⟩
theorem zTW{o:Oper}(k:newB L o=true){K:V->S->Prop}(h:aop P L e st o K KP):aop P L e st o (λv s=>More st s/\K v s) KP:=by
 have a:∀(b:Nat)(c:List V×Nat)(tg:List Nat)(n:Nat)(ob:List (Nat×OV×List Nat)),Go.Al.look st.box b=none->More st ⟨lay st.box b c,tg,n,ob⟩:=λb c tg n ob f m q l=>by
  show Go.Al.look (lay st.box b c) m=some q;rw[zR];by_cases p:b=m
  .subst p;rw[f]at l;cases l
  .rw[if_neg p];exact l
 obtain⟨r,u,ty,pos,af,H⟩:=o;cases u<;>simp only[newB]at k<;>try(simp at k;done)
 case alloc t=>
  simp only[aop]at h ⊢;unfold jk at *;split at h
  .exact⟨h.1,λb f=>⟨a _ _ _ _ _ f,h.2 b f⟩⟩
  .cases h
 case box t x=>exact⟨h.1,λb f=>⟨a _ _ _ _ _ f,h.2 b f⟩⟩
 case lookup t x i c=>
  simp only[aop]at h ⊢;unfold jK at *;split at h
  .split at h
   .refine⟨h.1,?_⟩;replace h:=h.2;split at h
    .exact⟨More.of_eq rfl,h⟩
    .split at h
     .split at h
      .exact⟨More.of_eq rfl,h⟩
      .exact⟨More.of_eq rfl,h⟩
     .cases h
    .cases h
   .cases h
  .cases h
 case buildSlice t n ps=>
  simp only[aop]at h ⊢;unfold yU at *;split at h
  .cases h
  .obtain⟨y,z,A,B,C,D,E,F,G,j⟩:=h;rw[if_pos k]at j;exact⟨y,z,A,B,C,D,E,F,G,by rw[if_pos k];exact⟨j.1,λb f=>⟨a _ _ _ _ _ f,j.2 b f⟩⟩⟩
theorem zFw{o:Oper}{e':Env}(h:∀x∈o.op.operands,e.ev x=e'.ev x)(K:V->S->Prop):aop P L e st o K KP=aop P L e' st o K KP:=by
 obtain⟨u,v,ty,pos,af,B⟩:=o;have i:∀ps:Array (Nat×Operand),(∀x∈(ps.toList.map (·.2)).toArray,e.ev x=e'.ev x)->(ps.toList.map λp=>(p.1,e.ev p.2))=ps.toList.map λp=>(p.1,e'.ev p.2):=λps y=>
  zWx λp z=>by rw[y p.2 (by simp only[List.mem_toArray,zWa];exact⟨p,z,rfl⟩)]
 cases v<;>simp only[Op.operands]at h<;>simp only[aop]
 case build t ps=>rw[i ps h]
 case buildSlice t n ps=>rw[i ps h]
 case slice t x lo hi mx=>
  have k:=h x (by simp);have l:lo.map e.ev=lo.map e'.ev:=by cases lo<;>simp_all
  have A:hi.map e.ev=hi.map e'.ev:=by cases hi<;>simp_all
  rw[k,l,A]
 case makeFunc C first caps=>
  have k:first.toList.map e.ev=first.toList.map e'.ev:=zWx λx j=>h x (by simp only[zY9];exact .inl (by simpa using j));have l:caps.toList.map e.ev=caps.toList.map e'.ev:=zWx λx j=>h x (by simp only[zY9];exact .inr (by simpa using j));rw[k,l]
 case call c=>
  have a:c.args.toList.map e.ev=c.args.toList.map e'.ev:=zWx λx j=>h x (by simp only[Call.operands,zY9];exact .inr (by simpa using j));cases s:c.callee with
  |value f=>
   have q:e.ev f=e'.ev f:=h f (by simp[Call.operands,s]);simp only[a,q]
  |invoke r m=>
   have q:e.ev r=e'.ev r:=h r (by simp[Call.operands,s]);simp only[a,q]
  |builtin b=>simp only[a]
 all_goals (first|rfl|(simp_all;done))
end
open Go.RowKit
section
variable{P:Program}{L:Pol}{X:Cx}{ops:Array Oper}{ds:List (Option Nat)}{e:Env}{st:S}{KP:List PanicEntry->S->Prop}
def Env.eqv(e e':Env):Prop:=∀k,e.get k=e'.get k
def Resp(K:Env->S->Prop):Prop:=∀e e' s,e.eqv e'->K e s->K e' s
theorem ev_eqv{e e':Env}(h:e.eqv e')(x:Operand):e.ev x=e'.ev x:=by
 cases x with
 |tmp t=>exact h t
 |_=>rfl
theorem zLe{e e':Env}(h:e.eqv e')(d:Option Nat)(v:V):(e.putO d v).eqv (e'.putO d v):=by
 intro k;cases d with
 |none=>exact h k
 |some d=>simp only[Env.putO,Env.get_put];rw[h k]
theorem zQH{e e':Env}(h:e.eqv e')(a:Option (Nat×Bool)):jH ds e a=jH ds e' a:=by
 unfold jH;cases a with
 |none=>rfl
 |some p=>obtain⟨j,b⟩:=p;simp only;cases ds.getD j none with
  |none=>rfl
  |some d=>simp only[h d]
theorem qA{o:Oper}{K b:Env->S->Prop}(h:zt P L ds KP o K e st)(c:∀e s,K e s->b e s):zt P L ds KP o b e st:=by
 unfold zt at *;split at h
 .exact h
 .split at h
  .rename_i a;rw[if_pos a];exact qz h λ_ _ q=>c _ _ q
  .rename_i a;rw[if_neg a];exact c _ _ h
theorem zO9{o:Oper}{K:Env->S->Prop}(c:Resp K):Resp (zt P L ds KP o K):=by
 intro e e' s h a;unfold zt at *;rw[<-zQH h];split at a
 .exact a
 .split at a
  .rename_i b;rw[if_pos b];rw[zFw (e':=e) (λx _=>(ev_eqv h x).symm)];exact qz a λv s q=>c _ _ _ (zLe h _ _) q
  .rename_i b;rw[if_neg b];exact c _ _ _ (zLe h _ _) a
theorem zMf{d:Option Nat}{v:V}{o:Oper}(h:∀t,d=some t->t∉o.looksAt ops):∀x∈o.op.operands,(e.putO d v).ev x=e.ev x:=by
 intro x b;cases d with
 |none=>rfl
 |some t=>
  cases x with
  |tmp u=>
   have a:t≠u:=λc=>h t rfl (by subst c;exact zXV _ (zX1.2 ⟨.tmp t,by simpa using b,rfl⟩));simp only[Env.putO,Env.ev,Env.get_put,if_neg a]
  |_=>rfl
theorem zKa(a:ds=ops.toList.map (·.dst)){d:Option Nat}{v:V}{o:Oper}(h:∀t,d=some t->t∉o.looksAt ops):jH ds (e.putO d v) o.guard=jH ds e o.guard:=by
 cases d with
 |none=>rfl
 |some t=>
  unfold jH;cases k:o.guard with
  |none=>rfl
  |some p=>
   obtain⟨j,b⟩:=p;simp only;cases c:ds.getD j none with
   |none=>rfl
   |some u=>
    have l:(ops[j]?).bind (·.dst)=some u:=by
     subst a;simp only[zWk,zWM,zW3]at c;cases i:ops[j]? with
     |none=>simp[i]at c
     |some n=>simpa [i]using c
    have f:t≠u:=λm=>h t rfl (by subst m;refine zXj _ ?_;simp[k,l]);simp only[Env.putO,Env.get_put,if_neg f]
theorem zHd{b a:Option Nat}{vi i:V}(h:∀t,b=some t->a≠some t):((e.putO b vi).putO a i).eqv ((e.putO a i).putO b vi):=by
 intro k;cases b with
 |none=>cases a<;>rfl
 |some t=>
  cases a with
  |none=>rfl
  |some u=>
   have c:t≠u:=λl=>h t rfl (by rw[l]);simp only[Env.putO,Env.get_put];by_cases f:u=k
   .by_cases j:t=k
    .exact absurd (j.trans f.symm) c
    .simp[f,j]
   .simp[f]
theorem jq(a:ds=ops.toList.map (·.dst)){o:Oper}{d:Option Nat}{v:V}(c:∀t,d=some t->t∉o.looksAt ops)(f:∀t,d=some t->o.dst≠some t){K:Env->S->Prop}(i:Resp K)
 (h:zt P L ds KP o K (e.putO d v) st):zt P L ds KP o (λe' s=>K (e'.putO d v) s) e st:=by
 unfold zt at *;rw[zKa a c]at h;split at h
 .exact h
 .split at h
  .rename_i b;rw[if_pos b];rw[zFw (zMf c)]at h;exact qz h λu s q=>i _ _ _ (zHd f) q
  .rename_i b;rw[if_neg b];exact i _ _ _ (zHd f) h
theorem zAG{o:Oper}{K:Env->S->Prop}(h:zt P L ds KP o K e st):zt P L ds KP o (λe' s=>(∃v,e'=e.putO o.dst v)/\(cls L o<=4\/newB L o=true->More st s)/\K e' s) e st:=by
 unfold zt at *;split at h
 .exact h
 .split at h
  .rename_i f;rw[if_pos f];by_cases j:cls L o<=2
   .obtain⟨v,a,b⟩:=zFJ j h;exact b _ _ _ ⟨⟨v,rfl⟩,λ_=>More.of_eq rfl,a⟩
   .by_cases k:cls L o=3
    .obtain⟨v,a,b⟩:=zDk k h;exact b _ _ _ (More.of_eq rfl) ⟨⟨v,rfl⟩,λ_=>More.of_eq rfl,a⟩
    .by_cases l:cls L o=4
     .obtain⟨v,m,k0,a,b⟩:=zLS l h;exact b _ _ ⟨⟨v,rfl⟩,λ_=>More.of_eq k0,a⟩
     .by_cases i:newB L o=true
      .exact qz (zTW i h) λv s q=>⟨⟨v,rfl⟩,λ_=>q.1,q.2⟩
      .exact qz h λv s q=>⟨⟨v,rfl⟩,λc=>c.elim (λc=>by omega) (λc=>absurd c i),q⟩
  .rename_i f;rw[if_neg f];exact⟨⟨_,rfl⟩,λ_=>More.of_eq rfl,h⟩
theorem zKs{c o:Oper}(f:kpB L c o=true){K:Env->S->Prop}(h:zt P L ds KP o K e st):zt P L ds KP o (λe' s=>(∃v,e'=e.putO o.dst v)/\(∀b∈klb L (kkey o),Go.Al.look s.box b=Go.Al.look st.box b)/\K e' s) e st:=by
 unfold zt at *;split at h
 .exact h
 .split at h
  .rename_i a;rw[if_pos a];exact qz (zPS f h) λv s q=>⟨⟨v,rfl⟩,q.1,q.2⟩
  .rename_i a;rw[if_neg a];exact⟨⟨_,rfl⟩,λ_ _=>rfl,h⟩
theorem zKk{o:Oper}(b:obB o=true){K:Env->S->Prop}(h:zt P L ds KP o K e st):zt P L ds KP o (λe' s=>(∃v,e'=e.putO o.dst v)/\s.ob=st.ob/\K e' s) e st:=by
 unfold zt at *;split at h
 .exact h
 .split at h
  .rename_i a;rw[if_pos a];exact qz (zSj b h) λv s q=>⟨⟨v,rfl⟩,q.1,q.2⟩
  .rename_i a;rw[if_neg a];exact⟨⟨_,rfl⟩,rfl,h⟩
theorem zHH{o:Oper}(k:cls L o<=3){a:S}(i:a.box=st.box){K:Env->S->Prop}(h:zt P L ds KP o K e a):zt P L ds KP o (λe' s=>s=st/\K e' a) e st:=by
 unfold zt at *;split at h
 .exact h
 .split at h
  .rename_i b;rw[if_pos b];by_cases j:cls L o<=2
   .obtain⟨v,c,f⟩:=zFJ j h;exact f _ _ _ ⟨rfl,c⟩
   .obtain⟨v,c,f⟩:=zDk (by omega) h;exact f _ _ _ (More.of_eq i.symm) ⟨rfl,c⟩
  .rename_i b;rw[if_neg b];exact⟨rfl,h⟩
theorem zPt(j:ds=ops.toList.map (·.dst)){k i:Oper}(T:k.apart ops i=true)(a:zC2 L k i=true){K:Env->S->Prop}(D:Resp K)
 (H:zt P L ds KP k (zt P L ds KP i K) e st):zt P L ds KP i (zt P L ds KP k K) e st:=by
 obtain⟨a1,E,a3⟩:=Oper.apart_spec T;have hw:∀v,jH ds (e.putO i.dst v) k.guard=jH ds e k.guard:=λv=>zKa j a3;have U:∀v s (p:V->S->Prop),aop P L (e.putO i.dst v) s k p KP=aop P L e s k p KP:=λv s p=>zFw (zMf a3) p;cases hi:jH ds e k.guard with
 |none=>unfold zt at H;rw[hi]at H;exact H.elim
 |some c=>
  cases c with
  |false=>
   unfold zt at H;rw[hi]at H;simp only[zWO,zWA]at H;have H1:=zAG (jq j a1 E D H);refine qA H1 ?_;rintro e' s ⟨⟨v,rfl⟩,_,y⟩;unfold zt;rw[hw v,hi];simpa using y
  |true=>
   have I:aop P L e st k (λv J=>zt P L ds KP i K (e.putO k.dst v) J) KP:=by
    unfold zt at H;rw[hi]at H;simp only[zWE]at H;exact H
   have l:∀v s,aop P L e s k (λu F=>K ((e.putO i.dst v).putO k.dst u) F) KP->zt P L ds KP k K (e.putO i.dst v) s:=by
    intro v s h;unfold zt;rw[hw v,hi];simp only[zWE];rw[U];exact h
   by_cases c2:cls L k<=2
   .obtain⟨vi,A,B⟩:=zFJ c2 I;refine qA (zAG (jq j a1 E D A)) ?_;rintro e' s ⟨⟨v,rfl⟩,_,y⟩;exact l v s (B s _ _ y)
   .by_cases z:cls L i=0
    .have W:∃x,(∀(e:Env)(s:S)(p:V->S->Prop),aop P L e s i p KP=p (e.ev x) s)/\x∈i.op.operands/\i.guard=none:=by
      obtain⟨ad,op,ty,pos,af,gd⟩:=i;cases op<;>simp only[cls]at z<;>try(first|omega|(split at z<;>omega))
      case move x=>cases gd<;>simp at z;exact⟨x,λ_ _ _=>rfl,by simp[Op.operands],rfl⟩
      case assign x=>cases gd<;>simp at z;exact⟨x,λ_ _ _=>rfl,by simp[Op.operands],rfl⟩
      case buildSlice t n ps=>split at z<;>first|omega|(split at z<;>omega)
      case call c=>
       obtain⟨G,args,ts⟩:=c;cases G with
       |invoke r m=>simp at z
       |value f=>cases f<;>simp only at z<;>first|omega|(split at z<;>omega)
       |builtin b=>cases b<;>simp only at z<;>first|omega|(split at z<;>omega)
     obtain⟨x,hx,Y,Z⟩:=W;have hs:∀(p:Env->S->Prop)(e:Env)(s:S),zt P L ds KP i p e s=p (e.putO i.dst (e.ev x)) s:=by
      intro p e s;unfold zt;rw[Z];simp only[jH,zWE];rw[hx]
     rw[hs];refine l _ _ (qz I λv s q=>?_);rw[hs]at q;rw[zMf a1 x Y]at q;exact D _ _ _ (zHd E) q
    .simp only[zC2,zRu,zXF,zV5,zWV,zXq]at a;have C:cls L k=3->cls L i<=4\/newB L i=true->zt P L ds KP i (zt P L ds KP k K) e st:=by
      intro aa ab;obtain⟨vi,A,B⟩:=zDk aa I;refine qA (zAG (jq j a1 E D A)) ?_;rintro e' s ⟨⟨v,rfl⟩,M,y⟩;exact l v s (B s _ _ (M ab) y)
     rcases a with((((a|(((a|a)|a)|a))|a)|a)|a)|a
     .obtain⟨vi,A,B⟩:=zUM a.1 I;refine qA (zKk a.2 (jq j a1 E D A)) ?_;rintro e' s ⟨⟨v,rfl⟩,M,y⟩;exact l v s (B s _ _ M y)
     .exact absurd a c2
     .exact absurd a z
     .exact C a.1 (.inl a.2)
     .obtain⟨vi,ae,k0,A,B⟩:=zLS a.1 I;have q:=zHH (st:=st) a.2 k0 (jq j a1 E D A);refine qA (zAG q) ?_;rintro e' s ⟨⟨v,rfl⟩,_,rfl,y⟩;exact l v s (B _ _ y)
     .exact C a.1 (.inr a.2)
     .have H2:aop P L e st k (λv J=>zt P L ds KP i (λe' s=>K (e'.putO k.dst v) s) e J) KP:=qz I λv s q=>jq j a1 E D q;have N:∀s (p:Env->S->Prop),zt P L ds KP i p e s->∃v,∀F o,zt P L ds KP i o e F↔o (e.putO i.dst v) F:=by
       intro s p h;unfold zt at h;cases O:jH ds e i.guard with
       |none=>rw[O]at h;exact h.elim
       |some c=>
        rw[O]at h;cases c with
        |false=>
         refine⟨.tup [],λF o=>?_⟩;unfold zt;rw[O];simp
        |true=>
         simp only[zWE]at h;obtain⟨v,R⟩:=zSu a.2 h;refine⟨v,λF o=>?_⟩;unfold zt;rw[O];simp only[zWE];exact R _ _ _
      have ac:∃v,∀F o,zt P L ds KP i o e F↔o (e.putO i.dst v) F:=
       zTK a.1 (qz H2 λv s q=>N s _ q)
      obtain⟨v,R⟩:=ac;refine(R _ _).2 (l v st (qz H2 λu s q=>(R _ _).1 q))
     .obtain⟨vi,A,B⟩:=zU2 a.1 I;have q:=zHH (st:=st) a.2 rfl (jq j a1 E D A);refine qA (zAG q) ?_;rintro e' s ⟨⟨v,rfl⟩,_,rfl,y⟩;exact l v s (B _ y)
     .obtain⟨vi,A,B⟩:=zSy a I;refine qA (zKs a (jq j a1 E D A)) ?_;rintro e' s ⟨⟨v,rfl⟩,M,y⟩;exact l v s (B s _ M y)
def AnyA(P:Program)(L:Pol)(ds:List (Option Nat))(KP:List PanicEntry->S->Prop)(ops:Array Oper)(K:Env->S->Prop):Nat->Array Bool->Env->S->Prop
 |0,a,e,st=>Region.ready .any ops a=[]/\K e st
 |n+1,a,e,st=>(Region.ready .any ops a=[]->K e st)/\∀i∈Region.ready .any ops a,∀o,ops[i]?=some o->zt P L ds KP o (AnyA P L ds KP ops K n (a.setIfInBounds i true)) e st
theorem zKE{K:Env->S->Prop}(c:Resp K):∀n a,Resp (AnyA P L ds KP ops K n a)
 |0,a=>λe e' s h b=>⟨b.1,c _ _ _ h b.2⟩
 |n+1,a=>λe e' s h b=>⟨λf=>c _ _ _ h (b.1 f),λi hi o j=>zO9 (zKE c n _) _ _ _ h (b.2 i hi o j)⟩
def left(ops:Array Oper)(a:Array Bool):List Nat:=(List.range ops.size).filter λk=>!a.getD k true
theorem zHc{ops:Array Oper}{a:Array Bool}{j:Nat}(h:j∈left ops a):(left ops (a.setIfInBounds j true)).length<(left ops a).length:=by
 unfold left at *;rw[zXP]at h;have e:((List.range ops.size).filter λk=>!(a.setIfInBounds j true).getD k true)=((List.range ops.size).filter λk=>!a.getD k true).filter λk=>k != j:=by
  rw[List.filter_filter];refine List.filter_congr λk _=>?_;by_cases b:j=k
  .subst b;have c:j<a.size:=by
    rcases zW5 j a.size with h'|h'
    .exact h'
    .simp[zXH h']at h
   simp[c]
  .rw[getD_set_ne true b];simp[zW8 b]
 rw[e];exact zYT.2 ⟨j,zXP.2 h,by simp⟩
theorem zCd{ops:Array Oper}{a:Array Bool}{j:Nat}(h:j∈Region.ready .any ops a):j∈left ops a:=by
 obtain⟨b,o,c,_⟩:=mem_ready.1 h;unfold left;rw[zXP];exact⟨zYO.2 (zV8.1 c).1,by rw[b];rfl⟩
def bef(ops:Array Oper):Nat->Nat->Nat->Bool
 |0,_,_=>false
 |n+1,i,j=>match ops[j]? with
  |some o=>o.after.any λa=>Region.binds .any a&&(a.on==i||bef ops n i a.on)
  |none=>false
def PC(ops:Array Oper)(a:Array Bool):Prop:=∀k b,ops[k]?=some b->a.getD k false=true->∀c∈b.after,Region.binds .any c=true->a.getD c.on false=true
theorem zKm{a:Array Bool}{j:Nat}(h:j<a.size)(d:Bool):(a.setIfInBounds j true).getD j d=true:=by simp[h]
theorem zLL{a:Array Bool}{j:Nat}(h:a.getD j true=false):j<a.size:=by
 rcases zW5 j a.size with h'|h'
 .exact h'
 .simp[zXH h']at h
theorem zKe{a:Array Bool}{j k:Nat}(h:a.getD k false=true):(a.setIfInBounds j true).getD k false=true:=by
 by_cases b:j=k
 .subst b;refine zKm ?_ _;rcases zW5 j a.size with h'|h'
  .exact h'
  .simp[zXH h']at h
 .rw[getD_set_ne false b];exact h
theorem zKB{a:Array Bool}{j:Nat}{f:Oper}(k:j∈Region.ready .any ops a)(l:ops[j]?=some f):∀i∈f.after,Region.binds .any i=true->a.getD i.on false=true:=by
 obtain⟨_,m,b,c⟩:=mem_ready.1 k;rw[l]at b;injection b with h
 subst h;exact c
theorem zRt{a:Array Bool}{j:Nat}(n:j∈Region.ready .any ops a)(h:PC ops a):PC ops (a.setIfInBounds j true):=by
 intro k o b c f i l;by_cases m:j=k
 .subst m;exact zKe (zKB n b f i l)
 .rw[getD_set_ne false m]at c;exact zKe (h k o b c f i l)
theorem zHw{a:Array Bool}(h:PC ops a){i:Nat}(hi:a.getD i true=false):∀(n j:Nat),a.getD j false=true->bef ops n i j=false
 |0,_,_=>rfl
 |n+1,j,l=>by
  unfold bef;cases m:ops[j]? with
  |none=>rfl
  |some o=>
   simp only;rw[Bool.eq_false_iff];intro b;obtain⟨k,p,b⟩:=Array.any_eq_true'.1 b;simp only[zV5,zXF,zXq]at b;have c:=h j o m l k p b.1;rcases b.2 with f|f
   .rw[f]at c;have:=zLL hi;simp[this]at hi c;rw[hi]at c;cases c
   .rw[zHw h hi n k.on c]at f;cases f
theorem zRk{a:Array Bool}(h:PC ops a){i j:Nat}(hi:a.getD i true=false)(l:j∈Region.ready .any ops a)(n:Nat):bef ops n i j=false:=by
 cases n with
 |zero=>rfl
 |succ n=>
  unfold bef;cases m:ops[j]? with
  |none=>rfl
  |some p=>
   simp only;rw[Bool.eq_false_iff];intro b;obtain⟨k,o,b⟩:=Array.any_eq_true'.1 b;simp only[zV5,zXF,zXq]at b;have c:=zKB l m k o b.1;rcases b.2 with f|f
   .rw[f]at c;have:=zLL hi;simp[this]at hi c;rw[hi]at c;cases c
   .rw[zHw h hi n k.on c]at f;cases f
theorem zQB(N:ds=ops.toList.map (·.dst)){K:Env->S->Prop}(Y:Resp K){i:Nat}{y:Oper}(hi:ops[i]?=some y) :
 ∀(b:Nat)(a:Array Bool)(e:Env)(st:S),(left ops a).length<=b+1 ->
  (∀j A,ops[j]?=some A->j≠i->a.getD j true=false->(∀n∈A.after,Region.binds .any n=true->n.on≠i)->bef ops ops.size i j=false->y.apart ops A=true/\zC2 L y A=true)->PC ops a ->
  i∈Region.ready .any ops a ->
  zt P L ds KP y (AnyA P L ds KP ops K b (a.setIfInBounds i true)) e st->AnyA P L ds KP ops K (b+1) a e st:=by
 intro b
 induction b with
 |zero=>
  intro a e st p _ _ r H;refine⟨λh=>(by rw[h]at r;cases r),λj z o J=>?_⟩;by_cases c:j=i
  .subst c;rw[hi]at J;injection J with J;subst J;exact H
  .exfalso;have u:=zHc (zCd r);have M:=zCd (ready_mono z c);have O:(left ops (a.setIfInBounds i true)).length=0:=by omega
   rw[zXa O]at M;cases M
 |succ b Z=>
  intro a e st p l C r H;refine⟨λh=>(by rw[h]at r;cases r),λj z A f=>?_⟩;by_cases c:j=i
  .subst c;rw[hi]at f;injection f with f;subst f;exact H
  .obtain⟨v,m,x,D⟩:=mem_ready.1 z;have e1:m=A:=by rw[f]at x;injection x with h;exact h.symm
   subst e1;have E:∀n∈m.after,Region.binds .any n=true->n.on≠i:=λn he hb R=>by
    have u:=D n he hb;have W:=(mem_ready.1 r).1;rw[R]at u;rcases zW5 i a.size with h'|h'
    .simp[h']at W u;rw[W]at u;cases u
    .simp[zXH h']at u
   have F:=l j m f c v E (zRk C (mem_ready.1 r).1 z _);have u:zt P L ds KP y (zt P L ds KP m (AnyA P L ds KP ops K b ((a.setIfInBounds i true).setIfInBounds j true))) e st:=
    qA H λe' s q=>q.2 j (ready_mono z c) m f
   have M:=zPt N F.1 F.2 (zKE Y b _) u;have t:∀k B,ops[k]?=some B->k≠i->(a.setIfInBounds j true).getD k true=false ->
    (∀n∈B.after,Region.binds .any n=true->n.on≠i)->bef ops ops.size i k=false->y.apart ops B=true/\zC2 L y B=true:=λk B hk T G U V=>by
    refine l k B hk T ?_ U V;by_cases I:j=k
    .subst I;exact v
    .rw[getD_set_ne true I]at G;exact G
   refine qA M λe' s O=>Z (a.setIfInBounds j true) e' s (by have:=zHc (zCd z);omega) t (zRt z C) (ready_mono r (zW8 c)) ?_;rw[Array.setIfInBounds_comm _ _ c];exact O
def zF2(L:Pol)(l:List Oper):Bool:=
 (List.range l.length).all λi=>(List.range l.length).all λj=>
  match l[i]?,l[j]? with
  |some a,some b=>!decide (i<j)||zC2 L a b||bef l.toArray l.length i j
  |_,_=>true
theorem zNc{l:List Oper}(h:zF2 L l=true){i j:Nat}{c f:Oper}(hi:l[i]?=some c)(k:l[j]?=some f)(a:i<j)(b:bef l.toArray l.length i j=false) :
 zC2 L c f=true:=by
 have m:=zWL.1 h i (zYO.2 (zW9.1 hi).1);have n:=zWL.1 m j (zYO.2 (zW9.1 k).1);simpa [hi,k,a,b]using n
theorem zMD(m:ds=ops.toList.map (·.dst))(z:zF2 L ops.toList=true){K:Env->S->Prop}(A:Resp K):∀(l:List Oper)(k:Nat)(a:Array Bool)(e:Env)(st:S),(∀j,l[j]?=ops[k+j]?) ->
 (∀j,j<k->a.getD j true=true)->(left ops a).length<=l.length->PC ops a ->
 Region.lexFrom .any ops l.length k a=true->AL P L ds KP l K e st->AnyA P L ds KP ops K l.length a e st
 |[],_,_,_,_,_,_,_,_,p,h=>⟨by simpa [Region.lexFrom]using p,h⟩
 |o::l,k,a,e,st,B,c,b,n,p,h=>by
  have r:ops[k]?=some o:=by simpa using(B 0).symm
  simp only[zWC,Region.lexFrom,zV5]at p;obtain⟨⟨E,F⟩,t⟩:=p;have f:k∈Region.ready .any ops a:=by simpa using E
  refine zQB m A r l.length a e st b ?_ n f ?_
  .intro j G u v i x y;refine⟨Region.free_spec r F j G u v i x,zNc z (by simpa using r) (by simpa using u) ?_ (by simpa using y)⟩;rcases zW5 k j with C|C
   .exact C
   .have:=c j (by omega);rw[this]at i;cases i
  .refine qA (h:zt P L ds KP o (AL P L ds KP l K) e st) λe' s q=>?_;refine zMD m z A l (k+1) _ e' s (λj=>by have:=B (j+1);simpa [zX7,zYZ 1 j]using this) (λj u=>?_) (by have:=zHc (zCd f);simp only[zWC]at b;omega) (zRt f n) t q;by_cases D:j=k
   .subst D;rcases zW5 j a.size with h'|h'
    .simp[h']
    .simp[zXH h']
   .rw[getD_set_ne true (zW8 D)];exact c j (by omega)
theorem zIX(k:ds=ops.toList.map (·.dst))(f:∀o∈ops.toList,∀t,o.dst=some t->X.N.ok t=true){Q:Exit->Env->S->Prop}(r:∀c s,KP c s->Q (.panic c) [] s){K:Env->S->Prop}{g0:Gh}{w0:World}
 (j:∀g e s a w,K e s->Step X.B g0 w0 g w->Rel X g e s a w->Goes X g0 w0 Q .normal a w) :
 ∀(n:Nat)(b:Array Bool)(e:Env)(st:S)(g:Gh)(a:Act)(w:World),AnyA P L ds KP ops K n b e st->Step X.B g0 w0 g w->Rel X g e st a w->wpAny P .any ops (Goes X g0 w0 Q) n b a w
 |0,_,e,st,g,a,w,h,l,m=>⟨h.1,j g e st a w h.2 l m⟩
 |n+1,b,e,st,g,a,w,h,l,m=>⟨λu=>j g e st a w (h.1 u) l m,λi hi=>by
  obtain⟨_,o,p,_⟩:=mem_ready.1 hi;have v:o∈ops.toList:=by simpa using zYP p
  refine wpOp_mono ?_ (zHC k r p (f o v) (h.2 i hi o p) l m);rintro a' w' ⟨g',e',q,x,y,z⟩;exact zIX k f r j n _ e' q g' a' w' z x y⟩
end
section
variable{P:Program}{L:Pol}{X:Cx}{e:Env}{st:S}
def ji(a:List Nat)(e:Env):Env:=a.map λk=>(k,e.get k)
theorem zKY(a:List Nat)(e:Env):e.sub (ji a e):=Env.sub_of e _ λp b=>by
 obtain⟨k,_,rfl⟩:=zWa.1 b;rfl
theorem zp{Q:Exit->Env->S->Prop}{id:Nat}{l:List Oper}(L:Pol)(m:Nat->List Nat)(ds:List (Option Nat))(k:l.map (·.dst)=ds)(p:zEA X.N l=true)
 (h:AL P L ds (λc s=>Q (.panic c) [] s) l (λe' j=>Q .normal (ji (m id) e') j) e st):awp P X (.region id l.toArray false) Q e st:=by
 intro g a w q;generalize m id=n at h;have r:=zQA (X:=X) (P:=P) (L:=L) (Q:=λex e' j=>match ex with|.normal=>Q .normal (ji n e') j|.panic c=>Q (.panic c) [] j|_=>False) (id:=id) (l:=l) ds k p h g a w q;refine wpIn_mono r ?_;rintro ex a' w' ⟨g',e',f,o,i,b⟩;cases ex with
 |normal=>exact⟨g',_,f,o,i.weaken (zKY n e') (S.sub_refl _),b⟩
 |panic c=>exact⟨g',[],f,o,⟨i.inv,λ_=>trivial,i.size,i.df,i.gl⟩,b⟩
 |exit id=>exact b.elim
 |goto l=>exact b.elim
 |ret=>exact b.elim
 |outgrown=>exact b.elim
theorem zi{Q:Exit->Env->S->Prop}{id:Nat}{l:List Oper}(L:Pol)(A:P.follows .mixedOrders=true)(v:Nat->List Nat)(ds:List (Option Nat))(i:l.map (·.dst)=ds)(x:zEA X.N l=true)(y:Region.lexB .any l.toArray=true)(B:zF2 L l=true)
 (h:AL P L ds (λc s=>Q (.panic c) [] s) l (λe' m=>Q .normal (ji (v id) e') m) e st):awp P X (.region id l.toArray true) Q e st:=by
 intro g a w n;generalize v id=ks at h;simp only[Region.lexB,zV5]at y;have q:∀o∈l.toArray.toList,∀c,o.op≠.defer c:=λo r=>zF3 x (by simpa using r);refine wpIn_mono (Q:=Goes X g w (inQ Q)) (wpIn_region_draw λt=>zDO q (zKW λ_ _ k=>k) _ a _ ?_) zMu;simp only[Region.schedule,A,Bool.true_or,zWE];refine wpAny_sound _ t _ a _ ?_;have b:=zBd n.inv (w.drawn+1);have p:Rel X g e st a { w with drawn:=w.drawn+1 }:=⟨b.inv,λk=>(n.env k).later b.step.later,n.size,n.df,n.gl.below b.step.below b.step.later.wm⟩;have f:Resp (λe' m=>Q .normal (ji ks e') m):=λC z s D E=>by
  have:ji ks C=ji ks z:=by unfold ji;exact zWx λk _=>by rw[D k]
  show Q .normal (ji ks z) s;rw[<-this];exact E
 have F:=zMD (P:=P) (L:=L) (ops:=l.toArray) (ds:=ds) (KP:=λc s=>Q (.panic c) [] s) (by simpa using i.symm) (by simpa using B) f l 0 (Array.replicate l.toArray.size false) e st (by simp) (λj J=>by omega)
  (by unfold left;exact zWv (zZM _ _) (by simp)) (λk M O u=>by
   exfalso;rw[zWS,zY6]at u;split at u<;>simp at u) (by simpa using y.2) h
 have:=zIX (X:=X) (Q:=inQ Q) (ops:=l.toArray) (ds:=ds) (by simpa using i.symm) (λo r=>zRn x (by simpa using r)) (λ_ _ k=>k) (g0:=g) (w0:=w)
  (λg' e' m a' w' G H I=>⟨g',_,m,H,I.weaken (zKY ks e') (S.sub_refl _),G⟩) l.length _ e st g a { w with drawn:=w.drawn+1 } F b.step p
 exact this
end
theorem zC(next:Env->S->Prop)(Q:Exit->Env->S->Prop)(e:Env)(s:S):zDm next Q .normal e s=next e s:=rfl
theorem zX(next:Env->S->Prop)(Q:Exit->Env->S->Prop)(e:Env)(s:S)(id:Nat):zDm next Q (.exit id) e s=Q (.exit id) e s:=rfl
theorem zb(next:Env->S->Prop)(Q:Exit->Env->S->Prop)(e:Env)(s:S):zDm next Q .ret e s=Q .ret e s:=rfl
theorem yM(next:Env->S->Prop)(Q:Exit->Env->S->Prop)(e:Env)(s:S)(c:List PanicEntry):zDm next Q (.panic c) e s=Q (.panic c) e s:=rfl
theorem zE(id:Nat)(Q:Exit->Env->S->Prop)(e:Env)(s:S):zDG id Q .normal e s=Q .normal e s:=rfl
theorem zW(id a:Nat)(Q:Exit->Env->S->Prop)(e:Env)(s:S):zDG id Q (.exit a) e s=if a=id then Q .normal e s else Q (.exit a) e s:=rfl
theorem zY(id:Nat)(Q:Exit->Env->S->Prop)(e:Env)(s:S):zDG id Q .ret e s=Q .ret e s:=rfl
theorem qj(id:Nat)(Q:Exit->Env->S->Prop)(e:Env)(s:S)(c:List PanicEntry):zDG id Q (.panic c) e s=Q (.panic c) e s:=rfl
theorem zk(P:Program)(rs:List ResultVar)(Q:Outc->S->Prop)(e:Env)(s:S):retE P rs Q .ret e s=yk P rs e s λxs=>Q (.ret (finV xs)) s:=rfl
theorem zF(e:Env)(d:Nat)(x:V)(j:Nat):(e.putO (some d) x).get j=if d=j then x else e.get j:=Env.get_put e d x j
theorem qF(e:Env)(x:V):e.putO none x=e:=rfl
theorem zG(k:Nat)(x:V)(r:Env)(j:Nat):Env.get ((k,x)::r) j=if k=j then x else Env.get r j:=rfl
theorem zI(j:Nat):Env.get [] j=.any:=rfl
theorem zP(e:Env)(t:Nat):e.ev (.tmp t)=e.get t:=rfl
theorem zT(e:Env)(v:Value):e.ev (.const v)=cV v:=rfl
theorem yH(k:IntKind)(n:Int):cV (.int k n)=.at (.int k n):=rfl
theorem xz(b:Bool):cV (.bool b)=.at (.bool b):=rfl
theorem yg(s:ByteArray):cV (.string s)=.at (.string s):=rfl
theorem cV_nil:cV (.slice none 0 0)=.lst .nil []:=rfl
theorem zg(k:Nat)(a:List Nat)(e:Env):ji (k::a) e=(k,e.get k)::ji a e:=rfl
theorem zj(e:Env):ji [] e=[]:=rfl
theorem zBk(P:Program)(c:BinOp)(t:TypeId)(k:IntKind)(a b:Int)(K:V->Prop):aBin P c t (.at (.int k a)) (.at (.int k b)) K=aInt c k a b K:=by simp[aBin]
theorem zDL(P:Program)(c:BinOp)(t:TypeId)(a b:ByteArray)(K:V->Prop):aBin P c t (.at (.string a)) (.at (.string b)) K=aStr c a b K:=rfl
theorem zNL(k:IntKind)(a b:Int)(K:V->Prop):aInt .add k a b K=K (.at (.int k (k.wrap (a+b)))):=rfl
theorem zHa(k:IntKind)(a b:Int)(K:V->Prop):aInt .eql k a b K=K (.at (.bool (a==b))):=rfl
theorem zSU(k:IntKind)(a b:Int)(K:V->Prop):aInt .gtr k a b K=K (.at (.bool (decide (a > b)))):=rfl
theorem zSx(k:IntKind)(a b:Int)(K:V->Prop):aInt .geq k a b K=K (.at (.bool (decide (a >= b)))):=rfl
theorem zEW(b:Bool)(K:V->Prop):aUn .not (.at (.bool b)) K=K (.at (.bool !b)):=rfl
theorem zHO(P:Program)(t:TypeId)(tg:Tag)(es:List V)(K:V->Prop):aLen P t (.lst tg es) K=((elT P t).isSome=true/\K (.at (.int .i64 (es.length:Int)))):=rfl
theorem zPD(P:Program)(t:TypeId)(a:Option Addr)(n c:Nat)(K:V->Prop):aLen P t (.at (.slice a n c)) K=((elT P t).isSome=true/\K (.at (.int .i64 (n:Int)))):=rfl
theorem zTy(P:Program)(t:TypeId)(s:ByteArray)(K:V->Prop):aLen P t (.at (.string s)) K=(kN P t=true/\K (.at (.int .i64 (s.size:Int)))):=rfl
theorem xX(t:Bool)(a b:V)(K:V->Prop):zB4 (.at (.bool t)) a b K=K (if t then a else b):=rfl
theorem zJu(y:V)(K:V->Prop):xQ (.rptr y) K=K (.rptr y):=rfl
theorem yi(a:Addr)(K:V->Prop):xQ (.at (.pointer (some a))) K=K (.at (.pointer (some a))):=rfl
theorem zCb(P:Program)(st:S)(t:TypeId)(y:V)(K:V->Prop):xH P st t (.rptr y) K=(fits P t y/\K y):=rfl
theorem zPc(P:Program)(t:TypeId)(s:ByteArray)(k:IntKind)(n:Int)(K:V->Prop):kp P t (.at (.string s)) (.at (.int k n)) K=(kN P t=true/\(0<=n/\n<(s.size:Int))/\K (.at (.int .u8 ((s.data.getD n.toNat 0).toNat:Int)))):=rfl
def zJF(P:Program)(t o:Nat)(q:Option (List V×Nat))(K:V->Prop):Prop:=
 match q with
 |some (cs,_)=>yO P t cs o/\K (yN P t cs o)
 |none=>False
theorem yb(P:Program)(st:S)(t:TypeId)(b o:Nat)(K:V->Prop):xH P st t (.at (.pointer (some ⟨b,o,none⟩))) K=zJF P t o (look st.box b) K:=by
 unfold xH zJF;rfl
theorem yP(P:Program)(t o:Nat)(cs:List V)(k:Nat)(K:V->Prop):zJF P t o (some (cs,k)) K=(yO P t cs o/\K (yN P t cs o)):=rfl
theorem jY(P:Program)(t o:Nat){q a:Option (List V×Nat)}(h:q=a)(K:V->Prop):zJF P t o q K=zJF P t o a K:=by rw[h]
def zF8(P:Program)(t b o:Nat)(y:V)(st:S)(q:Option (List V×Nat))(K:S->Prop):Prop:=
 match q with
 |some (cs,k)=>hasT P t=true/\y.flat.length=P.cellsOf t/\zJ y.flat/\o+y.flat.length<=cs.length/\K ⟨lay st.box b (spl cs o y.flat,k),st.tg,st.nx,st.ob⟩
 |none=>False
theorem qB(P:Program)(st:S)(t:TypeId)(y:V)(b o:Nat)(K:S->Prop):qS P st t (.at (.pointer (some ⟨b,o,none⟩))) y K=zF8 P t b o y st (look st.box b) K:=by
 unfold qS zF8;rfl
theorem xV(P:Program)(t b o:Nat)(y:V)(st:S)(cs:List V)(k:Nat)(K:S->Prop):zF8 P t b o y st (some (cs,k)) K =
 (hasT P t=true/\y.flat.length=P.cellsOf t/\zJ y.flat/\o+y.flat.length<=cs.length/\K ⟨lay st.box b (spl cs o y.flat,k),st.tg,st.nx,st.ob⟩):=rfl
theorem qp(P:Program)(t b o:Nat)(y:V)(st:S){q a:Option (List V×Nat)}(h:q=a)(K:S->Prop):zF8 P t b o y st q K=zF8 P t b o y st a K:=by rw[h]
def zEd(P:Program)(fs:List V)(q:Option (Nat×TypeId))(K:V->Prop):Prop:=
 match q with
 |some (a,b)=>zJ fs/\yO P b fs a/\0<P.cellsOf b/\K (.rptr (yN P b fs a))
 |none=>False
theorem kg(P:Program)(t:TypeId)(fs:List V)(f:Nat)(K:V->Prop):yY P t (.rptr (.agg fs)) f K=zEd P fs (fieldAt P t f) K:=by
 unfold yY zEd;cases fieldAt P t f<;>rfl
theorem zBA(P:Program)(fs:List V)(a:Nat)(b:TypeId)(K:V->Prop):zEd P fs (some (a,b)) K=(zJ fs/\yO P b fs a/\0<P.cellsOf b/\K (.rptr (yN P b fs a))):=rfl
theorem qQ(P:Program)(fs:List V){q a:Option (Nat×TypeId)}(h:q=a)(K:V->Prop):zEd P fs q K=zEd P fs a K:=by rw[h]
def zEE(P:Program)(b o:Nat)(q:Option (Nat×TypeId))(K:V->Prop):Prop:=
 match q with
 |some (a,c)=>hasT P c=true/\0<P.cellsOf c/\K (.at (.pointer (some ⟨b,o+a,none⟩)))
 |none=>False
theorem zu(P:Program)(t:TypeId)(b o:Nat)(f:Nat)(K:V->Prop):yY P t (.at (.pointer (some ⟨b,o,none⟩))) f K=zEE P b o (fieldAt P t f) K:=by
 unfold yY zEE;cases fieldAt P t f<;>rfl
theorem yB(P:Program)(b o a:Nat)(c:TypeId)(K:V->Prop):zEE P b o (some (a,c)) K=(hasT P c=true/\0<P.cellsOf c/\K (.at (.pointer (some ⟨b,o+a,none⟩)))):=rfl
theorem qO(P:Program)(b o:Nat){q a:Option (Nat×TypeId)}(h:q=a)(K:V->Prop):zEE P b o q K=zEE P b o a K:=by rw[h]
def zQG(P:Program)(fs:List V)(q:Option (Nat×TypeId))(K:V->Prop):Prop:=
 match q with
 |some (a,b)=>zJ fs/\yO P b fs a/\K (yN P b fs a)
 |none=>False
theorem qv(P:Program)(fs:List V){q a:Option (Nat×TypeId)}(h:q=a)(K:V->Prop):zQG P fs q K=zQG P fs a K:=by rw[h]
def zFk(P:Program)(es:List V)(n:Int)(q:Option TypeId)(K:V->Prop):Prop:=
 match q with
 |some el=>hasT P el=true/\(0<=n/\n<(es.length:Int))/\(es.getD n.toNat .any).size=P.cellsOf el/\K (.rptr (es.getD n.toNat .any))
 |none=>False
theorem zAV(P:Program)(t:TypeId)(tg:Tag)(es:List V)(k:IntKind)(n:Int)(K:V->Prop):ym P t (.lst tg es) (.at (.int k n)) K=zFk P es n (elT P t) K:=by
 unfold ym zFk;cases elT P t<;>rfl
theorem zB0(P:Program)(es:List V)(n:Int)(el:TypeId)(K:V->Prop):zFk P es n (some el) K =
 (hasT P el=true/\(0<=n/\n<(es.length:Int))/\(es.getD n.toNat .any).size=P.cellsOf el/\K (.rptr (es.getD n.toNat .any))):=rfl
theorem ql(P:Program){es a:List V}(f:es=a){n b:Int}(i:n=b){q c:Option TypeId}(h:q=c)(K:V->Prop):zFk P es n q K=zFk P a b c K:=by rw[f,i,h]
def zEC(P:Program)(b o len:Nat)(n:Int)(q:Option TypeId)(K:V->Prop):Prop:=
 match q with
 |some el=>hasT P el=true/\(0<=n/\n<(len:Int))/\K (.at (.pointer (some ⟨b,o+n.toNat*P.cellsOf el,none⟩)))
 |none=>False
theorem zHj(P:Program)(t:TypeId)(b o len cap:Nat)(k:IntKind)(n:Int)(K:V->Prop):ym P t (.at (.slice (some ⟨b,o,none⟩) len cap)) (.at (.int k n)) K=zEC P b o len n (elT P t) K:=by
 unfold ym zEC;cases elT P t<;>rfl
theorem zLw(P:Program)(b o len:Nat)(n:Int)(el:TypeId)(K:V->Prop):zEC P b o len n (some el) K=(hasT P el=true/\(0<=n/\n<(len:Int))/\K (.at (.pointer (some ⟨b,o+n.toNat*P.cellsOf el,none⟩)))):=rfl
theorem qR(P:Program)(b o len:Nat){n a:Int}(f:n=a){q c:Option TypeId}(h:q=c)(K:V->Prop):zEC P b o len n q K=zEC P b o len a c K:=by rw[f,h]
def zFy(st:S)(q:Option (List V))(K:V->S->Prop):Prop:=
 match q with
 |some cs=>aNew st cs K
 |none=>False
theorem zKD(P:Program)(st:S)(t:TypeId)(K:V->S->Prop):jk P st t K=zFy st (yZ P t) K:=by unfold jk zFy;rfl
theorem zHG(st:S)(cs:List V)(K:V->S->Prop):zFy st (some cs) K=aNew st cs K:=rfl
theorem jG(st:S){q a:Option (List V)}(h:q=a)(K:V->S->Prop):zFy st q K=zFy st a K:=by rw[h]
def zJU(q:Option (List V))(K:V->Prop):Prop:=
 match q with
 |some cs=>K (.agg cs)
 |none=>False
def zRb(P:Program)(t:TypeId)(ps:List (Nat×V))(q:Option (List V))(K:V->Prop):Prop:=
 match q with
 |some cs=>zJU (zBS (zBa P t) cs ps) K
 |none=>False
theorem qm(P:Program)(t:TypeId)(ps:List (Nat×V)){q a:Option (List V)}(h:q=a)(K:V->Prop):zRb P t ps q K=zRb P t ps a K:=by rw[h]
theorem qK{q a:Option (List V)}(h:q=a)(K:V->Prop):zJU q K=zJU a K:=by rw[h]
def sBS(P:Program)(L:Pol)(a:Option Nat)(st:S)(n:Nat)(parts:List (Nat×V))(q:Option TypeId)(K:V->S->Prop):Prop:=
 match q with
 |none=>False
 |some el=>
  hasT P el=true/\(yZ P el).isSome=true/\((yZ P el).map List.length=some (P.cellsOf el))/\n*P.cellsOf el<=2 ^ 24/\n<=maxLen/\parts.length=n/\jl 0 parts=true/\yw (P.cellsOf el) (parts.map λp=>p.2.untag)/\(parts.all λp=>p.2.flat.all V.isOne)=true /\
  (if(a.map L.wr).getD false=true then
   zJ (zf (parts.map λp=>p.2))/\∀b,look st.box b=none->K (.at (.slice (some ⟨b,0,none⟩) n n)) ⟨lay st.box b (zf (parts.map λp=>p.2),n*P.cellsOf el),st.tg,st.nx,st.ob⟩
  else if(a.map L.own).getD false=true then
   K (.lst (.own st.nx false (P.cellsOf el)) (parts.map λp=>p.2.untag)) ⟨st.box,st.nx::st.tg,st.nx+1,st.ob⟩
  else K (.lst .no (parts.map λp=>p.2.untag)) st)
theorem zEL(P:Program)(L:Pol)(a:Option Nat)(st:S)(t:TypeId)(n:Nat)(parts:List (Nat×V))(K:V->S->Prop):yU P L a st t n parts K=sBS P L a st n parts (elT P t) K:=by
 unfold yU sBS;cases elT P t<;>rfl
theorem zAA(P:Program)(L:Pol)(b:Option Nat)(st:S)(n:Nat){parts a:List (Nat×V)}(f:parts=a){q c:Option TypeId}(h:q=c)(K:V->S->Prop):sBS P L b st n parts q K=sBS P L b st n a c K:=by rw[h,f]
def sBSk(P:Program)(st:S)(n:Nat)(parts:List (Nat×V))(el:TypeId)(w o:Bool)(K:V->S->Prop):Prop:=
 hasT P el=true/\(yZ P el).isSome=true/\((yZ P el).map List.length=some (P.cellsOf el))/\n*P.cellsOf el<=2 ^ 24/\n<=maxLen/\parts.length=n/\jl 0 parts=true/\yw (P.cellsOf el) (parts.map λp=>p.2.untag)/\(parts.all λp=>p.2.flat.all V.isOne)=true /\
  (if w=true then
   zJ (zf (parts.map λp=>p.2))/\∀b,look st.box b=none->K (.at (.slice (some ⟨b,0,none⟩) n n)) ⟨lay st.box b (zf (parts.map λp=>p.2),n*P.cellsOf el),st.tg,st.nx,st.ob⟩
  else if o=true then
   K (.lst (.own st.nx false (P.cellsOf el)) (parts.map λp=>p.2.untag)) ⟨st.box,st.nx::st.tg,st.nx+1,st.ob⟩
  else K (.lst .no (parts.map λp=>p.2.untag)) st)
theorem zLV(P:Program)(L:Pol)(d:Nat)(st:S)(n:Nat)(parts:List (Nat×V))(el:TypeId)(K:V->S->Prop):sBS P L (some d) st n parts (some el) K=sBSk P st n parts el (L.wr d) (L.own d) K:=rfl
theorem j9(P:Program)(st:S)(n:Nat)(parts:List (Nat×V))(el:TypeId){w w' o o':Bool}(a:w=w')(b:o=o')(K:V->S->Prop):sBSk P st n parts el w o K=sBSk P st n parts el w' o' K:=by rw[a,b]
theorem zOM(P:Program)(st:S)(n:Nat)(parts:List (Nat×V))(el:TypeId)(K:V->S->Prop):sBSk P st n parts el false false K =
 (hasT P el=true/\(yZ P el).isSome=true/\((yZ P el).map List.length=some (P.cellsOf el))/\n*P.cellsOf el<=2 ^ 24/\n<=maxLen/\parts.length=n/\jl 0 parts=true/\yw (P.cellsOf el) (parts.map λp=>p.2.untag)/\(parts.all λp=>p.2.flat.all V.isOne)=true /\
  K (.lst .no (parts.map λp=>p.2.untag)) st):=rfl
theorem all_nil{p:Nat×V->Prop}:(∀q∈([]:List (Nat×V)),p q)=True:=by simp
theorem zKc(sz:Nat):yw sz []=True:=by simp[yw]
theorem zH0(sz:Nat)(x:V)(r:List V):yw sz (x::r)=(x.size=sz/\yw sz r):=by simp[yw]
theorem pow24:(2:Nat) ^ 24=16777216:=by decide
theorem zFW:1<=maxLen:=by simp[maxLen]
open Go.RowKit
def zDr(P:Program)(el:TypeId)(n:Nat)(ys:List V):Prop:=
 hasT P el=true/\((yZ P el).map List.length=some (P.cellsOf el))/\0<P.cellsOf el/\yw (P.cellsOf el) ys/\(n+ys.length)*P.bytesOf el<=140737488355328/\n+ys.length<=maxLen
def sApp(P:Program)(L:Pol)(c:Option Nat)(st:S)(t h:TypeId)(s:V)(ys:List V)(q:Option TypeId)(K:V->S->Prop):Prop:=
 match q with
 |none=>False
 |some el=>h=t/\hasT P el=true/\((yZ P el).map List.length=some (P.cellsOf el))/\0<P.cellsOf el/\yw (P.cellsOf el) ys /\
  (match s with
   |.lst .nil []=>ys.length*P.bytesOf el<=140737488355328/\ys.length<=maxLen /\
    (if(c.map L.wr).getD false=true then
     ys≠[]/\zJ (zf ys)/\∀b cap,look st.box b=none->ys.length<=cap->K (.at (.slice (some ⟨b,0,none⟩) ys.length cap)) ⟨lay st.box b (zf ys,cap*P.cellsOf el),st.tg,st.nx,st.ob⟩
    else K (.lst (.own st.nx true (P.cellsOf el)) ys) ⟨st.box,st.nx::st.tg,st.nx+1,st.ob⟩)
   |.lst (.own g i sz) es=>g∈st.tg/\sz=P.cellsOf el/\(es.length+ys.length)*P.bytesOf el<=140737488355328/\es.length+ys.length<=maxLen /\
    K (.lst (.own st.nx i sz) (es++ys)) ⟨st.box,st.nx::st.tg.erase g,st.nx+1,st.ob⟩
   |.at (.slice (some ⟨b,0,none⟩) len cap)=>
    (match look st.box b with
     |some (cs,k)=>(c.map L.wr).getD false=true/\k=cap*P.cellsOf el/\len<=cap/\len*P.cellsOf el<=cs.length/\(len+ys.length)*P.bytesOf el<=140737488355328/\len+ys.length<=maxLen/\zJ (zf ys) /\
      ∀f a,look (wipe st.box b) f=none->len+ys.length<=a ->
       K (.at (.slice (some ⟨f,0,none⟩) (len+ys.length) a)) ⟨lay (wipe st.box b) f (cs.take (len*P.cellsOf el)++zf ys,a*P.cellsOf el),st.tg,st.nx,st.ob⟩
     |none=>False)
   |_=>False)
theorem zII(P:Program)(L:Pol)(a:Option Nat)(st:S)(t b:TypeId)(s:V)(tg:Tag)(ys:List V)(K:V->S->Prop):xS P L a st t b s (.lst tg ys) K=sApp P L a st t b s ys (elT P t) K:=by
 unfold xS sApp;cases elT P t<;>rfl
theorem jv(P:Program)(L:Pol)(a:Option Nat)(st:S)(t c:TypeId){s f:V}(j:s=f){ys b:List V}(k:ys=b){q i:Option TypeId}(h:q=i)(K:V->S->Prop):sApp P L a st t c s ys q K=sApp P L a st t c f b i K:=by
 rw[j,k,h]
def zIf(P:Program)(st:S)(ys:List V)(el:TypeId)(w:Bool)(K:V->S->Prop):Prop:=
 zDr P el 0 ys/\(if w=true then
  ys≠[]/\zJ (zf ys)/\∀b cap,look st.box b=none->ys.length<=cap->K (.at (.slice (some ⟨b,0,none⟩) ys.length cap)) ⟨lay st.box b (zf ys,cap*P.cellsOf el),st.tg,st.nx,st.ob⟩
  else K (.lst (.own st.nx true (P.cellsOf el)) ys) ⟨st.box,st.nx::st.tg,st.nx+1,st.ob⟩)
theorem zSa(P:Program)(L:Pol)(d:Nat)(st:S)(t:TypeId)(ys:List V)(el:TypeId)(K:V->S->Prop):sApp P L (some d) st t t (.lst .nil []) ys (some el) K=zIf P st ys el (L.wr d) K:=by
 unfold sApp zIf zDr;simp[and_assoc]
theorem jZ(P:Program)(st:S)(ys:List V)(el:TypeId){w w':Bool}(a:w=w')(K:V->S->Prop):zIf P st ys el w K=zIf P st ys el w' K:=by rw[a]
theorem zU9(P:Program)(st:S)(ys:List V)(el:TypeId)(K:V->S->Prop):zIf P st ys el false K=(zDr P el 0 ys/\K (.lst (.own st.nx true (P.cellsOf el)) ys) ⟨st.box,st.nx::st.tg,st.nx+1,st.ob⟩):=rfl
theorem zSR(P:Program)(L:Pol)(d:Nat)(st:S)(t:TypeId)(g:Nat)(j:Bool)(sz:Nat)(es ys:List V)(el:TypeId)(K:V->S->Prop):sApp P L (some d) st t t (.lst (.own g j sz) es) ys (some el) K =
 (zDr P el es.length ys/\g∈st.tg/\sz=P.cellsOf el/\K (.lst (.own st.nx j sz) (es++ys)) ⟨st.box,st.nx::st.tg.erase g,st.nx+1,st.ob⟩):=by
 unfold sApp zDr;simp only[zXJ,and_assoc];refine propext ⟨λ⟨a,b,c,d,e,f,g,h,i⟩=>⟨a,b,c,d,g,h,e,f,i⟩,λ⟨a,b,c,d,g,h,e,f,i⟩=>⟨a,b,c,d,e,f,g,h,i⟩⟩
theorem zNk(es:List V):V.untag (.lst (yL es) es)=.lst (yL es) es:=by
 cases es<;>rfl
theorem untag_at(v:Value):V.untag (.at v)=.at v:=rfl
theorem zBB(es:List V):zx (.lst (yL es) es)=.lst (yL es) es:=by
 cases es<;>rfl
theorem zz(v:Value):(V.flat (.at v)).all V.isOne=true:=rfl
theorem zGD(tg:Tag)(es:List V):(V.flat (.lst tg es)).all V.isOne=true:=rfl
theorem zBN(fs:List V):(V.flat (.agg fs)).all V.isOne=fs.all V.isOne:=rfl
section
variable{P:Program}{L:Pol}{ds:List (Option Nat)}{KP:List PanicEntry->S->Prop}{os:List Oper}{K:Env->S->Prop}{e:Env}{st:S}
variable{d:Option Nat}{ty:TypeId}{pos:String}{af:Array Edge}
theorem zSq{f:FuncId}{xs:List Operand}{a:Array TypeId}{as:List V}{r:V}(b:PureF P f as r)(c:L.pf f=true)(i:zU P f=true)(j:(xs.map e.ev).map V.untag=as)(k:((xs.map e.ev).all λx=>x.flat.all V.isOne)=true)
 (h:AL P L ds KP os K (e.putO d r) st):AL P L ds KP (⟨d,.call ⟨.value (.func f),xs.toArray,a⟩,ty,pos,af,none⟩::os) K e st:=by
 subst j;exact zVR r c i k b h
end
theorem zHB(l r:List (Nat×List V×Nat))(b:Nat):look (l++r) b=(look l b).or (look r b):=by
 induction l with
 |nil=>rfl
 |cons p q a=>
  obtain⟨k,c⟩:=p;simp only[zWY,look];split
  .rfl
  .exact a
theorem ky{α:Type}(sz:Nat)(f:α->V)(h:∀x,(f x).size=sz)(l:List α):yw sz (l.map f):=λx a=>by
 obtain⟨y,_,rfl⟩:=zWa.1 a;exact h y
def Env.has(e:Env):List (Nat×V)->Prop
 |[]=>True
 |(k,x)::r=>e.get k=x/\Env.has e r
section
variable{P:Program}{X:Cx}{Q:Exit->Env->S->Prop}{e:Env}{st:S}
end
open Go.RowKit
def sAppW(P:Program)(st:S)(b len cap:Nat)(ys:List V)(w:Bool)(el:TypeId)(q:Option (List V×Nat))(K:V->S->Prop):Prop:=
 match q with
 |none=>False
 |some (cs,k)=>zDr P el len ys/\w=true/\k=cap*P.cellsOf el/\len<=cap/\len*P.cellsOf el<=cs.length/\zJ (zf ys) /\
  ∀c a,look (wipe st.box b) c=none->len+ys.length<=a ->
   K (.at (.slice (some ⟨c,0,none⟩) (len+ys.length) a)) ⟨lay (wipe st.box b) c (cs.take (len*P.cellsOf el)++zf ys,a*P.cellsOf el),st.tg,st.nx,st.ob⟩
theorem ja(P:Program)(st:S)(b len cap:Nat)(ys:List V){w w':Bool}(c:w=w')(el:TypeId){q a:Option (List V×Nat)}(h:q=a)(K:V->S->Prop):sAppW P st b len cap ys w el q K=sAppW P st b len cap ys w' el a K:=by rw[h,c]
def appOkB(P:Program)(el:TypeId)(n m:Nat):Prop:=
 hasT P el=true/\((yZ P el).map List.length=some (P.cellsOf el))/\0<P.cellsOf el/\(n+m)*P.bytesOf el<=140737488355328/\n+m<=maxLen
def sAppS(P:Program)(st:S)(s:V)(m:Nat)(w:Bool)(q:Option TypeId)(h:Option (List V×Nat))(K:V->S->Prop):Prop:=
 match q,h with
 |some el,some (c,_)=>hasT P el=true/\((yZ P el).map List.length=some (P.cellsOf el))/\0<P.cellsOf el/\w=true/\m*P.cellsOf el<=c.length /\
  (match s with
   |.lst .nil []=>m*P.bytesOf el<=140737488355328/\m<=maxLen/\m≠0 /\
    ∀b cap,look st.box b=none->m<=cap->K (.at (.slice (some ⟨b,0,none⟩) m cap)) ⟨lay st.box b (c.take (m*P.cellsOf el),cap*P.cellsOf el),st.tg,st.nx,st.ob⟩
   |.at (.slice (some ⟨b,0,none⟩) len cap)=>
    (match look st.box b with
     |some (cs,k)=>k=cap*P.cellsOf el/\len<=cap/\len*P.cellsOf el<=cs.length/\(len+m)*P.bytesOf el<=140737488355328/\len+m<=maxLen /\
      ∀f a,look (wipe st.box b) f=none->len+m<=a ->
       K (.at (.slice (some ⟨f,0,none⟩) (len+m) a)) ⟨lay (wipe st.box b) f (cs.take (len*P.cellsOf el)++c.take (m*P.cellsOf el),a*P.cellsOf el),st.tg,st.nx,st.ob⟩
     |none=>False)
   |_=>False)
 |_,_=>False
theorem je(P:Program)(st:S){s a:V}(f:s=a)(m:Nat){w w':Bool}(h:w=w'){q b:Option TypeId}(i:q=b){r c:Option (List V×Nat)}(j:r=c)(K:V->S->Prop):sAppS P st s m w q r K=sAppS P st a m w' b c K:=by
 rw[f,h,i,j]
def zSB(P:Program)(st:S)(b len cap m:Nat)(el:TypeId)(c:List V)(q:Option (List V×Nat))(K:V->S->Prop):Prop:=
 match q with
 |some (cs,k)=>appOkB P el len m/\m*P.cellsOf el<=c.length/\k=cap*P.cellsOf el/\len<=cap/\len*P.cellsOf el<=cs.length /\
  ∀f a,look (wipe st.box b) f=none->len+m<=a ->
   K (.at (.slice (some ⟨f,0,none⟩) (len+m) a)) ⟨lay (wipe st.box b) f (cs.take (len*P.cellsOf el)++c.take (m*P.cellsOf el),a*P.cellsOf el),st.tg,st.nx,st.ob⟩
 |none=>False
theorem qq(P:Program)(st:S)(b len cap m:Nat)(el:TypeId)(a:List V){q c:Option (List V×Nat)}(h:q=c)(K:V->S->Prop):zSB P st b len cap m el a q K=zSB P st b len cap m el a c K:=by rw[h]
theorem za(P:Program)(rs:List ResultVar)(Q:Outc->S->Prop)(e:Env)(s:S):retER P rs Q .ret e s=xo P rs e s λxs=>∃a,s.sub a/\Q (.ret (finV xs)) a:=rfl
section
variable{P:Program}{L:Pol}{ds:List (Option Nat)}{KP:List PanicEntry->S->Prop}{os:List Oper}{K:Env->S->Prop}{e:Env}{st:S}
variable{d:Option Nat}{ty:TypeId}{pos:String}{af:Array Edge}
def zGU(q:Option Nat)(e:Env)(b:Bool)(A B:Prop):Prop:=
 match q with
 |some t=>zAN (e.get t) b A B
 |none=>False
theorem xq(a:Op)(j:Nat)(b:Bool):AL P L ds KP (⟨d,a,ty,pos,af,some (j,b)⟩::os) K e st =
 zGU (ds.getD j none) e b (AL P L ds KP (⟨d,a,ty,pos,af,none⟩::os) K e st) (AL P L ds KP os K (e.putO d (.tup [])) st):=by
 cases c:ds.getD j none with
 |some t=>exact zTH a j b t c
 |none=>
  show zt P L ds KP ⟨d,a,ty,pos,af,some (j,b)⟩ (AL P L ds KP os K) e st=False;unfold zt jH;simp only[c]
theorem qM{q a:Option Nat}(h:q=a)(e:Env)(b:Bool)(A B:Prop):zGU q e b A B=zGU a e b A B:=by rw[h]
theorem yj(t:Nat)(e:Env)(b:Bool)(A B:Prop):zGU (some t) e b A B=zAN (e.get t) b A B:=rfl
end
def zOJ(P:Program)(b o cap:Nat)(h:Int)(q:Option TypeId)(K:V->Prop):Prop:=
 match q with
 |some el=>hasT P el=true/\(0<=h/\h<=(cap:Int))/\K (.at (.slice (some ⟨b,o,none⟩) h.toNat cap))
 |none=>False
theorem qN(P:Program)(b o cap:Nat){h h':Int}(e:h=h'){q a:Option TypeId}(c:q=a)(K:V->Prop):zOJ P b o cap h q K=zOJ P b o cap h' a K:=by rw[e,c]
section
variable{P:Program}{X:Cx}{Q:Exit->Env->S->Prop}{e:Env}{st:S}{g:Gh}{w:World}
theorem zIA{v:Value}{x:V}(l:RC g w x [v]):∀{cs:List V}{us:List Value}{j:Nat},cs[j]?=some (.at v)->RCs g w cs us->RCs g w (cs.set j x) us
 |[],us,j,a,_=>by simp at a
 |c::r,us,0,a,h=>by
  simp only[RCs]at h;obtain⟨f,i,rfl,b,k⟩:=h;simp only[zXf,zXo]at a;subst a;simp only[RC]at b;simp only[zYs,RCs];exact⟨f,i,rfl,by rw[b.1];exact l,k⟩
 |c::r,us,j+1,a,h=>by
  simp only[RCs]at h;obtain⟨f,i,rfl,b,k⟩:=h;simp only[zYa]at a;simp only[List.set_cons_succ,RCs];exact⟨f,i,rfl,b,zIA l a k⟩
theorem zPw{x:V}{us:List Value}(a:zJ x.flat)(h:RCs g w x.flat us):RC g w x us:=by
 cases x with
 |any=>simp[V.flat,zJ,V.isOne]at a
 |tup vs=>simp[V.flat,zJ,V.isOne]at a
 |agg fs=>simpa only[RC,V.flat]using h
 |_=>
  simp only[V.flat,RCs]at h;obtain⟨c,f,rfl,b,rfl⟩:=h;simpa using b
theorem zLz:∀{xs ys:List V}{us:List Value},RCs g w (xs++ys) us->∃a b,us=a++b/\RCs g w xs a/\RCs g w ys b
 |[],ys,us,h=>⟨[],us,rfl,by simp[RCs],h⟩
 |x::xs,ys,us,h=>by
  simp only[zWY,RCs]at h;obtain⟨a,b,rfl,f,i⟩:=h;obtain⟨c,j,rfl,k,l⟩:=zLz i;exact⟨a++c,j,by simp,by simp only[RCs];exact⟨a,c,rfl,f,k⟩,l⟩
theorem zDR:∀{es:List V}{us:List Value},(∀x∈es,zJ x.flat)->RCs g w (zf es) us->RCs g w es us
 |[],us,_,h=>h
 |x::xs,us,a,h=>by
  obtain⟨b,c,rfl,f,i⟩:=zLz (xs:=x.flat) (ys:=zf xs) h;simp only[RCs];exact⟨b,c,rfl,zPw (a x (by simp)) f,zDR (λy j=>a y (by simp[j])) i⟩
theorem zPX{c:Code}(v f j n cap sz:Nat)(es:List V){cs p:List V}{k kk:Nat}(J:look st.box v=some (cs,k))(hj:cs[j]?=some (.at (.slice (some ⟨f,0,none⟩) n cap)))
 (M:look st.box f=some (p,kk)) (W:¬v=f) (hn:es.length=n) (ak:n<=cap) (Y:p.take (n*sz)=zf es) (al:n*sz<=p.length) (Z:yw sz es) (h1:∀x∈es,zJ x.flat) (hu:es.map V.untag=es)
 (h:awp P X c Q e ⟨lay (wipe st.box f) v (cs.set j (.lst .no es),k),st.tg,st.nx,st.ob⟩):awp P X c Q e st:=by
 intro g a w D;have hi:=D.inv;obtain⟨p1,p2,p3,p4,arr,el,us,p5,p6,p7,p8⟩:=hi.box f p kk M;obtain⟨q1,q2,q3,q4,E,aa,ab,q5,q6,q7,q8⟩:=hi.box v cs k J;have an:f<w.heap.size:=(zV8.1 p5).1;have y:zJ p:=by unfold zJ;rw[zWL];exact p4
 have ac:=yG g w p us p7;rw[yV y]at ac;have l:Later g w ⟨λi=>if i=f then n*sz else g.wm i,g.tb,g.fr⟩ w:=⟨λi=>by
  show g.wm i<=if i=f then n*sz else g.wm i
  split
  .rename_i q;subst q;rw[p2];exact zWd _
  .exact zV7 _,λ_ _ q=>q,λ_ _ _=>rfl⟩
 have hs:Step X.B g w ⟨λi=>if i=f then n*sz else g.wm i,g.tb,g.fr⟩ w:=⟨l,.refl _ _,λi hf=>⟨rfl,if_neg (λe=>by subst e;rw[(hi.boxFr M).1]at hf;cases hf)⟩,λi F=>if_neg (by omega),rfl⟩;have ad:Inv X.B ⟨λi=>if i=f then n*sz else g.wm i,g.tb,g.fr⟩ ⟨wipe st.box f,st.tg,st.nx,st.ob⟩ w:=by
  refine⟨hi.base,?_,hi.tag,?_,hi.dist,hi.nodup,λi F=>?_,hi.names,hi.ex.step l (zV7 _) rfl rfl (λs o fp z i2 G=>⟨rfl,if_neg (λ(e:i2=f)=>by rw[e]at G;exact(hi.boxFr M).2 s o fp z G)⟩) (λj e _=>by show look (wipe st.box f) j=none;rw[xA];split<;>first|rfl|exact e) (λ_ _ e=>e)⟩
  .intro s cs' k' N;simp only[xA]at N;split at N
   .cases N
   .rename_i q;obtain⟨O,R,S,T,arr',ae,ag,A,U,r7,r8⟩:=hi.box s cs' k' N;exact⟨O,by show(if s=f then _ else g.wm s)=0;rw[if_neg (λe2=>q e2.symm)];exact R,S,T,arr',ae,ag,A,U,zq l _ _ r7,r8⟩
  .intro t ht s r n' C ah;obtain⟨O,R,S,T,A,U⟩:=hi.own t ht s r n' C ah;have q:s≠f:=λq=>by subst q;rw[M]at A;cases A
   exact⟨O,by show(if s=f then _ else g.wm s)=_;rw[if_neg q];exact R,S,T,by rw[xA];split<;>first|rfl|exact A,U⟩
  .show(if i=f then _ else g.wm i)=0;rw[if_neg (by omega)];exact hi.fresh i F
 have ai:RCs g.bare w es (us.take (n*sz)):=by
  have z:=(yW y p7 (n*sz)).1;rw[Y]at z;have h3:=zAW (zDR h1 z) h1
  rwa [hu]at h3
 have H:RC ⟨λi=>if i=f then n*sz else g.wm i,g.tb,g.fr⟩ w (.lst .no es) [.slice (some ⟨f,0,none⟩) n cap]:=by
  simp only[RC];refine .inr ⟨f,0,cap,us.take (n*sz),by rw[hn],by omega,trivial,zq l.bare _ _ ai,⟨sz,Z,λ_ _ _ q=>by cases q⟩,?_⟩;intro i u m;rw[zWb]at m;split at m
  .rename_i am;refine⟨?_,?_⟩
   .rw[zWP,cell_of_row w f i arr el (0,0) p5];rw[<-p8,zWb]at m;split at m
    .simpa using m
    .cases m
   .show 0+i<if f=f then n*sz else g.wm f
    rw[if_pos rfl];omega
  .cases m
 have I:Inv X.B ⟨λi=>if i=f then n*sz else g.wm i,g.tb,g.fr⟩ ⟨lay (wipe st.box f) v (cs.set j (.lst .no es),k),st.tg,st.nx,st.ob⟩ w:=by
  have:=ad.addBox (b:=v) (arr:=E) (el:=aa) (cs:=cs.set j (.lst .no es)) (us:=ab) q1 (by show(if v=f then _ else g.wm v)=0;rw[if_neg W];exact q2) q5 (by simp;omega)
   (λc hc=>by
    rcases zX8 hc with z|z
    .exact q4 c z
    .subst z;rfl)
   (zIA H hj (zq l _ _ q7)) (by simpa using q8) (λt ht d hd=>by
    obtain⟨r,n',C⟩:=d;obtain⟨O,R,S,T,A,U⟩:=hi.own t ht v r n' C hd;rw[J]at A;cases A) (hi.boxFr J).1 (hi.boxFr J).2
  rw[q6]at this;exact this
 refine wpIn_mono (h _ a w ⟨I,λi=>(D.env i).later l,D.size,D.df,D.gl.below (.refl _ _) l.wm⟩) ?_;rintro ex a' w' ⟨g',e',aj,k1,k2,k3⟩;exact⟨g',e',aj,hs.trans k1,k2,k3⟩
end
end Go.Al
end
namespace Go.Al
section
open Go.RowKit
theorem zGB(l r:List (Nat×OV×List Nat))(b:Nat):zQ (l++r) b=(zQ l b).or (zQ r b):=by
 induction l with
 |nil=>rfl
 |cons p l a=>
  obtain⟨k,c⟩:=p;show zQ ((k,c)::(l++r)) b=(zQ ((k,c)::l) b).or (zQ r b);rw[zw,zw];split
  .rfl
  .exact a
def rbox(st0 st:S):List (Nat×List V×Nat):=st.box.filter λp=>(look st0.box p.1).isNone
def rob(st0 st:S):List (Nat×OV×List Nat):=st.ob.filter λp=>(zQ st0.ob p.1).isNone
theorem zD0(p:Nat->Bool):∀(l:List (Nat×List V×Nat))(b:Nat),look (l.filter λx=>p x.1) b=if p b=true then look l b else none
 |[],b=>by simp[look]
 |(k,c)::r,b=>by
  rw[List.filter_cons];by_cases h:p k=true
  .rw[if_pos h];show(if k=b then some c else look (r.filter _) b)=_;rw[zD0 p r b];show(if k=b then some c else if p b=true then look r b else none)=if p b=true then(if k=b then some c else look r b)else none
   by_cases e:k=b
   .subst e;simp[h]
   .simp[e]
  .rw[if_neg h,zD0 p r b];show _=if p b=true then(if k=b then some c else look r b)else none
   by_cases e:k=b
   .subst e;simp[h]
   .simp[e]
theorem zBG(p:Nat->Bool):∀(l:List (Nat×OV×List Nat))(b:Nat),zQ (l.filter λx=>p x.1) b=if p b=true then zQ l b else none
 |[],b=>by simp[zQ]
 |(k,c)::r,b=>by
  rw[List.filter_cons];by_cases h:p k=true
  .rw[if_pos h];rw[zw,zw,zBG p r b];by_cases e:k=b
   .subst e;simp[h]
   .simp[e]
  .rw[if_neg h,zBG p r b,zw];by_cases e:k=b
   .subst e;simp[h]
   .simp[e]
theorem js(st0 st:S)(b:Nat):look (rbox st0 st) b=if(look st0.box b).isNone=true then look st.box b else none:=zD0 (λk=>(look st0.box k).isNone) st.box b
theorem kx(st0 st:S)(b:Nat):zQ (rob st0 st) b=if(zQ st0.ob b).isNone=true then zQ st.ob b else none:=zBG (λk=>(zQ st0.ob k).isNone) st.ob b
def rtg(st0 st:S):List Nat:=st.tg.filter λt=>!st0.tg.contains t
theorem rtg_iff{st0 st:S}{t:Nat}:t∈rtg st0 st↔t∈st.tg/\t∉st0.tg:=by simp[rtg]
def jj(st0 st a:S):S:=⟨a.box++rbox st0 st,a.tg++rtg st0 st,max a.nx st.nx,a.ob++rob st0 st⟩
def zDF(st0 st:S)(g:Gh)(b:Nat):Prop:=
 (∃c,look (rbox st0 st) b=some c)\/(∃t∈rtg st0 st,∃d,g.tb t=some (some (b,d)))\/(∃f o a,zQ (rob st0 st) f=some (o,a)/\b∈a)
structure PartS(st0 st:S):Prop where
 box:∀b c,look st0.box b=some c->look st.box b=some c
 tg:∀t∈st0.tg,t∈st.tg
 nodup:st0.tg.Nodup
 ob:∀b c,zQ st0.ob b=some c->zQ st.ob b=some c
 nx:st0.nx=st.nx
theorem zFe(g:Gh)(f:Fr)(w:World):Later g w ⟨g.wm,g.tb,f⟩ w:=⟨λ_=>zV7 _,λ_ _ e=>e,λ_ _ _=>rfl⟩
open Classical in
noncomputable def frR(st0 st:S)(g:Gh):Fr:=⟨λb=>g.fr b||decide (zDF st0 st g b),λt=>g.fr.t t||decide (t∈rtg st0 st)⟩
theorem zMd{st0 st:S}{g:Gh}{b:Nat}(h:zDF st0 st g b):frR st0 st g b=true:=by show(_||_)=true;simp[h]
theorem zRy{st0 st:S}{g:Gh}{b:Nat}(h:g.fr b=true):frR st0 st g b=true:=by show(_||_)=true;simp[h]
theorem zQy{st0 st:S}{g:Gh}{b:Nat}(h:frR st0 st g b=false):g.fr b=false/\¬zDF st0 st g b:=by
 replace h:(g.fr b||_)=false:=h;simpa using h
theorem zL9{st0 st:S}{g:Gh}{b:Nat}(h:frR st0 st g b=true):g.fr b=true\/zDF st0 st g b:=by
 replace h:(g.fr b||_)=true:=h;simpa using h
theorem zQV{st0 st:S}{g:Gh}{t:Nat}(h:t∈rtg st0 st):(frR st0 st g).t t=true:=by show(_||_)=true;simp[h]
theorem frT_fr{st0 st:S}{g:Gh}{t:Nat}(h:g.fr.t t=true):(frR st0 st g).t t=true:=by show(_||_)=true;simp[h]
theorem zSp{st0 st:S}{g:Gh}{t:Nat}(h:(frR st0 st g).t t=true):g.fr.t t=true\/t∈rtg st0 st:=by
 replace h:(g.fr.t t||_)=true:=h;simpa using h
section
variable{P:Program}{B:Nat}{g:Gh}{w:World}{st0 st:S}
theorem zCC(a:PartS st0 st){b:Nat}(h:look st.box b=none):look st0.box b=none:=by
 cases e:look st0.box b with
 |none=>rfl
 |some c=>rw[a.box b c e]at h;cases h
theorem zUQ(hi:Inv B g st w){b:Nat}(h:zDF st0 st g b):b<w.heap.size/\(PartS st0 st->look st0.box b=none):=by
 rcases h with⟨c,h⟩|⟨t,i,d,h⟩|⟨j,o,l,h,m⟩
 .rw[js]at h;split at h
  .rename_i n;obtain⟨cs,k⟩:=c;obtain⟨_,_,_,_,arr,el,us,a,_⟩:=hi.box b cs k h;exact⟨(zV8.1 a).1,λ_=>by simpa using n⟩
  .cases h
 .obtain⟨p,q,r⟩:=d;obtain⟨_,_,_,_,a,arr,el,s,_⟩:=hi.own t (rtg_iff.1 i).1 b p q r h;exact⟨(zV8.1 s).1,λf=>zCC f a⟩
 .rw[kx]at h;split at h
  .obtain⟨_,u,_,v,_⟩:=(hi.ex.ob j o l h).2.2 b m;exact⟨u,λf=>zCC f v⟩
  .cases h
theorem zTL(hi:Inv B g st w)(f:PartS st0 st){b:Nat}(h:zDF st0 st g b):∀t∈st0.tg,∀d,g.tb t=some (some (b,d))->False:=λt a d i=>by
 obtain⟨k,l,m⟩:=d;rcases h with⟨c,h⟩|⟨n,j,x,h⟩|⟨p,o,q,h,r⟩
 .rw[js]at h;split at h
  .obtain⟨_,_,_,_,s,_⟩:=hi.own t (f.tg t a) b k l m i;rw[s]at h;cases h
  .cases h
 .obtain⟨u,v⟩:=rtg_iff.1 j;have:=hi.dist t (f.tg t a) n u b _ _ i h;subst this;exact v a
 .rw[kx]at h;split at h
  .exact((hi.ex.ob p o q h).2.2 b r).2.2.2.2.1 t (f.tg t a) _ i
  .cases h
theorem zTq(hi:Inv B g st w)(a:PartS st0 st):Inv B ⟨g.wm,g.tb,frR st0 st g⟩ st0 w:=by
 have A:=zFe g (frR st0 st g) w;refine⟨hi.base,λb cs k h=>?_,λt h=>hi.tag t (a.tg t h),λt h b cap n sz i=>?_,λt h C h'=>hi.dist t (a.tg t h) C (a.tg C h'),a.nodup,hi.fresh,λt h=>hi.names t (by rw[<-a.nx];exact h),⟨λb i=>?_,λb o q h=>?_,λb o q r o' l j m p=>hi.ex.obd b o q r o' l j (a.ob _ _ m) (a.ob _ _ p),λt f=>?_⟩⟩
 .obtain⟨s,u,v,x,arr,el,us,y,z,H,I⟩:=hi.box b cs k (a.box b _ h);exact⟨s,u,v,x,arr,el,us,y,z,zq A _ _ H,I⟩
 .obtain⟨s,u,v,x,y,z⟩:=hi.own t (a.tg t h) b cap n sz i;exact⟨s,u,v,x,zCC a y,z⟩
 .rcases zL9 i with i|i
  .obtain⟨m,p,J⟩:=hi.ex.frz b i;exact⟨m,zCC a p,λt f=>J t (a.tg t f)⟩
  .have:=zUQ hi i;exact⟨this.1,this.2 a,zTL hi a i⟩
 .have h':=a.ob b _ h;obtain⟨K,L,M⟩:=hi.ex.ob b o q h';refine⟨K.local A (λ_ _=>rfl),L,λj D=>?_⟩;obtain⟨N,O,R,E,F,S⟩:=M j D;refine⟨N,O,R,zCC a E,λt f=>F t (a.tg t f),?_⟩;cases e:frR st0 st g j with
  |false=>rfl
  |true=>
   rcases zL9 e with e|e
   .rw[S]at e;cases e
   .exfalso;rcases e with⟨c,e⟩|⟨t,f,d,e⟩|⟨r,o',l,e,i⟩
    .rw[js,E]at e;simp at e
    .exact F t (rtg_iff.1 f).1 d e
    .rw[kx]at e;split at e
     .rename_i G;have:=hi.ex.obd b o q r o' l j h' e D i;subst this;rw[h]at G;cases G
     .cases e
 .rcases zSp f with f|f
  .obtain⟨m,p⟩:=hi.ex.ft t f;exact⟨λT=>m (a.tg t T),p⟩
  .obtain⟨m,p⟩:=rtg_iff.1 f;exact⟨p,hi.tag t m⟩
theorem zSX{g':Gh}{w':World}{r:S}(hi:Inv B g st w)(hp:PartS st0 st)(D:Step B ⟨g.wm,g.tb,frR st0 st g⟩ w g' w')(u:Inv B g' r w') :
 Step B g w ⟨g'.wm,g'.tb,g.fr⟩ w'/\Inv B ⟨g'.wm,g'.tb,g.fr⟩ (jj st0 st r) w'/\Later g' w' ⟨g'.wm,g'.tb,g.fr⟩ w':=by
 have L:Later g' w' ⟨g'.wm,g'.tb,g.fr⟩ w':=zFe g' g.fr w';have hl:Later g w ⟨g'.wm,g'.tb,g.fr⟩ w':=⟨D.later.wm,D.later.tb,D.later.cell⟩;have z:g'.fr=frR st0 st g:=D.fr;have l:∀{b},zDF st0 st g b->w'.heap[b]?=w.heap[b]?/\g'.wm b=g.wm b/\look r.box b=none/\(∀G o v,zQ r.ob G=some (o,v)->b∉v)/\∀t∈r.tg,∀d,g'.tb t=some (some (b,d))->False:=λ{b} h=>by
  have q:=zMd (st0:=st0) (st:=st) h;have m:=D.fz b q;have E:=u.ex.frz b (by rw[z];exact q);refine⟨m.1,m.2,E.2.1,λG o v h4 h5=>?_,E.2.2⟩;have:=((u.ex.ob G o v h4).2.2 b h5).2.2.2.2.2;rw[z,q]at this;cases this
 have K:∀{t},t∈rtg st0 st->t∈st.tg:=λh=>(rtg_iff.1 h).1;have rn:∀{t},t∈rtg st0 st->t∉r.tg:=λ{t} h=>(u.ex.ft t (by rw[z];exact zQV h)).1;have p:∀t∈rtg st0 st,g'.tb t=g.tb t:=λt f=>by
  obtain⟨d,H⟩:=hi.tag t (K f);rw[H];exact D.later.tb t d H
 have M:∀{b},look st.box b=none->look (rbox st0 st) b=none:=λ{b} h=>by rw[js];split<;>first|exact h|rfl
 have aa:∀b,look (jj st0 st r).box b=(look r.box b).or (look (rbox st0 st) b):=λb=>zHB _ _ _;have ab:∀b,zQ (jj st0 st r).ob b=(zQ r.ob b).or (zQ (rob st0 st) b):=λb=>zGB _ _ _;have A:∀{t},t∈(jj st0 st r).tg->t∈r.tg\/t∈rtg st0 st:=λh=>zWe.1 h;have i:∀{b},look r.box b=none->look (rbox st0 st) b=none->look (jj st0 st r).box b=none:=λ{b} q m=>by rw[aa,q,m];rfl
 have ac:∀{b c},look (rbox st0 st) b=some c->look st.box b=some c:=λ{b c} h=>by
  rw[js]at h;split at h<;>first|exact h|cases h
 have F:∀{b c},zQ (rob st0 st) b=some c->zQ st.ob b=some c:=λ{b c} h=>by
  rw[kx]at h;split at h<;>first|exact h|cases h
 have N:∀{b},(∀t∈r.tg,∀d,g'.tb t=some (some (b,d))->False)->(∀t∈rtg st0 st,∀d,g.tb t=some (some (b,d))->False)->∀t∈(jj st0 st r).tg,∀d,g'.tb t=some (some (b,d))->False:=λ{b} O R t f d H=>by
  rcases A f with f|f
  .exact O t f d H
  .exact R t f d ((p t f).symm.trans H)
 refine⟨⟨hl,D.below,λb C=>D.fz b (zRy C),D.wmB,rfl⟩,⟨u.base,λb cs k h=>?_,λt f=>?_,λt f b cap n sz C=>?_,λt f t' s b x y q m=>?_,?_,u.fresh,λt f=>u.names t (zWv (zZC _ _) f),λb C=>?_,λb o v h=>?_,λb o v G o' I j q m E h4=>?_,λt f=>?_⟩,L⟩
 .rw[aa]at h;cases e:look r.box b with
  |some c=>
   rw[e]at h;injection h with h
   subst h;obtain⟨T,U,V,W,arr,el,us,Y,Z,p7,p8⟩:=u.box b cs k e;exact⟨T,U,V,W,arr,el,us,Y,Z,zq L _ _ p7,p8⟩
  |none=>
   rw[e]at h;replace h:look (rbox st0 st) b=some (cs,k):=h;obtain⟨r1,r2,_⟩:=l (.inl ⟨_,h⟩);obtain⟨T,U,V,W,arr,el,us,Y,Z,p7,p8⟩:=hi.box b cs k (ac h);exact⟨T,r2.trans U,V,W,arr,el,us,r1.trans Y,Z,zq hl _ _ p7,p8⟩
 .rcases A f with f|f
  .exact u.tag t f
  .obtain⟨d,H⟩:=hi.tag t (K f);exact⟨d,(p t f).trans H⟩
 .rcases A f with f|f
  .obtain⟨T,U,V,W,Y,Z⟩:=u.own t f b cap n sz C;refine⟨T,U,V,W,i Y ?_,Z⟩;cases e:look (rbox st0 st) b with
   |none=>rfl
   |some c=>exact((l (.inl ⟨c,e⟩)).2.2.2.2 t f _ C).elim
  .have ad:g.tb t=some (some (b,cap,n,sz)):=(p t f).symm.trans C;obtain⟨r1,r2,r3,_⟩:=l (.inr (.inl ⟨t,f,_,ad⟩));obtain⟨T,U,V,W,Y,arr,el,Z,p7⟩:=hi.own t (K f) b cap n sz ad;exact⟨T,r2.trans U,V,W,i r3 (M Y),arr,el,r1.trans Z,p7⟩
 .rcases A f with f|f<;>rcases A s with s|s
  .exact u.dist t f t' s b x y q m
  .exact((l (.inr (.inl ⟨t',s,_,(p t' s).symm.trans m⟩))).2.2.2.2 t f _ q).elim
  .exact((l (.inr (.inl ⟨t,f,_,(p t f).symm.trans q⟩))).2.2.2.2 t' s _ m).elim
  .exact hi.dist t (K f) t' (K s) b x y ((p t f).symm.trans q) ((p t' s).symm.trans m)
 .refine zXI.2 ⟨u.nodup,hi.nodup.filter _,λa ha b C e=>?_⟩;subst e;exact rn C ha
 .replace C:g.fr b=true:=C;obtain⟨q,m,E⟩:=hi.ex.frz b C;obtain⟨O,R,k3⟩:=u.ex.frz b (by rw[z];exact zRy C);exact⟨O,i R (M m),N k3 λt f=>E t (K f)⟩
 .rw[ab]at h;cases e:zQ r.ob b with
  |some c=>
   rw[e]at h;injection h with h
   subst h;obtain⟨O,R,k3⟩:=u.ex.ob b o v e;refine⟨O.local L (λ_ _=>rfl),R,λj hj=>?_⟩;obtain⟨q1,q2,q3,q4,q5,q6⟩:=k3 j hj;rw[z]at q6;obtain⟨q7,q8⟩:=zQy q6;refine⟨q1,q2,q3,i q4 ?_,N q5 λt f d H=>q8 (.inr (.inl ⟨t,f,d,H⟩)),q7⟩;cases J:look (rbox st0 st) j with
   |none=>rfl
   |some c=>exact absurd (.inl ⟨c,J⟩) q8
  |none=>
   rw[e]at h;replace h:zQ (rob st0 st) b=some (o,v):=h;obtain⟨O,R,k3⟩:=hi.ex.ob b o v (F h);refine⟨O.local hl (λj hj=>(l (.inr (.inr ⟨b,o,v,h,hj⟩))).1),R,λj hj=>?_⟩;obtain⟨q1,q2,q3,q4,q5,q6⟩:=k3 j hj;obtain⟨r1,r2,r3,_,r5⟩:=l (.inr (.inr ⟨b,o,v,h,hj⟩));exact⟨q1,zWN q2 D.below.size,r2.trans q3,i r3 (M q4),N r5 λt f=>q5 t (K f),q6⟩
 .rw[ab]at q m;cases e1:zQ r.ob b with
  |some c=>
   rw[e1]at q;injection q with q
   subst q;cases J:zQ r.ob G with
   |some c=>
    rw[J]at m;injection m with m
    subst m;exact u.ex.obd b o v G o' I j e1 J E h4
   |none=>
    rw[J]at m;exact absurd E ((l (.inr (.inr ⟨G,o',I,m,h4⟩))).2.2.2.1 b o v e1)
  |none=>
   rw[e1]at q;cases J:zQ r.ob G with
   |some c=>
    rw[J]at m;injection m with m
    subst m;exact absurd h4 ((l (.inr (.inr ⟨b,o,v,q,E⟩))).2.2.2.1 G o' I J)
   |none=>
    rw[J]at m;exact hi.ex.obd b o v G o' I j (F q) (F m) E h4
 .replace f:g.fr.t t=true:=f;obtain⟨q,d,m⟩:=hi.ex.ft t f;have E:=(u.ex.ft t (by rw[z];exact frT_fr f)).1;exact⟨λhm=>(A hm).elim E λhm=>q (K hm),d,D.later.tb t d m⟩
structure ApartS(st0 st s0:S):Prop where
 box:∀b c,look (rbox st0 st) b=some c->look s0.box b=none
 ob:∀b c,zQ (rob st0 st) b=some c->zQ s0.ob b=none
 tg:∀t∈rtg st0 st,t∉s0.tg
theorem zTX{g':Gh}{w':World}{f:S}(hi:Inv B g st w)(k:Step B ⟨g.wm,g.tb,frR st0 st g⟩ w g' w')(i:Inv B g' f w'):ApartS st0 st f:=by
 have a:g'.fr=frR st0 st g:=k.fr;refine⟨λb c h=>?_,λb c h=>?_,λt l=>?_⟩
 .exact(i.ex.frz b (by rw[a];exact zMd (.inl ⟨c,h⟩))).2.1
 .cases e:zQ f.ob b with
  |none=>rfl
  |some x=>
   obtain⟨o,m⟩:=x;obtain⟨o',d⟩:=c;obtain⟨_,n,p⟩:=i.ex.ob b o m e;have j:=(p b n).2.2.2.2.2;have q:zQ st.ob b=some (o',d):=by rw[kx]at h;split at h<;>first|exact h|cases h
   rw[a,zMd (.inr (.inr ⟨b,o',d,h,(hi.ex.ob b o' d q).2.1⟩))]at j;cases j
 .exact(i.ex.ft t (by rw[a];exact zQV l)).1
theorem zDb{f:FuncId}{args:List V}{Q:Outc->S->Prop}(h:FnC P f args st0 Q)(i:PartS st0 st):FnC P f args st λoc s=>∃a,Q oc a/\s=jj st0 st a/\ApartS st0 st a:=by
 intro B g w vs hi b m;refine(h B ⟨g.wm,g.tb,frR st0 st g⟩ w vs (zTq hi i) b (m.later (zFe g _ w))).mono ?_;rintro e w' ⟨g',a,j,k,d⟩;obtain⟨n,o,p⟩:=zSX hi i j k;have l:=zTX hi j k;refine⟨_,jj st0 st a,n,o,?_⟩;cases e with
 |returned v=>
  obtain⟨r,q,t⟩:=d;exact⟨r,q.later p,a,t,rfl,l⟩
 |panicked c=>exact⟨a,d,rfl,l⟩
 |outgrown=>exact d.elim
theorem zDh(st0 st a:S)(b:Nat):look (jj st0 st a).box b=(look a.box b).or (look (rbox st0 st) b):=zHB _ _ _
theorem zFI(st0 st a:S)(b:Nat):zQ (jj st0 st a).ob b=(zQ a.ob b).or (zQ (rob st0 st) b):=zGB _ _ _
end
section
variable{P:Program}{X:Cx}{Q:Exit->Env->S->Prop}{e:Env}{st:S}
theorem yn{P:Program}{b:Frame}{a:Act}{k:List Item}{cs:List Frame}{w:World}{c:Code}:step P (lone (b.atR a (.code (.scope c)::k)) cs w)=.next (lone (b.atR a (.code c::.inScope c::k)) cs w):=
 step_lone_go (by simp[stepG,stepG.exec,Frame.atR])
theorem zCV{P:Program}{b:Frame}{a:Act}{k:List Item}{cs:List Frame}{w:World}{c:Code}:step P (lone (b.atR a (.inScope c::k)) cs w)=.next (lone (b.atR a k) cs w):=
 step_lone_go (by simp[stepG,stepG.exec,Frame.atR])
theorem zEq{P:Program}{F:Fence}{n:Nat}{Q:Exit->Act->World->Prop}{a:Act}{w:World}{c:Code}(h:c.wpIn F n P (Exit.noGoto Q) a w):(Code.scope c).wpIn F n P Q a w:=by
 intro b k cs p q r;have i:(lone (b.atR a (.code (.scope c)::k)) cs w).fenced P F:=fenced_calm q r rfl;obtain⟨e,m,o,j,d⟩:=h b (.inScope c::k) cs p q r;cases e with
 |normal=>exact⟨.normal,m,o,j,.head i yn (StepsIn.trans d (.one (fenced_calm q r rfl) zCV))⟩
 |exit f=>
  have u:exitTo f (.inScope c::k)=exitTo f k:=by simp[exitTo]
  exact⟨.exit f,m,o,j,λv s=>.head i yn (d.1 v (by rw[u];exact s)),
   λt s=>let⟨k₁,h1,h2⟩:=d.2 t (by rw[u];exact s);⟨k₁,h1,.head i yn h2⟩⟩
 |goto l=>exact j.elim
 |ret=>exact⟨_,m,o,j,.of_steps (.one i yn) d⟩
 |panic x=>exact⟨_,m,o,j,.of_steps (.one i yn) d⟩
 |outgrown=>exact⟨_,m,o,j,.of_steps (.one i yn) d⟩
def zU5(Q:Exit->Env->S->Prop):Exit->Env->S->Prop
 |.goto _,_,_=>False
 |x,e,st=>Q x e st
theorem zSE{c:Code}(h:awp P X c (zU5 Q) e st):awp P X (.scope c) Q e st:=by
 intro g a w j;refine zEq (wpIn_mono (h g a w j) ?_);rintro ex a' w' ⟨g',e',b,f,i,d⟩;cases ex with
 |goto l=>exact d.elim
 |normal=>exact⟨g',e',b,f,i,d⟩
 |exit id=>exact⟨g',e',b,f,i,d⟩
 |ret=>exact⟨g',e',b,f,i,d⟩
 |panic c=>exact⟨g',e',b,f,i,d⟩
 |outgrown=>exact⟨g',e',b,f,i,d⟩
theorem zR3{l:Nat}(h:Q .normal e st):awp P X (.label l) Q e st:=λg a w b=>wpIn_label ⟨g,e,st,.refl _ _ _,b,h⟩
end
end
end Go.Al
