/-
  Part 2 of what the last text needs: library, runs, contracts, plain laws. No condition of its own.
-/
import Derived.Test.YtfjiiknfopmcjaaGreatDoorZB1
import Derived.WalkKit
import Derived.Laws.BytesString
import Derived.Laws.MakeOwn
import Derived.Laws.Cells
import Derived.WalkSpells
import Derived.WalkLawsBesides
import Derived.Deep.LoopGhost
import Derived.Deep.AppendSrc
import Derived.Sort.LoopGhostIn
import Derived.OrdersIn
import Derived.RangeFuncRecord
import Derived.Laws.StructEq
import Derived.Laws.Pointers
import Derived.Still
set_option linter.unusedVariables false
set_option linter.unusedSimpArgs false
set_option linter.unusedSectionVars false
section
namespace Go.Al
inductive Tag where
 | nil
 | no
 | own (t:Nat) (nb:Bool) (sz:Nat)
inductive V where
 | any
 | at (v:Value)
 | agg (fs:List V)
 | tup (vs:List V)
 | lst (tg:Tag) (es:List V)
 | rptr (x:V)
 | ifx
 | clo (fn:Fn) (caps:List V)
instance:Inhabited V:=⟨.any⟩
def one:Value->Bool
 | .agg _ | .tuple _=>false
 | _=>true
def V.isOne:V->Bool
 | .any | .agg _ | .tup _=>false
 | _=>true
def V.isAgg:V->Bool
 | .agg _=>true
 | _=>false
def V.flat:V->List V
 | .agg fs=>fs
 | x=>[x]
mutual
def V.size:V->Nat
 | .agg fs=>jS fs
 | _=>1
def jS:List V->Nat
 | []=>0
 | x::xs=>x.size+jS xs
end
structure Fr where
 b:Nat->Bool
 t:Nat->Bool
instance:CoeFun Fr (fun _=>Nat->Bool):=⟨Fr.b⟩
def Fr.no:Fr:=⟨fun _=>false,fun _=>false⟩
structure Gh where
 wm:Nat->Nat
 tb:Nat->Option (Option (Nat×Nat×Nat×Nat))
 fr:Fr
def Gh.bare (g:Gh):Gh:=⟨g.wm,fun _=>none,g.fr⟩
def pack:V->List Value->Value
 | .agg _,us=>.agg us.toArray
 | _,us=>us.headD undef
def At (g:Gh) (w:World) (b o:Nat) (us:List Value):Prop:=
 ∀ (k:Nat) u,us[k]? = some u->w.cell? ⟨b,o+k,none⟩=some u/\o+k < g.wm b
def zIh (g:Gh) (nes:Nat) (b o cap:Nat):Tag->Prop
 | .nil=>False
 | .no=>True
 | .own t nb sz=>g.tb t=some (some (b,cap,nes,sz))/\o=0/\(nb=true->nes≠0)
def zEn (g:Gh):Tag->Prop
 | .nil=>True
 | .no=>False
 | .own t nb _=>g.tb t=some none/\nb=true
def Unif (tg:Tag) (es:List V):Prop:=
 ∃ sz,(∀ x ∈ es,x.size=sz)/\(∀ t nb s,tg = .own t nb s->s=sz\/es=[])
mutual
/-- The cells of an abstract value. -/
def RC (g:Gh) (w:World):V->List Value->Prop
 | .any,_=>False
 | .at v,us=>us=[v]/\one v=true
 | .agg fs,us=>RCs g w fs us
 | .tup _,_=>False
 | .lst tg es,us=>
  (es=[]/\us=[.slice none 0 0]/\zEn g tg) \/
  (∃ b o cap ds,us=[.slice (some ⟨b,o,none⟩) es.length cap]/\es.length<=cap/\zIh g es.length b o cap tg/\RCs g.bare w es ds/\Unif tg es/\At g w b o ds)
 | .rptr x,us=>∃ b o ds,us=[.pointer (some ⟨b,o,none⟩)]/\RC g.bare w x ds/\At g w b o ds
 | .ifx,us=>∃ t p,us=[.iface t p]
 | .clo fn caps,us=>∃ ds,RCs g.bare w caps ds/\us=[.func fn #[] ds.toArray]
def RCs (g:Gh) (w:World):List V->List Value->Prop
 | [],us=>us=[]
 | x::xs,us=>∃ u1 u2,us=u1++u2/\RC g w x u1/\RCs g w xs u2
end
mutual
theorem qN (g:Gh) (w:World):∀ x us,RC g w x us->us.length=x.size
 | .any,us,h=>by simp [RC] at h
 | .at v,us,h=>by simp [RC] at h; simp [h.1,V.size]
 | .agg fs,us,h=>by simp only [RC] at h; simp only [V.size]; exact zy g w fs us h
 | .tup _,us,h=>by simp [RC] at h
 | .lst tg es,us,h=>by
  simp only [RC] at h;rcases h with ⟨_,rfl,_⟩ | ⟨b,o,cap,ds,rfl,_⟩ <;> simp [V.size]
 | .rptr x,us,h=>by simp only [RC] at h; obtain ⟨b,o,ds,rfl,_⟩:=h; simp [V.size]
 | .ifx,us,h=>by simp only [RC] at h; obtain ⟨t,p,rfl⟩:=h; simp [V.size]
 | .clo fn caps,us,h=>by simp only [RC] at h; obtain ⟨ds,_,rfl⟩:=h; simp [V.size]
theorem zy (g:Gh) (w:World):∀ xs us,RCs g w xs us->us.length=jS xs
 | [],us,h=>by simp only [RCs] at h; simp [h,jS]
 | x::xs,us,h=>by
  simp only [RCs] at h;obtain ⟨u1,u2,rfl,h1,h2⟩:=h;have e1:=qN g w x u1 h1;have e2:=zy g w xs u2 h2;simp [jS,e1,e2]
end
structure Later (g:Gh) (w:World) (g':Gh) (w':World):Prop where
 wm:∀ b,g.wm b<=g'.wm b
 tb:∀ t x,g.tb t=some x->g'.tb t=some x
 cell:∀ b o,o < g.wm b->w'.cell? ⟨b,o,none⟩=w.cell? ⟨b,o,none⟩
theorem Later.refl (g:Gh) (w:World):Later g w g w:=⟨fun _=>Nat.le_refl _,fun _ _ h=>h,fun _ _ _=>rfl⟩
theorem Later.trans {g g1 g2:Gh} {w w1 w2:World} (h:Later g w g1 w1) (h':Later g1 w1 g2 w2):Later g w g2 w2:=
 ⟨fun b=>Nat.le_trans (h.wm b) (h'.wm b),fun t x e=>h'.tb t x (h.tb t x e),
  fun b o ho=>(h'.cell b o (Nat.lt_of_lt_of_le ho (h.wm b))).trans (h.cell b o ho)⟩
theorem Later.bare {g g':Gh} {w w':World} (l:Later g w g' w'):Later g.bare w g'.bare w':=⟨l.wm,(fun _ _ h=>(by cases h)),l.cell⟩
theorem At.later {g g':Gh} {w w':World} (l:Later g w g' w') {b o:Nat} {us:List Value} (h:At g w b o us):At g' w' b o us:=
 fun k u hk=>let ⟨h1,h2⟩:=h k u hk; ⟨(l.cell b _ h2).trans h1,Nat.lt_of_lt_of_le h2 (l.wm b)⟩
mutual
theorem zEi {g g':Gh} {w w':World} (l:Later g w g' w'):∀ x us,RC g w x us->RC g' w' x us
 | .any,us,h=>by simp [RC] at h
 | .at v,us,h=>by simpa [RC] using h
 | .agg fs,us,h=>by simp only [RC] at h ⊢; exact zg l fs us h
 | .tup _,us,h=>by simp [RC] at h
 | .lst tg es,us,h=>by
  simp only [RC] at h ⊢;rcases h with ⟨he,hu,hn⟩ | ⟨b,o,cap,ds,hu,hc,ht,hr,hf,ha⟩
  . refine .inl ⟨he,hu,?_⟩;cases tg with
    | nil=>exact hn
    | no=>exact hn
    | own t nb s=>exact ⟨l.tb _ _ hn.1,hn.2⟩
  . refine .inr ⟨b,o,cap,ds,hu,hc,?_,zg l.bare es ds hr,hf,ha.later l⟩;cases tg with
    | nil=>exact ht
    | no=>exact ht
    | own t nb s=>exact ⟨l.tb _ _ ht.1,ht.2⟩
 | .rptr x,us,h=>by
  simp only [RC] at h ⊢;obtain ⟨b,o,ds,hu,hr,ha⟩:=h;exact ⟨b,o,ds,hu,zEi l.bare x ds hr,ha.later l⟩
 | .ifx,us,h=>by simp only [RC] at h ⊢; exact h
 | .clo fn caps,us,h=>by
  simp only [RC] at h ⊢;obtain ⟨ds,hr,hu⟩:=h;exact ⟨ds,zg l.bare caps ds hr,hu⟩
theorem zg {g g':Gh} {w w':World} (l:Later g w g' w'):∀ xs us,RCs g w xs us->RCs g' w' xs us
 | [],us,h=>by simpa [RCs] using h
 | x::xs,us,h=>by
  simp only [RCs] at h ⊢;obtain ⟨u1,u2,rfl,h1,h2⟩:=h;exact ⟨u1,u2,rfl,zEi l x u1 h1,zg l xs u2 h2⟩
end
mutual
/-- What holds without names holds with them. -/
theorem zEL (g:Gh) (w:World):∀ x us,RC g.bare w x us->RC g w x us
 | .any,us,h=>by simp [RC] at h
 | .at v,us,h=>by simpa [RC] using h
 | .agg fs,us,h=>by simp only [RC] at h ⊢; exact kv g w fs us h
 | .tup _,us,h=>by simp [RC] at h
 | .lst tg es,us,h=>by
  simp only [RC] at h ⊢;rcases h with ⟨he,hu,hn⟩ | ⟨b,o,cap,ds,hu,hc,ht,hr,hf,ha⟩
  . refine .inl ⟨he,hu,?_⟩;cases tg with
    | nil=>exact hn
    | no=>exact hn
    | own t nb s=>cases hn.1
  . refine .inr ⟨b,o,cap,ds,hu,hc,?_,hr,hf,ha⟩;cases tg with
    | nil=>exact ht
    | no=>exact ht
    | own t nb s=>cases ht.1
 | .rptr x,us,h=>by simp only [RC] at h ⊢; exact h
 | .ifx,us,h=>by simp only [RC] at h ⊢; exact h
 | .clo fn caps,us,h=>by simp only [RC] at h ⊢; exact h
theorem kv (g:Gh) (w:World):∀ xs us,RCs g.bare w xs us->RCs g w xs us
 | [],us,h=>by simpa [RCs] using h
 | x::xs,us,h=>by
  simp only [RCs] at h ⊢;obtain ⟨u1,u2,rfl,h1,h2⟩:=h;exact ⟨u1,u2,rfl,zEL g w x u1 h1,kv g w xs u2 h2⟩
end
def RV1 (g:Gh) (w:World) (x:V) (u:Value):Prop:=∃ us,RC g w x us/\u=pack x us
inductive RVs (g:Gh) (w:World):List V->List Value->Prop where
 | nil:RVs g w [] []
 | cons {x u xs us} (h:RV1 g w x u) (hs:RVs g w xs us):RVs g w (x::xs) (u::us)
def RV (g:Gh) (w:World):V->Value->Prop
 | .any,_=>True
 | .tup vs,u=>∃ us,RVs g w vs us/\u = .tuple us.toArray
 | x,u=>RV1 g w x u
theorem RV1.later {g g':Gh} {w w':World} (l:Later g w g' w') {x:V} {u:Value} (h:RV1 g w x u):RV1 g' w' x u:=
 let ⟨us,h1,h2⟩:=h; ⟨us,zEi l x us h1,h2⟩
theorem RVs.later {g g':Gh} {w w':World} (l:Later g w g' w') {xs:List V} {us:List Value} (h:RVs g w xs us):RVs g' w' xs us:=by
 induction h with
 | nil=>exact .nil
 | cons h _ ih=>exact .cons (h.later l) ih
theorem RV.later {g g':Gh} {w w':World} (l:Later g w g' w') {x:V} {u:Value} (h:RV g w x u):RV g' w' x u:=by
 cases x with
 | any=>trivial
 | tup vs=>obtain ⟨us,h1,h2⟩:=h; exact ⟨us,h1.later l,h2⟩
 | _=>exact RV1.later l h
theorem RV.of_RV1 {g:Gh} {w:World} {x:V} {u:Value} (h:RV1 g w x u):RV g w x u:=by
 cases x with
 | any=>trivial
 | tup vs=>obtain ⟨us,h1,_⟩:=h; simp [RC] at h1
 | _=>exact h
theorem RVs.get {g:Gh} {w:World} {xs:List V} {us:List Value} (h:RVs g w xs us):∀ (i:Nat) x,xs[i]? = some x->∃ u,us[i]? = some u/\RV1 g w x u:=by
 induction h with
 | nil=>intro i x hx; simp at hx
 | cons h _ ih=>
  intro i x hx;cases i with
  | zero=>simp at hx; subst hx; exact ⟨_,by simp,h⟩
  | succ i=>simpa using ih i x (by simpa using hx)
theorem RVs.length {g:Gh} {w:World} {xs:List V} {us:List Value} (h:RVs g w xs us):us.length=xs.length:=by
 induction h with
 | nil=>rfl
 | cons _ _ ih=>simp [ih]
open Go.RowKit
theorem Hide.mk {p:Prop} (h:p):Hid p:=h
abbrev Env:=List (Nat×V)
def Env.get:Env->Nat->V
 | [],_=>.any
 | (k,x)::r,j=>if k=j then x else Env.get r j
def Env.put:Env->Nat->V->Env
 | [],j,y=>[(j,y)]
 | (k,x)::r,j,y=>if k=j then (k,y)::r else (k,x)::Env.put r j y
def Env.putO (e:Env):Option Nat->V->Env
 | some d,x=>e.put d x
 | none,_=>e
theorem Env.get_put (e:Env) (d:Nat) (x:V) (j:Nat):(e.put d x).get j=if d=j then x else e.get j:=by
 induction e with
 | nil=>simp [Env.put,Env.get]
 | cons p r ih=>
  obtain ⟨k,y⟩:=p;unfold Env.put;by_cases h:k=d
  . subst h;rw [if_pos rfl];unfold Env.get;by_cases hj:k=j
    . rw [if_pos hj,if_pos hj]
    . rw [if_neg hj,if_neg hj,if_neg hj]
  . rw [if_neg h];unfold Env.get;by_cases hj:k=j
    . rw [if_pos hj,if_pos hj,if_neg (fun e=>h (hj.trans e.symm))]
    . rw [if_neg hj,if_neg hj];exact ih
def zz (es:List V):Tag:=if es.isEmpty then .nil else .no
def cV1:Value->V
 | .slice none 0 0=>.lst .nil []
 | .agg _=>.any
 | .tuple _=>.any
 | v=>.at v
def cV:Value->V
 | .agg cs=>if cs.toList.all one then .agg (cs.toList.map cV1) else .any
 | v=>cV1 v
theorem zL7 (g:Gh) (w:World) (v:Value) (h:one v=true):RC g w (cV1 v) [v]:=by
 unfold cV1;split
 . simp [RC,zEn]
 . simp [one] at h
 . simp [one] at h
 . simp [RC,h]
theorem zEE (g:Gh) (w:World):∀ (vs:List Value),vs.all one=true->RCs g w (vs.map cV1) vs
 | [],_=>by simp [RCs]
 | v::r,h=>by
  simp only [List.all_cons,Bool.and_eq_true] at h;simp only [List.map_cons,RCs];exact ⟨[v],r,rfl,zL7 g w v h.1,zEE g w r h.2⟩
theorem RV_cV (g:Gh) (w:World) (v:Value):RV g w (cV v) v:=by
 unfold cV;split
 . rename_i cs;split
   . rename_i h;exact RV.of_RV1 ⟨cs.toList,by simpa [RC] using zEE g w cs.toList h,by simp [pack]⟩
   . trivial
 . cases h:one v with
   | false=>
    cases v <;> simp [one] at h <;> simp [cV1,RV]
   | true=>
    refine RV.of_RV1 ⟨[v],zL7 g w v h,?_⟩;unfold cV1;split <;> simp_all [pack,one]
def zF6:List (Nat×List Value)->Nat->Option (List Value)
 | [],_=>none
 | (k,us)::r,n=>if k=n then some us else zF6 r n
theorem zJ2:∀ {l:List (Nat×List Value)} {n:Nat} {us:List Value},zF6 l n=some us->(n,us) ∈ l
 | (k,u)::r,n,us,h=>by
  unfold zF6 at h;split at h
  . rename_i e; injection h with h; subst e; subst h; exact List.mem_cons_self ..
  . exact List.mem_cons_of_mem _ (zJ2 h)
def zIc (n:Nat):V:=match zF6 globA n with | some us=>.rptr (.agg (us.map cV1)) | none=>.at (.pointer (some ⟨n,0,none⟩))
set_option maxRecDepth 100000 in
theorem zQ9:∀ p ∈ globA,p.2.all one=true:=by decide
def Env.ev (e:Env):Operand->V
 | .tmp t=>e.get t
 | .const v=>cV v
 | .global g=>zIc g
 | .func f=>.clo (.func f) []
def look:List (Nat×List V×Nat)->Nat->Option (List V×Nat)
 | [],_=>none
 | (k,c)::r,b=>if k=b then some c else look r b
def wipe:List (Nat×List V×Nat)->Nat->List (Nat×List V×Nat)
 | [],_=>[]
 | (k,c)::r,b=>if k=b then wipe r b else (k,c)::wipe r b
def lay:List (Nat×List V×Nat)->Nat->List V×Nat->List (Nat×List V×Nat)
 | [],b,x=>[(b,x)]
 | (k,c)::r,b,x=>if k=b then (k,x)::r else (k,c)::lay r b x
theorem zO (l:List (Nat×List V×Nat)) (b:Nat) (x:List V×Nat) (j:Nat):look (lay l b x) j=if b=j then some x else look l j:=by
 induction l with
 | nil=>simp [lay,look]
 | cons p r ih=>
  obtain ⟨k,y⟩:=p;unfold lay;by_cases h:k=b
  . subst h;rw [if_pos rfl];unfold look;by_cases hj:k=j
    . rw [if_pos hj,if_pos hj]
    . rw [if_neg hj,if_neg hj,if_neg hj]
  . rw [if_neg h];unfold look;by_cases hj:k=j
    . rw [if_pos hj,if_pos hj,if_neg (fun e=>h (hj.trans e.symm))]
    . rw [if_neg hj,if_neg hj];exact ih
theorem yr (l:List (Nat×List V×Nat)) (b j:Nat):look (wipe l b) j=if b=j then none else look l j:=by
 induction l with
 | nil=>simp [wipe,look]
 | cons p r ih=>
  obtain ⟨k,y⟩:=p;unfold wipe;by_cases h:k=b
  . subst h;rw [if_pos rfl,ih];by_cases hj:k=j
    . rw [if_pos hj,if_pos hj]
    . rw [if_neg hj,if_neg hj];show look r j=if k=j then some y else look r j
      rw [if_neg hj]
  . rw [if_neg h];show (if k=j then some y else look (wipe r b) j)=if b=j then none else (if k=j then some y else look r j)
    rw [ih];by_cases hj:k=j
    . rw [if_pos hj,if_neg (fun e=>h (hj.trans e.symm)),if_pos hj]
    . rw [if_neg hj,if_neg hj]
end Go.Al
end
namespace Go.Al
section
open Go.RowKit
abbrev MC:=List (ByteArray×V)
def MapR (g:Gh) (w:World):MC->List MapEntry->Prop
 | [],es=>es=[]
 | (k,v)::r,es=>∃ e es',es=e::es'/\e.key = .string k/\RV1 g.bare w v e.val/\MapR g w r es'
theorem MapR.later {g g':Gh} {w w':World} (l:Later g w g' w'):∀ {o:MC} {es:List MapEntry},MapR g w o es->MapR g' w' o es
 | [],_,h=>h
 | (k,v)::r,es,h=>by
  obtain ⟨e,es',h1,h2,h3,h4⟩:=h;exact ⟨e,es',h1,h2,h3.later l.bare,MapR.later l h4⟩
inductive OV where
 | mp (c:MC)
 | sc (xs:List MC) (cap:Nat)
 | lv (xs:List (MC×MC))
 | l1 (x:MC×MC)
def MMem (g:Gh) (w:World) (b:Nat) (c:MC):Prop:=∃ arr clock,w.heap[b]? = some (.map arr clock)/\MapR g w c arr.toList
def MMems (g:Gh) (w:World):List Nat->List MC->Prop
 | [],xs=>xs=[]
 | b::bs,xs=>∃ c cs,xs=c::cs/\MMem g w b c/\MMems g w bs cs
def LMem (g:Gh) (w:World):List (MC×MC)->Option Nat->List Nat->Prop
 | [],o,fp=>o=none/\fp=[]
 | x::r,o,fp=>∃ b bp bt nx el fp',o=some b/\fp=b::bp::bt::fp'/\w.heap[b]? = some (.cells #[.map (some bp),.map (some bt),.pointer (nx.map fun j=>⟨j,0,none⟩)] el (0,0))/\MMem g w bp x.1/\MMem g w bt x.2/\LMem g w r nx fp'
def OMem (g:Gh) (w:World) (b:Nat):OV->List Nat->Prop
 | .lv xs,fp=>xs≠[]/\fp.Nodup/\LMem g w xs (some b) fp
 | .l1 x,fp=>∃ (bp bt:Nat) (nx:Option Nat) (el:TypeId),fp=[b,bp,bt]/\fp.Nodup/\w.heap[b]? = some (.cells #[.map (some bp),.map (some bt),.pointer (nx.map fun j=>⟨j,0,none⟩)] el (0,0))/\MMem g w bp x.1/\MMem g w bt x.2
 | .mp c,fp=>fp=[b]/\MMem g w b c
 | .sc xs cap,fp=>∃ bs arr el,fp=b::bs/\fp.Nodup/\w.heap[b]? = some (.cells arr el (0,0))/\arr.size=cap/\bs.length<=cap/\arr.toList.take bs.length=bs.map (fun j=>Value.map (some j))/\MMems g w bs xs
theorem MMem.local {g g':Gh} {w w':World} {b:Nat} {c:MC} (h:MMem g w b c) (l:Later g w g' w') (hh:w'.heap[b]? = w.heap[b]?):MMem g' w' b c:=by
 obtain ⟨arr,clock,h1,h2⟩:=h;exact ⟨arr,clock,hh.trans h1,h2.later l⟩
theorem MMems.local {g g':Gh} {w w':World} (l:Later g w g' w'):∀ {bs:List Nat} {xs:List MC},MMems g w bs xs->(∀ j ∈ bs,w'.heap[j]? = w.heap[j]?)->MMems g' w' bs xs
 | [],_,h,_=>h
 | b::bs,xs,h,hh=>by
  obtain ⟨c,cs,h1,h2,h3⟩:=h;exact ⟨c,cs,h1,h2.local l (hh b (by simp)),MMems.local l h3 fun j hj=>hh j (by simp [hj])⟩
theorem LMem.local {g g':Gh} {w w':World} (l:Later g w g' w'):∀ {xs:List (MC×MC)} {o:Option Nat} {fp:List Nat},LMem g w xs o fp->(∀ j ∈ fp,w'.heap[j]? = w.heap[j]?)->LMem g' w' xs o fp
 | [],_,_,h,_=>h
 | x::r,o,fp,h,hh=>by
  obtain ⟨b,bp,bt,nx,el,fp',h1,rfl,h3,h4,h5,h6⟩:=h;exact ⟨b,bp,bt,nx,el,fp',h1,rfl,(hh b (by simp)).trans h3,h4.local l (hh bp (by simp)),h5.local l (hh bt (by simp)),LMem.local l h6 fun j hj=>hh j (by simp [hj])⟩
theorem OMem.local {g g':Gh} {w w':World} {b:Nat} {o:OV} {fp:List Nat} (h:OMem g w b o fp) (l:Later g w g' w') (hh:∀ j ∈ fp,w'.heap[j]? = w.heap[j]?):OMem g' w' b o fp:=by
 cases o with
 | mp c=>
  obtain ⟨rfl,h⟩:=h;exact ⟨rfl,h.local l (hh b (by simp))⟩
 | sc xs cap=>
  obtain ⟨bs,arr,el,rfl,h1,h2,h3,h4,h5,h6⟩:=h;exact ⟨bs,arr,el,rfl,h1,(hh b (by simp)).trans h2,h3,h4,h5,h6.local l fun j hj=>hh j (by simp [hj])⟩
 | lv xs=>
  obtain ⟨h1,h2,h3⟩:=h;exact ⟨h1,h2,h3.local l hh⟩
 | l1 x=>
  obtain ⟨bp,bt,nx,el,rfl,h2,h3,h4,h5⟩:=h;exact ⟨bp,bt,nx,el,rfl,h2,(hh b (by simp)).trans h3,h4.local l (hh bp (by simp)),h5.local l (hh bt (by simp))⟩
theorem ba_eq {s k:ByteArray} (h:(s == k)=true):s=k:=by
 cases s with | mk a=>cases k with | mk b=>
 have h2:(a == b)=true:=h;rw [eq_of_beq h2]
theorem zT5 (s:ByteArray):(s == s)=true:=by
 cases s with | mk a=>
 show (a == a)=true;exact beq_self_eq_true a
def mget:MC->ByteArray->Option V
 | [],_=>none
 | (k,v)::r,s=>if (s == k)=true then some v else mget r s
def mput:MC->ByteArray->V->MC
 | [],s,v=>[(s,v)]
 | (k,u)::r,s,v=>if (s == k)=true then (s,v)::r else (k,u)::mput r s v
theorem zDR {g:Gh} {w:World} (s:ByteArray):∀ {o:MC} {es:List MapEntry} (i:Nat),MapR g w o es ->
 (mget o s=none/\Instr.findNow .string (.string s) es i=some none) \/
 (∃ v u j,mget o s=some v/\RV1 g.bare w v u/\Instr.findNow .string (.string s) es i=some (some (i+j,u))/\j < es.length/\((es[j]?).map (·.key))=some (.string s) /\
  ∀ y uy,RV1 g.bare w y uy->MapR g w (mput o s y) (es.modify j fun e=>{ e with key:=.string s,val:=uy }))
 | [],es,i,h=>by
  have:es=[]:=h;subst this;exact .inl ⟨rfl,rfl⟩
 | (k,v)::r,es,i,h=>by
  obtain ⟨e,es',rfl,h2,h3,h4⟩:=h;cases hk:s == k with
  | true=>
   refine .inr ⟨v,e.val,0,by simp [mget,hk],h3,by simp [Instr.findNow,h2,Instr.sameNow,hk],by simp,?_,fun y uy hy=>?_⟩
   . have:k=s:=(ba_eq hk).symm;simp [h2,this]
   . have e1:mput ((k,v)::r) s y=(s,y)::r:=by simp [mput,hk]
     rw [e1];exact ⟨_,es',rfl,rfl,hy,h4⟩
  | false=>
   have e2:Instr.findNow .string (.string s) (e::es') i=Instr.findNow .string (.string s) es' (i+1):=by simp [Instr.findNow,h2,Instr.sameNow,hk]
   have e3:mget ((k,v)::r) s=mget r s:=by simp [mget,hk]
   rcases zDR s (i+1) h4 with ⟨h5,h6⟩ | ⟨v',u,j,h5,h6,h7,h8,h9,h10⟩
   . exact .inl ⟨e3.trans h5,e2.trans h6⟩
   . refine .inr ⟨v',u,j+1,e3.trans h5,h6,by rw [e2,h7]; congr 3; omega,by simp; omega,by simpa using h9,fun y uy hy=>?_⟩;have e4:mput ((k,v)::r) s y=(k,v)::mput r s y:=by simp [mput,hk]
     rw [e4];exact ⟨e,_,rfl,h2,h3,h10 y uy hy⟩
theorem zMB {g:Gh} {w:World} (s:ByteArray) {y:V} {uy:Value} (hy:RV1 g.bare w y uy) (born:Nat):∀ {o:MC} {es:List MapEntry},MapR g w o es->mget o s=none->MapR g w (mput o s y) (es++[{ key:=.string s,val:=uy,born }])
 | [],es,h,_=>by
  have:es=[]:=h;subst this;exact ⟨_,[],rfl,rfl,hy,rfl⟩
 | (k,v)::r,es,h,hn=>by
  obtain ⟨e,es',rfl,h2,h3,h4⟩:=h;cases hk:s == k with
  | true=>simp [mget,hk] at hn
  | false=>
   have e4:mput ((k,v)::r) s y=(k,v)::mput r s y:=by simp [mput,hk]
   rw [e4];exact ⟨e,_,rfl,h2,h3,zMB s hy born h4 (by simpa [mget,hk] using hn)⟩
end
end Go.Al
section
namespace Go.Al
open Go.RowKit
structure S where
 box:List (Nat×List V×Nat)
 tg:List Nat
 nx:Nat
 ob:List (Nat×OV×List Nat)
def zN:List (Nat×OV×List Nat)->Nat->Option (OV×List Nat)
 | [],_=>none
 | (k,c)::r,b=>if k=b then some c else zN r b
structure InvX (B:Nat) (g:Gh) (st:S) (w:World):Prop where
 frz:∀ b,g.fr b=true->b < w.heap.size/\look st.box b=none/\∀ t ∈ st.tg,∀ d,g.tb t=some (some (b,d))->False
 ob:∀ b o fp,zN st.ob b=some (o,fp)->OMem g w b o fp/\b ∈ fp/\∀ j ∈ fp,B<=j/\j < w.heap.size/\g.wm j=0/\look st.box j=none/\(∀ t ∈ st.tg,∀ d,g.tb t=some (some (j,d))->False)/\g.fr j=false
 obd:∀ b o fp b' o' fp' j,zN st.ob b=some (o,fp)->zN st.ob b' = some (o',fp')->j ∈ fp->j ∈ fp'->b=b'
 ft:∀ t,g.fr.t t=true->t ∉ st.tg/\∃ d,g.tb t=some d
structure Inv (B:Nat) (g:Gh) (st:S) (w:World):Prop where
 base:B<=w.heap.size
 box:∀ b cs k,look st.box b=some (cs,k)->B<=b/\g.wm b=0/\cs.length<=k/\(∀ c ∈ cs,c.isOne=true) /\
  ∃ arr el us,w.heap[b]? = some (.cells arr el (0,0))/\arr.size=k/\RCs g w cs us/\arr.toList.take cs.length=us
 tag:∀ t ∈ st.tg,∃ d,g.tb t=some d
 own:∀ t ∈ st.tg,∀ b cap n sz,g.tb t=some (some (b,cap,n,sz))->B<=b/\g.wm b=n * sz/\n<=cap/\cap<=maxLen/\look st.box b=none /\
  ∃ arr el,w.heap[b]? = some (.cells arr el (0,0))/\arr.size=cap * sz
 dist:∀ t ∈ st.tg,∀ t' ∈ st.tg,∀ b x y,g.tb t=some (some (b,x))->g.tb t' = some (some (b,y))->t=t'
 nodup:st.tg.Nodup
 fresh:∀ b,w.heap.size<=b->g.wm b=0
 names:∀ t,st.nx<=t->g.tb t=none
 ex:InvX B g st w
structure Step (B:Nat) (g:Gh) (w:World) (g':Gh) (w':World):Prop where
 later:Later g w g' w'
 below:Below B w w'
 fz:∀ b,g.fr b=true->w'.heap[b]? = w.heap[b]?/\g'.wm b=g.wm b
 wmB:∀ b,b < B->g'.wm b=g.wm b
 fr:g'.fr=g.fr
theorem Step.refl (B:Nat) (g:Gh) (w:World):Step B g w g w:=⟨.refl _ _,.refl _ _,fun _ _=>⟨rfl,rfl⟩,fun _ _=>rfl,rfl⟩
theorem Step.trans {B:Nat} {g g1 g2:Gh} {w w1 w2:World} (h:Step B g w g1 w1) (h':Step B g1 w1 g2 w2):Step B g w g2 w2:=
 ⟨h.later.trans h'.later,h.below.trans h'.below,fun b hb=>⟨(h'.fz b (by rw [h.fr]; exact hb)).1.trans (h.fz b hb).1,(h'.fz b (by rw [h.fr]; exact hb)).2.trans (h.fz b hb).2⟩,fun b hb=>(h'.wmB b hb).trans (h.wmB b hb),h'.fr.trans h.fr⟩
structure NF where
 n:Nat
 fx:List (Nat×Value)
def NF.ok (N:NF) (d:Nat):Bool:=decide (d < N.n) && N.fx.all fun p=>!Nat.beq p.1 d
theorem NF.ok_lt {N:NF} {d:Nat} (h:N.ok d=true):d < N.n:=by
 unfold NF.ok at h;rw [Bool.and_eq_true] at h;exact of_decide_eq_true h.1
theorem NF.ok_fx {N:NF} {d:Nat} (h:N.ok d=true):∀ p ∈ N.fx,p.1≠d:=fun p hp e=>by
 unfold NF.ok at h;rw [Bool.and_eq_true,List.all_eq_true] at h;have:=h.2 p hp;rw [e] at this;simp at this
structure Cx where
 B:Nat
 N:NF
 ro:Option Nat
 df:List Deferred
structure GlobOk (B:Nat) (wm:Nat->Nat) (w:World):Prop where
 one:∀ p ∈ zO3,p.1 < B/\∃ arr el m,w.heap[p.1]? = some (.cells arr el m)/\p.2 arr.toList
 all:∀ p ∈ globA,p.1 < B/\(∃ arr el m,w.heap[p.1]? = some (.cells arr el m)/\arr.toList=p.2)/\p.2.length<=wm p.1
theorem GlobOk.below {B:Nat} {wm wm':Nat->Nat} {w w':World} (l:Below B w w') (hw:∀ b,wm b<=wm' b) (h:GlobOk B wm w):GlobOk B wm' w':=⟨fun p hp=>
 let ⟨h0,arr,el,m,h1,h2⟩:=h.one p hp; ⟨h0,arr,el,m,(l.block _ h0).trans h1,h2⟩,fun p hp=>
 let ⟨h0,⟨arr,el,m,h1,h2⟩,h3⟩:=h.all p hp; ⟨h0,⟨arr,el,m,(l.block _ h0).trans h1,h2⟩,Nat.le_trans h3 (hw _)⟩⟩
theorem GlobOk.mono {B B':Nat} {wm:Nat->Nat} {w:World} (l:B<=B') (h:GlobOk B wm w):GlobOk B' wm w:=⟨fun p hp=>
 let ⟨h0,h1⟩:=h.one p hp; ⟨Nat.lt_of_lt_of_le h0 l,h1⟩,fun p hp=>let ⟨h0,h1⟩:=h.all p hp; ⟨Nat.lt_of_lt_of_le h0 l,h1⟩⟩
structure Rel (X:Cx) (g:Gh) (e:Env) (st:S) (a:Act) (w:World):Prop where
 inv:Inv X.B g st w
 env:∀ k,RV g w (e.get k) (a.tmps.getD k undef)
 size:a.tmps.size=X.N.n/\∀ p ∈ X.N.fx,a.tmps.getD p.1 undef=p.2
 df:a.defers=X.df
 gl:GlobOk X.B g.wm w
theorem Rel.ev {X:Cx} {g:Gh} {e:Env} {st:S} {a:Act} {w:World} (h:Rel X g e st a w) (x:Operand):RV g w (e.ev x) (a.eval x):=by
 cases x with
 | tmp t=>exact h.env t
 | const v=>exact RV_cV g w v
 | global n=>
  show RV g w (zIc n) (.pointer (some ⟨n,0,none⟩));unfold zIc;split
  . rename_i us hf;have hm:=zJ2 hf;obtain ⟨_,⟨arr,el,m,h1,h2⟩,h3⟩:=h.gl.all _ hm;refine RV.of_RV1 ⟨[.pointer (some ⟨n,0,none⟩)],?_,rfl⟩;simp only [RC];refine ⟨n,0,us,rfl,zEE g.bare w us (zQ9 _ hm),fun k u hk=>⟨?_,?_⟩⟩
    . rw [cell_of_row w n _ arr el m h1,Nat.zero_add,<- Array.getElem?_toList,h2]; exact hk
    . have:=(List.getElem?_eq_some_iff.1 hk).1;replace h3:us.length<=g.wm n:=h3;omega
  . exact RV.of_RV1 (x:=.at (.pointer (some ⟨n,0,none⟩))) ⟨[.pointer (some ⟨n,0,none⟩)],by simp [RC,one],rfl⟩
 | func f=>exact RV.of_RV1 (x:=.clo (.func f) []) ⟨[.func (.func f) #[] #[]],by simp [RC,RCs],rfl⟩
theorem Rel.put {X:Cx} {g g':Gh} {e:Env} {st st':S} {a:Act} {w w':World} (h:Rel X g e st a w) (l:Later g w g' w') (lb:Below X.B w w') (i:Inv X.B g' st' w')
 {x:V} {u:Value} (hx:RV g' w' x u) (d:Option Nat) (hd:∀ t,d=some t->X.N.ok t=true):Rel X g' (e.putO d x) st' (a.put d u) w':=by
 refine ⟨i,fun k=>?_,?_,?_,h.gl.below lb l.wm⟩
 . cases d with
   | none=>exact (h.env k).later l
   | some t=>
    have ht:=NF.ok_lt (hd t rfl);simp only [Env.putO,Act.put,Env.get_put];by_cases hk:t=k
    . subst hk;have hs:t < a.tmps.size:=by rw [h.size.1]; exact ht
      simpa [hs] using hx
    . have:=(h.env k).later l;simpa [hk,Array.getElem?_setIfInBounds_ne hk] using this
 . cases d with
   | none=>exact h.size
   | some t=>
    refine ⟨by simp [Act.put,h.size.1],fun p hp=>?_⟩;have hne:=NF.ok_fx (hd t rfl) p hp;have:=h.size.2 p hp;simpa [Act.put,Array.getElem?_setIfInBounds_ne (Ne.symm hne)] using this
 . cases d <;> simp [Act.put,h.df]
def Env.sub (e e':Env):Prop:=∀ k,e'.get k=e.get k\/e'.get k = .any
theorem Env.sub_refl (e:Env):e.sub e:=fun _=>.inl rfl
theorem Env.sub_of (e:Env):∀ (l:List (Nat×V)),(∀ p ∈ l,e.get p.1=p.2)->e.sub l
 | [],_,k=>.inr rfl
 | (j,x)::r,h,k=>by
  simp only [Env.get];by_cases hk:j=k
  . subst hk; exact .inl (by rw [if_pos rfl]; exact (h (j,x) (by simp)).symm)
  . rw [if_neg hk];exact Env.sub_of e r (fun p hp=>h p (by simp [hp])) k
structure S.sub (st st':S):Prop where
 box:∀ b c,look st'.box b=some c->look st.box b=some c
 tg:∀ t ∈ st'.tg,t ∈ st.tg
 nodup:st.tg.Nodup->st'.tg.Nodup
 out:∀ b,look st.box b=none->look st'.box b=none
 nx:st.nx<=st'.nx
 ob:∀ b x,zN st'.ob b=some x->zN st.ob b=some x
theorem S.sub_refl (st:S):st.sub st:=⟨fun _ _ h=>h,fun _ h=>h,fun h=>h,fun _ h=>h,Nat.le_refl _,fun _ _ h=>h⟩
theorem InvX.weaken {B:Nat} {g:Gh} {st st':S} {w:World} (h:InvX B g st w) (s:st.sub st'):InvX B g st' w:=
 ⟨fun b hb=>let ⟨h1,h2,h3⟩:=h.frz b hb; ⟨h1,s.out b h2,fun t ht=>h3 t (s.tg t ht)⟩,
  fun b o fp hl=>let ⟨h1,h2,h3⟩:=h.ob b o fp (s.ob b _ hl); ⟨h1,h2,fun j hj=>let ⟨k1,k2,k3,k4,k5,k6⟩:=h3 j hj; ⟨k1,k2,k3,s.out j k4,fun t ht=>k5 t (s.tg t ht),k6⟩⟩,
  fun b o fp b' o' fp' j h1 h2=>h.obd b o fp b' o' fp' j (s.ob b _ h1) (s.ob b' _ h2),fun t ht=>let ⟨h1,h2⟩:=h.ft t ht; ⟨fun hm=>h1 (s.tg t hm),h2⟩⟩
theorem InvX.step {B:Nat} {g g':Gh} {st st':S} {w w':World} (h:InvX B g st w) (l:Later g w g' w') (hs:w.heap.size<=w'.heap.size) (hfr:g'.fr=g.fr) (hob:st'.ob=st.ob)
 (ho:∀ b o fp,zN st.ob b=some (o,fp)->∀ j ∈ fp,w'.heap[j]? = w.heap[j]?/\g'.wm j=g.wm j)
 (hbx:∀ j,look st.box j=none->(g.fr j=true\/∃ b o fp,zN st.ob b=some (o,fp)/\j ∈ fp)->look st'.box j=none)
 (htb:∀ j,(g.fr j=true\/∃ b o fp,zN st.ob b=some (o,fp)/\j ∈ fp)->(∀ t ∈ st.tg,∀ d,g.tb t=some (some (j,d))->False)->∀ t ∈ st'.tg,∀ d,g'.tb t=some (some (j,d))->False)
 (htg:∀ t ∈ st'.tg,t ∈ st.tg\/g.tb t=none:=by exact fun t ht=>.inl ht):InvX B g' st' w':=by
 refine ⟨fun b hb=>?_,fun b o fp hl=>?_,?_,fun t ht=>?_⟩
 . rw [hfr] at hb;obtain ⟨h1,h2,h3⟩:=h.frz b hb;exact ⟨Nat.lt_of_lt_of_le h1 hs,hbx b h2 (.inl hb),htb b (.inl hb) h3⟩
 . rw [hob] at hl;obtain ⟨h1,h2,h3⟩:=h.ob b o fp hl;refine ⟨h1.local l (fun j hj=>(ho b o fp hl j hj).1),h2,fun j hj=>?_⟩;obtain ⟨k1,k2,k3,k4,k5,k6⟩:=h3 j hj;exact ⟨k1,Nat.lt_of_lt_of_le k2 hs,(ho b o fp hl j hj).2.trans k3,hbx j k4 (.inr ⟨b,o,fp,hl,hj⟩),htb j (.inr ⟨b,o,fp,hl,hj⟩) k5,by rw [hfr]; exact k6⟩
 . rw [hob]; exact h.obd
 . rw [hfr] at ht;obtain ⟨h1,d,h2⟩:=h.ft t ht;refine ⟨fun hm=>?_,d,l.tb t d h2⟩;rcases htg t hm with h3 | h3
   . exact h1 h3
   . rw [h3] at h2; cases h2
theorem Inv.weaken {B:Nat} {g:Gh} {st st':S} {w:World} (h:Inv B g st w) (s:st.sub st'):Inv B g st' w:=
 ⟨h.base,fun b cs k hl=>h.box b cs k (s.box _ _ hl),fun t ht=>h.tag t (s.tg t ht),
  fun t ht b cap n sz hb=>let ⟨h1,h2,h3,h4,h5,h6⟩:=h.own t (s.tg t ht) b cap n sz hb; ⟨h1,h2,h3,h4,s.out b h5,h6⟩,
  fun t ht t' ht'=>h.dist t (s.tg t ht) t' (s.tg t' ht'),s.nodup h.nodup,h.fresh,fun t ht=>h.names t (Nat.le_trans s.nx ht),h.ex.weaken s⟩
theorem Rel.weaken {X:Cx} {g:Gh} {e e':Env} {st st':S} {a:Act} {w:World} (h:Rel X g e st a w) (he:e.sub e') (hs:st.sub st'):Rel X g e' st' a w:=
 ⟨h.inv.weaken hs,fun k=>by
  rcases he k with hk | hk
  . rw [hk]; exact h.env k
  . rw [hk]; trivial,h.size,h.df,h.gl⟩
def fen (ro:Option Nat):Fence:={ fn:=fun _=>True,depth:=none,alive:=false,round:=ro }
def awp (P:Program) (X:Cx) (c:Code) (Q:Exit->Env->S->Prop) (e:Env) (st:S):Prop:=
 ∀ g a w,Rel X g e st a w->c.wpIn (fen X.ro) 0 P (fun ex a' w'=>∃ g' e' st',Step X.B g w g' w'/\Rel X g' e' st' a' w'/\Q ex e' st') a w
def zDP (next:Env->S->Prop) (Q:Exit->Env->S->Prop):Exit->Env->S->Prop
 | .normal,e,st=>next e st
 | x,e,st=>Q x e st
def zCv (id:Nat) (Q:Exit->Env->S->Prop):Exit->Env->S->Prop
 | .exit id',e,st=>if id' = id then Q .normal e st else Q (.exit id') e st
 | x,e,st=>Q x e st
section rules
variable {P:Program} {X:Cx} {Q:Exit->Env->S->Prop} {e:Env} {st:S}
theorem zSP {c:Code} {Q':Exit->Env->S->Prop} (h:awp P X c Q e st) (hq:∀ x e st,Q x e st->Q' x e st):awp P X c Q' e st:=
 fun g a w hr=>wpIn_mono (h g a w hr) fun _ _ _ ⟨g',e',st',h1,h2,h3⟩=>⟨g',e',st',h1,h2,hq _ _ _ h3⟩
theorem zB8 {c:Code} {e':Env} {st':S} (he:e.sub e') (hs:st.sub st') (h:awp P X c Q e' st'):awp P X c Q e st:=
 fun g a w hr=>h g a w (hr.weaken he hs)
theorem zW (h:Q .normal e st):awp P X .skip Q e st:=
 fun g a w hr=>wpIn_skip ⟨g,e,st,.refl _ _ _,hr,h⟩
theorem ya {id:Nat} (h:Q (.exit id) e st):awp P X (.exit id) Q e st:=
 fun g a w hr=>wpIn_exit ⟨g,e,st,.refl _ _ _,hr,h⟩
theorem zd (h:Q .ret e st):awp P X .ret Q e st:=
 fun g a w hr=>wpIn_ret ⟨g,e,st,.refl _ _ _,hr,h⟩
theorem zc {x y:Code} (h:awp P X x (zDP (awp P X y Q) Q) e st):awp P X (.seq x y) Q e st:=by
 intro g a w hr;refine wpIn_seq (wpIn_mono (h g a w hr) ?_);rintro ex a' w' ⟨g',e',st',h1,h2,h3⟩;cases ex with
 | normal=>exact wpIn_mono (h3 g' a' w' h2) fun _ _ _ ⟨g2,e2,st2,k1,k2,k3⟩=>⟨g2,e2,st2,h1.trans k1,k2,k3⟩
 | exit id=>exact ⟨g',e',st',h1,h2,h3⟩
 | goto l=>exact ⟨g',e',st',h1,h2,h3⟩
 | ret=>exact ⟨g',e',st',h1,h2,h3⟩
 | panic c=>exact ⟨g',e',st',h1,h2,h3⟩
 | outgrown=>exact ⟨g',e',st',h1,h2,h3⟩
theorem z7 {id:Nat} {c:Code} (h:awp P X c (zCv id Q) e st):awp P X (.block id c) Q e st:=by
 intro g a w hr;refine wpIn_block (wpIn_mono (h g a w hr) ?_);rintro ex a' w' ⟨g',e',st',h1,h2,h3⟩;cases ex with
 | exit id'=>
  simp only [Exit.inBlock];simp only [zCv] at h3;split
  . rename_i hid; rw [if_pos hid] at h3; exact ⟨g',e',st',h1,h2,h3⟩
  . rename_i hid; rw [if_neg hid] at h3; exact ⟨g',e',st',h1,h2,h3⟩
 | normal=>exact ⟨g',e',st',h1,h2,h3⟩
 | goto l=>exact ⟨g',e',st',h1,h2,h3⟩
 | ret=>exact ⟨g',e',st',h1,h2,h3⟩
 | panic c=>exact ⟨g',e',st',h1,h2,h3⟩
 | outgrown=>exact ⟨g',e',st',h1,h2,h3⟩
theorem x9 {c:Operand} {x y:Code} {t:Bool} (hc:e.ev c = .at (.bool t)) (ht:t=true->awp P X x Q e st) (hf:t=false->awp P X y Q e st) :
 awp P X (.cond c x y) Q e st:=by
 intro g a w hr;have h1:=hr.ev c;rw [hc] at h1;have h2:a.eval c = .bool t:=by
  obtain ⟨us,hu,hr2⟩:=h1;simp only [RC] at hu;rw [hr2,hu.1];rfl
 cases t with
 | true=>exact wpIn_cond_true h2 (ht rfl g a w hr)
 | false=>exact wpIn_cond_false h2 (hf rfl g a w hr)
theorem zSZ {c:Code} {α:Type} (I:α->Prop) (μ:α->Nat) (E:α->Env) (T:α->S) (x₀:α) (hI:I x₀) (he:e.sub (E x₀)) (hs:st.sub (T x₀))
 (round:∀ x,I x->awp P X c (zDP (fun e' st'=>∃ x',I x'/\μ x' < μ x/\e'.sub (E x')/\st'.sub (T x')) Q) (E x) (T x)):awp P X (.loop c) Q e st:=by
 intro g a w hr;refine wpIn_loop_ghost (fun n a' w'=>∃ x g',μ x=n/\I x/\Step X.B g w g' w'/\Rel X g' (E x) (T x) a' w') (μ x₀) ⟨x₀,g,rfl,hI,.refl _ _ _,hr.weaken he hs⟩ ?_;rintro n a1 w1 ⟨x,g1,rfl,p1,p2,p3⟩;refine wpIn_mono (round x p1 g1 a1 w1 p3) ?_;rintro ex a2 w2 ⟨g2,e2,st2,q1,q2,q3⟩;cases ex with
 | normal=>
  obtain ⟨x2,r1,r2,r3,r4⟩:=q3;exact ⟨μ x2,r2,x2,g2,rfl,r1,p2.trans q1,q2.weaken r3 r4⟩
 | exit id=>exact ⟨g2,e2,st2,p2.trans q1,q2,q3⟩
 | goto l=>exact ⟨g2,e2,st2,p2.trans q1,q2,q3⟩
 | ret=>exact ⟨g2,e2,st2,p2.trans q1,q2,q3⟩
 | panic c=>exact ⟨g2,e2,st2,p2.trans q1,q2,q3⟩
 | outgrown=>exact ⟨g2,e2,st2,p2.trans q1,q2,q3⟩
end rules
open Go.RowKit
theorem zGV {w:World} {b o:Nat} {u:Value} (h:w.cell? ⟨b,o,none⟩=some u):b < w.heap.size:=World.block_lt_of_cell? w _ h
theorem Inv.grow {B:Nat} {g g':Gh} {st:S} {w w':World} (h:Inv B g st w) (l:Later g w g' w') (hs:w.heap.size<=w'.heap.size) (hb:∀ b,b < w.heap.size->w'.heap[b]? = w.heap[b]?)
 (hwm:∀ b,b < w.heap.size->g'.wm b=g.wm b) (hf:∀ b,w'.heap.size<=b->g'.wm b=0) (htb:g'.tb=g.tb) (hfr:g'.fr=g.fr):Inv B g' st w':=by
 have lt:∀ {b:Nat} {o:Obj},w.heap[b]? = some o->b < w.heap.size:=fun hh=>(Array.getElem?_eq_some_iff.1 hh).1;refine ⟨Nat.le_trans h.base hs,?_,?_,?_,?_,h.nodup,hf,?_,h.ex.step l hs hfr rfl (fun b o fp hl j hj=>⟨hb j ((h.ex.ob b o fp hl).2.2 j hj).2.1,hwm j ((h.ex.ob b o fp hl).2.2 j hj).2.1⟩) (fun j e _=>e) (fun j _ e=>by rw [htb]; exact e)⟩
 . intro b cs k hl;obtain ⟨h1,h2,h3,h4,arr,el,us,h5,h6,h7,h8⟩:=h.box b cs k hl;exact ⟨h1,by rw [hwm b (lt h5)]; exact h2,h3,h4,arr,el,us,by rw [hb b (lt h5)]; exact h5,h6,zg l _ _ h7,h8⟩
 . rw [htb]; exact h.tag
 . rw [htb];intro t ht b cap n sz hbt;obtain ⟨h1,h2,h3,h4,h5,arr,el,h6,h7⟩:=h.own t ht b cap n sz hbt;exact ⟨h1,by rw [hwm b (lt h6)]; exact h2,h3,h4,h5,arr,el,by rw [hb b (lt h6)]; exact h6,h7⟩
 . rw [htb]; exact h.dist
 . rw [htb]; exact h.names
theorem zE2 {g g':Gh} {w w':World} (hf:∀ b,w.heap.size<=b->g.wm b=0) (hb:∀ b,b < w.heap.size->w'.heap[b]? = w.heap[b]?) (hwm:∀ b,g.wm b<=g'.wm b) (htb:∀ t x,g.tb t=some x->g'.tb t=some x):Later g w g' w':=
 ⟨hwm,htb,fun b o ho=>World.cell?_of_block (hb b (by
  rcases Nat.lt_or_ge b w.heap.size with h | h
  . exact h
  . rw [hf b h] at ho; omega))⟩
structure Out (B:Nat) (g:Gh) (w:World) (g':Gh) (st':S) (w':World):Prop where
 step:Step B g w g' w'
 inv:Inv B g' st' w'
theorem Out.refl {B:Nat} {g:Gh} {st:S} {w:World} (h:Inv B g st w):Out B g w g st w:=⟨.refl _ _ _,h⟩
theorem zBQ {B:Nat} {g:Gh} {st:S} {w:World} (h:Inv B g st w) (n:Nat):Out B g w g st { w with drawn:=n }:=
 ⟨⟨⟨fun _=>Nat.le_refl _,fun _ _ e=>e,fun _ _ _=>rfl⟩,⟨rfl,rfl,rfl,Nat.le_refl _,fun _ _=>rfl⟩,fun _ _=>⟨rfl,rfl⟩,fun _ _=>rfl,rfl⟩,
  h.grow ⟨fun _=>Nat.le_refl _,fun _ _ e=>e,fun _ _ _=>rfl⟩ (Nat.le_refl _) (fun _ _=>rfl) (fun _ _=>rfl) h.fresh rfl rfl⟩
theorem zDN (w:World) (o:Obj) (b:Nat) (h:b < w.heap.size):(w.alloc o).heap[b]? = w.heap[b]?:=Below.heap_alloc w o b h
theorem kR (w:World) (o:Obj):(w.alloc o).heap[w.heap.size]? = some o:=heap_alloc_new w o
theorem zAn {B:Nat} {g:Gh} {st:S} {w:World} (h:Inv B g st w) (cs:Array Value) (el:TypeId) (m:Nat) :
 Out B g w ⟨fun b=>if b=w.heap.size then m else g.wm b,g.tb,g.fr⟩ st (w.alloc (.cells cs el)):=by
 have hsz:(w.alloc (.cells cs el)).heap.size=w.heap.size+1:=by simp
 have hl:Later g w ⟨fun b=>if b=w.heap.size then m else g.wm b,g.tb,g.fr⟩ (w.alloc (.cells cs el)):=
  zE2 h.fresh (fun b hb=>zDN w _ b hb) (fun b=>by
   show g.wm b<=if b=w.heap.size then m else g.wm b
   split
   . rename_i e; rw [h.fresh b (by omega)]; omega
   . exact Nat.le_refl _) (fun _ _ e=>e)
 refine ⟨⟨hl,(Below.refl _ _).alloc h.base _,fun b hb=>⟨zDN w _ b (h.ex.frz b hb).1,if_neg (Nat.ne_of_lt (h.ex.frz b hb).1)⟩,fun b hb=>?_,rfl⟩,h.grow hl (by omega) (fun b hb=>zDN w _ b hb) (fun b hb=>?_) (fun b hb=>?_) rfl rfl⟩
 . have:=h.base;show (if b=w.heap.size then m else g.wm b)=_;rw [if_neg (by omega)]
 . show (if b=w.heap.size then m else g.wm b)=_;rw [if_neg (by omega)]
 . show (if b=w.heap.size then m else g.wm b)=0;rw [hsz] at hb;rw [if_neg (by omega)]; exact h.fresh b (by omega)
theorem zMC {g:Gh} {w:World} (cs:Array Value) (el:TypeId) (us:List Value) (m:Nat) (hm:us.length<=m) (hp:cs.toList.take us.length=us) :
 At ⟨fun b=>if b=w.heap.size then m else g.wm b,g.tb,g.fr⟩ (w.alloc (.cells cs el)) w.heap.size 0 us:=by
 intro k u hu;have hk:k < us.length:=by
  rcases Nat.lt_or_ge k us.length with h | h
  . exact h
  . rw [List.getElem?_eq_none h] at hu; cases hu
 refine ⟨?_,by show 0+k < (if w.heap.size=w.heap.size then m else g.wm _); rw [if_pos rfl]; omega⟩;rw [Nat.zero_add,cell_of_row _ w.heap.size k cs el (0,0) (kR w _)];have h2:=congrArg (fun l=>l[k]?) hp;simp only [List.getElem?_take,if_pos hk] at h2;rw [<- hu,<- h2];simp
theorem Inv.addBox {B:Nat} {g:Gh} {st:S} {w:World} (h:Inv B g st w) {b:Nat} {arr:Array Value} {el:TypeId} {cs:List V} {us:List Value} (hB:B<=b) (hw:g.wm b=0)
 (hh:w.heap[b]? = some (.cells arr el (0,0))) (hc:cs.length<=arr.size) (h1:∀ c ∈ cs,c.isOne=true) (hr:RCs g w cs us) (hu:arr.toList.take cs.length=us)
 (hno:∀ t ∈ st.tg,∀ d,g.tb t=some (some (b,d))->False) (hfr:g.fr b=false) (hnob:∀ b' o fp,zN st.ob b' = some (o,fp)->b ∉ fp):Inv B g ⟨lay st.box b (cs,arr.size),st.tg,st.nx,st.ob⟩ w:=by
 refine ⟨h.base,?_,h.tag,?_,h.dist,h.nodup,h.fresh,h.names,h.ex.step (.refl _ _) (Nat.le_refl _) rfl rfl (fun _ _ _ _ _ _=>⟨rfl,rfl⟩) (fun j e hj=>?_) (fun _ _ e=>e)⟩
 . intro b' cs' k' hl;simp only [zO] at hl;by_cases e:b=b'
   . subst e;rw [if_pos rfl] at hl;injection hl with hl
     injection hl with e1 e2
     subst e1; subst e2;exact ⟨hB,hw,hc,h1,arr,el,us,hh,rfl,hr,hu⟩
   . rw [if_neg e] at hl;exact h.box b' cs' k' hl
 . intro t ht b' cap n sz hb;obtain ⟨p1,p2,p3,p4,p5,p6⟩:=h.own t ht b' cap n sz hb;refine ⟨p1,p2,p3,p4,?_,p6⟩;simp only [zO];rw [if_neg]
   . exact p5
   . intro e; subst e; exact hno t ht _ hb
 . show look (lay st.box b (cs,arr.size)) j=none;rw [zO,if_neg (fun e1=>?_)]
   . exact e
   . subst e1;rcases hj with hj | ⟨b',o,fp,h1,h2⟩
     . rw [hfr] at hj; cases hj
     . exact hnob b' o fp h1 h2
theorem zEX {B:Nat} {g:Gh} {st:S} {w:World} (h:Inv B g st w) {b:Nat} {cs:List V} {k:Nat} (hl:look st.box b=some (cs,k)) {arr:Array Value} {el:TypeId}
 (hh:w.heap[b]? = some (.cells arr el (0,0))) (arr':Array Value) (hs:arr'.size=arr.size) (cs':List V) (us':List Value) (hc:cs'.length<=arr.size) (h1:∀ c ∈ cs',c.isOne=true)
 (hr:RCs g w cs' us') (hu:arr'.toList.take cs'.length=us'):Out B g w g ⟨lay st.box b (cs',k),st.tg,st.nx,st.ob⟩ (w.setRow b arr'):=by
 obtain ⟨p1,p2,p3,p4,arr0,el0,us0,p5,p6,p7,p8⟩:=h.box b cs k hl;have he:arr0=arr/\el0=el:=by rw [hh] at p5; injection p5 with p5; injection p5 with e1 e2; exact ⟨e1.symm,e2.symm⟩
 obtain ⟨rfl,rfl⟩:=he;have hoth:∀ j,j≠b->(w.setRow b arr').heap[j]? = w.heap[j]?:=fun j hj=>setRow_other w b j _ hj;have hsame:=setRow_heap w b arr0 arr' el0 (0,0) hh;have hcell:∀ j o,o < g.wm j->(w.setRow b arr').cell? ⟨j,o,none⟩=w.cell? ⟨j,o,none⟩:=fun j o ho=>by
  refine World.cell?_of_block (hoth j ?_);intro e; subst e; rw [p2] at ho; omega
 have hla:Later g w g (w.setRow b arr'):=⟨fun _=>Nat.le_refl _,fun _ _ e=>e,hcell⟩;have hnb:∀ j,look st.box j=none->j≠b:=fun j e e1=>by subst e1; rw [hl] at e; cases e
 refine ⟨⟨hla,⟨rfl,rfl,rfl,by simp,fun j hj=>hoth j (by omega)⟩,fun j hj=>⟨hoth j (hnb j (h.ex.frz j hj).2.1),rfl⟩,fun _ _=>rfl,rfl⟩,?_⟩
 . refine ⟨by simpa using h.base,?_,h.tag,?_,h.dist,h.nodup,fun j hj=>h.fresh j (by simpa using hj),h.names,h.ex.step hla (by simp) rfl rfl (fun b' o fp hl2 j hj=>⟨hoth j (hnb j ((h.ex.ob b' o fp hl2).2.2 j hj).2.2.2.1),rfl⟩) (fun j e _=>?_) (fun _ _ e=>e)⟩
   . intro b' cs2 k2 hl2;replace hl2:look (lay st.box b (cs',k)) b' = some (cs2,k2):=hl2;rw [zO] at hl2;by_cases e:b=b'
     . subst e;rw [if_pos rfl] at hl2;injection hl2 with hl2
       injection hl2 with e1 e2
       subst e1; subst e2;exact ⟨p1,p2,by omega,h1,arr',el0,us',hsame,by omega,zg hla _ _ hr,hu⟩
     . rw [if_neg e] at hl2;obtain ⟨q1,q2,q3,q4,arr2,el2,us2,q5,q6,q7,q8⟩:=h.box b' cs2 k2 hl2;exact ⟨q1,q2,q3,q4,arr2,el2,us2,by rw [hoth b' (Ne.symm e)]; exact q5,q6,zg hla _ _ q7,q8⟩
   . intro t ht b' cap n sz hb;obtain ⟨q1,q2,q3,q4,q5,arr2,el2,q6,q7⟩:=h.own t ht b' cap n sz hb;have hne:b≠b':=fun e=>by subst e; rw [hl] at q5; cases q5
     refine ⟨q1,q2,q3,q4,?_,arr2,el2,by rw [hoth b' (Ne.symm hne)]; exact q6,q7⟩;simp only [zO];rw [if_neg hne]; exact q5
   . show look (lay st.box b (cs',k)) j=none;rw [zO,if_neg (Ne.symm (hnb j e))]; exact e
theorem Inv.freshName {B:Nat} {g:Gh} {st:S} {w:World} (h:Inv B g st w):g.tb st.nx=none/\st.nx ∉ st.tg:=by
 refine ⟨h.names _ (Nat.le_refl _),fun hm=>?_⟩;obtain ⟨d,hd⟩:=h.tag _ hm;rw [h.names _ (Nat.le_refl _)] at hd; cases hd
theorem Inv.addTag {B:Nat} {g:Gh} {st:S} {w:World} (h:Inv B g st w) {t:Nat} (htn:t=st.nx) (d:Option (Nat×Nat×Nat×Nat))
 (hd:∀ b cap n sz,d=some (b,cap,n,sz)->B<=b/\g.wm b=n * sz/\n<=cap/\cap<=maxLen/\look st.box b=none/\(∃ arr el,w.heap[b]? = some (.cells arr el (0,0))/\arr.size=cap * sz) /\
  (∀ t ∈ st.tg,∀ x,g.tb t=some (some (b,x))->False)/\g.fr b=false/\∀ b' o fp,zN st.ob b' = some (o,fp)->b ∉ fp) :
 Inv B ⟨g.wm,fun j=>if j=t then some d else g.tb j,g.fr⟩ ⟨st.box,t::st.tg,st.nx+1,st.ob⟩ w/\Later g w ⟨g.wm,fun j=>if j=t then some d else g.tb j,g.fr⟩ w:=by
 have ht:g.tb t=none:=by rw [htn]; exact h.freshName.1
 have hnt:t ∉ st.tg:=by rw [htn]; exact h.freshName.2
 have hla:Later g w ⟨g.wm,fun j=>if j=t then some d else g.tb j,g.fr⟩ w:=⟨fun _=>Nat.le_refl _,fun j x e=>by
  show (if j=t then some d else g.tb j)=some x;rw [if_neg (fun e2=>by subst e2; rw [ht] at e; cases e)];exact e,fun _ _ _=>rfl⟩
 have hget:∀ j ∈ st.tg,(if j=t then some d else g.tb j)=g.tb j:=fun j hj=>if_neg (fun e=>by subst e; exact hnt hj);refine ⟨⟨h.base,?_,?_,?_,?_,List.nodup_cons.2 ⟨hnt,h.nodup⟩,h.fresh,?_,h.ex.step hla (Nat.le_refl _) rfl rfl (fun _ _ _ _ _ _=>⟨rfl,rfl⟩) (fun _ e _=>e) (fun j hj hno j' hj' x hx=>?_) (fun j hj=>(List.mem_cons.1 hj).elim (fun e=>.inr (by rw [e]; exact ht)) .inl)⟩,hla⟩
 . intro b cs k hl;obtain ⟨h1,h2,h3,h4,arr,el,us,h5,h6,h7,h8⟩:=h.box b cs k hl;exact ⟨h1,h2,h3,h4,arr,el,us,h5,h6,zg hla _ _ h7,h8⟩
 . intro j hj;rcases List.mem_cons.1 hj with rfl | hj
   . exact ⟨d,if_pos rfl⟩
   . obtain ⟨x,hx⟩:=h.tag j hj; exact ⟨x,(hget j hj).trans hx⟩
 . intro j hj b cap n sz hb;rcases List.mem_cons.1 hj with rfl | hj
   . have hb':some d=some (some (b,cap,n,sz)):=by rw [<- hb]; exact (if_pos rfl).symm
     injection hb' with hb'
     obtain ⟨q1,q2,q3,q4,q5,q6,_,_⟩:=hd b cap n sz hb';exact ⟨q1,q2,q3,q4,q5,q6⟩
   . exact h.own j hj b cap n sz ((hget j hj).symm.trans hb)
 . intro j hj j' hj' b x y hx hy;rcases List.mem_cons.1 hj with e1 | m1 <;> rcases List.mem_cons.1 hj' with e2 | m2
   . rw [e1,e2]
   . subst e1;have hx':some d=some (some (b,x)):=by rw [<- hx]; exact (if_pos rfl).symm
     injection hx' with hx'
     obtain ⟨x1,x2,x3⟩:=x;obtain ⟨_,_,_,_,_,_,q,_⟩:=hd b x1 x2 x3 hx';exact (q j' m2 y ((hget j' m2).symm.trans hy)).elim
   . subst e2;have hy':some d=some (some (b,y)):=by rw [<- hy]; exact (if_pos rfl).symm
     injection hy' with hy'
     obtain ⟨y1,y2,y3⟩:=y;obtain ⟨_,_,_,_,_,_,q,_⟩:=hd b y1 y2 y3 hy';exact (q j m1 x ((hget j m1).symm.trans hx)).elim
   . exact h.dist j m1 j' m2 b x y ((hget j m1).symm.trans hx) ((hget j' m2).symm.trans hy)
 . intro j hj;replace hj:st.nx+1<=j:=hj;show (if j=t then some d else g.tb j)=none;rw [if_neg (by omega)]; exact h.names j (by omega)
 . rcases List.mem_cons.1 hj' with rfl | hm
   . have hx':some d=some (some (j,x)):=by rw [<- hx]; exact (if_pos rfl).symm
     injection hx' with hx'
     obtain ⟨x1,x2,x3⟩:=x;obtain ⟨_,_,_,_,_,_,_,q,q'⟩:=hd j x1 x2 x3 hx';rcases hj with hj | ⟨b',o,fp,h1,h2⟩
     . rw [q] at hj; cases hj
     . exact q' b' o fp h1 h2
   . exact hno j' hm x ((hget j' hm).symm.trans hx)
theorem Inv.dropTag {B:Nat} {g:Gh} {st:S} {w:World} (h:Inv B g st w) (t:Nat):Inv B g ⟨st.box,st.tg.erase t,st.nx,st.ob⟩ w:=
 h.weaken ⟨fun _ _ e=>e,fun _ hm=>List.mem_of_mem_erase hm,fun hn=>hn.erase t,fun _ e=>e,Nat.le_refl _,fun _ _ e=>e⟩
theorem Inv.dropBox {B:Nat} {g:Gh} {st:S} {w:World} (h:Inv B g st w) (b:Nat):Inv B g ⟨wipe st.box b,st.tg,st.nx,st.ob⟩ w:=
 h.weaken ⟨fun j c e=>by
  simp only [yr] at e;split at e
  . cases e
  . exact e,fun _ hm=>hm,fun hn=>hn,fun j e=>by
  simp only [yr];split
  . rfl
  . exact e,Nat.le_refl _,fun _ _ e=>e⟩
theorem Inv.newFr {B:Nat} {g:Gh} {st:S} {w:World} (h:Inv B g st w):g.fr w.heap.size=false:=by
 cases e:g.fr w.heap.size with
 | false=>rfl
 | true=>exact absurd (h.ex.frz _ e).1 (Nat.lt_irrefl _)
theorem Inv.newOb {B:Nat} {g:Gh} {st:S} {w:World} (h:Inv B g st w):∀ b o fp,zN st.ob b=some (o,fp)->w.heap.size ∉ fp:=fun b o fp hl hm=>
 absurd ((h.ex.ob b o fp hl).2.2 _ hm).2.1 (Nat.lt_irrefl _)
open Go.RowKit
structure Pol where
 pf:FuncId->Bool
 wr:Nat->Bool
 own:Nat->Bool
 rf:FuncId->Bool
 kl:List (Nat×Nat)
 kb:Nat->List Nat
def ldK (L:Pol) (x:Operand) (v:V):Prop:=
 match x with
 | .tmp u=>∀ p ∈ L.kl,p.2=u->∀ b o,v = .at (.pointer (some ⟨b,o,none⟩))->b ∈ L.kb p.1
 | _=>True
def stK (L:Pol) (x:Operand) (v:V):Prop:=
 match x with
 | .tmp a=>∀ b o,v = .at (.pointer (some ⟨b,o,none⟩))->b ∉ L.kb (1000000+a)
 | _=>True
def klb (L:Pol):Option Nat->List Nat
 | some d=>L.kb d
 | none=>[]
section facts
variable (P:Program)
def hasT (t:TypeId):Bool:=(P.info? t).isSome && (P.underlying t).isSome
def yx (t:TypeId):Bool:=match P.underlying t with | some (.struct _) | some (.array _ _)=>true | _=>false
def elT (t:TypeId):Option TypeId:=match P.underlying t with | some (.slice e)=>some e | _=>none
def jr (t:TypeId):Bool:=match P.underlying t with | some .string=>true | _=>false
def zFy (t:TypeId):Bool:=match P.underlying t with | some .bool=>true | _=>false
def fieldAt (t:TypeId) (i:Nat):Option (Nat×TypeId):=match P.underlying t with | some (.struct fs)=>(fs[i]?).map fun f=>(f.offset,f.type) | _=>none
def kZ (t:TypeId):Option Value:=(P.info? t).bind (·.zero)
def yN (t:TypeId):Option (List V):=(kZ P t).bind fun z=>if z.cells.toList.all one then some (z.cells.toList.map cV1) else none
def zZ (f:FuncId):Bool:=match P.funcs[f]? with | some fn=>fn.name != "runtime.NumGoroutine" && fn.body.isSome | none=>false
end facts
def zn:V->V
 | .lst (.own _ nb _) es=>.lst (if nb then zz es else .no) es
 | x=>x
def V.untag:V->V
 | .agg fs=>.agg (fs.map zn)
 | x=>zn x
section ops
variable (P:Program)
def yD (t:TypeId) (fs:List V) (off:Nat):Prop:=hasT P t=true/\off+P.cellsOf t<=fs.length/\(yx P t=false->P.cellsOf t=1)
def yC (t:TypeId) (fs:List V) (off:Nat):V:=if yx P t=true then .agg ((fs.drop off).take (P.cellsOf t)) else fs.getD off .any
def spl (cs:List V) (o:Nat) (xs:List V):List V:=cs.take o++xs++cs.drop (o+xs.length)
def zH (fs:List V):Prop:=fs.all V.isOne=true
def fits (t:TypeId) (x:V):Prop:=hasT P t=true/\x.size=P.cellsOf t/\x.isAgg=yx P t
def zBk:V->V->V->(V->Prop)->Prop
 | .at (.bool t),a,b,K=>K (if t then a else b)
 | _,_,_,_=>False
def ibit (f:(n:Nat)->BitVec n->BitVec n->BitVec n) (k:IntKind) (a b:Int):Int:=k.wrap ((f k.bits (BitVec.ofInt k.bits a) (BitVec.ofInt k.bits b)).toNat)
def iand (k:IntKind) (a b:Int):Int:=ibit (fun _ x y=>x &&& y) k a b
def ior (k:IntKind) (a b:Int):Int:=ibit (fun _ x y=>x ||| y) k a b
def ixor (k:IntKind) (a b:Int):Int:=ibit (fun _ x y=>x ^^^ y) k a b
def zPG (k:IntKind) (a b:Int):Int:=ibit (fun _ x y=>x &&& ~~~y) k a b
def ishl (k:IntKind) (a b:Int):Int:=k.wrap (a * 2 ^ (min b.toNat k.bits))
def ishr (k:IntKind) (a b:Int):Int:=a.fdiv (2 ^ (min b.toNat k.bits))
def inot (k:IntKind) (n:Int):Int:=ixor k (if k.signed then -1 else k.max) n
def aInt (op:BinOp) (k:IntKind) (a b:Int) (K:V->Prop):Prop:=
 match op with
 | .and=>K (.at (.int k (iand k a b)))
 | .or=>K (.at (.int k (ior k a b)))
 | .xor=>K (.at (.int k (ixor k a b)))
 | .andNot=>K (.at (.int k (zPG k a b)))
 | .shl=>0<=b/\K (.at (.int k (ishl k a b)))
 | .shr=>0<=b/\K (.at (.int k (ishr k a b)))
 | .add=>K (.at (.int k (k.wrap (a+b))))
 | .sub=>K (.at (.int k (k.wrap (a - b))))
 | .mul=>K (.at (.int k (k.wrap (a * b))))
 | .quo=>b≠0/\K (.at (.int k (k.wrap (a.tdiv b))))
 | .rem=>b≠0/\K (.at (.int k (a.tmod b)))
 | .eql=>K (.at (.bool (a == b)))
 | .neq=>K (.at (.bool (a != b)))
 | .lss=>K (.at (.bool (decide (a < b))))
 | .leq=>K (.at (.bool (decide (a<=b))))
 | .gtr=>K (.at (.bool (decide (a > b))))
 | .geq=>K (.at (.bool (decide (a >= b))))
def aStr (op:BinOp) (a b:ByteArray) (K:V->Prop):Prop:=
 match op with
 | .add=>((a.size+b.size:Nat):Int)<=IntKind.i64.max/\K (.at (.string (a++b)))
 | .eql=>K (.at (.bool (a.toList == b.toList)))
 | .neq=>K (.at (.bool !(a.toList == b.toList)))
 | .lss=>K (.at (.bool (Op.bytesLess a.toList b.toList)))
 | .leq=>K (.at (.bool (Op.bytesLess a.toList b.toList || a.toList == b.toList)))
 | .gtr=>K (.at (.bool !(Op.bytesLess a.toList b.toList || a.toList == b.toList)))
 | .geq=>K (.at (.bool !(Op.bytesLess a.toList b.toList)))
 | _=>False
def nilB:Tag->List V->Bool
 | .nil,_=>true
 | .no,_=>false
 | .own _ nb _,es=>nb && es.isEmpty
def j9 (op:BinOp) (a b:Bool) (K:V->Prop):Prop:=
 match op with
 | .eql=>K (.at (.bool (a == b)))
 | .neq=>K (.at (.bool (!(a == b))))
 | _=>False
def zRM (t:TypeId):Bool:=match P.underlying t with | some (.pointer _)=>true | _=>false
def aBin (op:BinOp) (t:TypeId):V->V->(V->Prop)->Prop
 | .at (.int k a),.at (.int k' b),K=>(k=k'\/op = .shl\/op = .shr)/\aInt op k a b K
 | .at (.bool a),.at (.bool b),K=>zFy P t=true/\j9 op a b K
 | .at (.string a),.at (.string b),K=>aStr op a b K
 | .lst tg es,.lst .nil [],K=>(elT P t).isSome=true/\j9 op (nilB tg es) true K
 | .at (.pointer p),.at (.pointer none),K=>zRM P t=true/\j9 op p.isNone true K
 | _,_,_=>False
def aUn (op:UnOp):V->(V->Prop)->Prop
 | .at (.bool b),K=>(match op with | .not=>K (.at (.bool !b)) | _=>False)
 | .at (.int k n),K=>(match op with | .neg=>K (.at (.int k (k.wrap (0 - n)))) | .xor=>K (.at (.int k (inot k n))) | _=>False)
 | _,_=>False
def kO (x:V) (i:Nat) (K:V->Prop):Prop:=
 match x with
 | .tup vs=>i < vs.length/\K (vs.getD i .any)
 | _=>False
def zRH (t:TypeId) (x:V) (f:Nat) (K:V->Prop):Prop:=
 match x,fieldAt P t f with
 | .agg fs,some (off,ft)=>zH fs/\yD P ft fs off/\K (yC P ft fs off)
 | _,_=>False
def yP (t:TypeId) (x:V) (f:Nat) (K:V->Prop):Prop:=
 match x,fieldAt P t f with
 | .rptr (.agg fs),some (off,ft)=>zH fs/\yD P ft fs off/\0 < P.cellsOf ft/\K (.rptr (yC P ft fs off))
 | .at (.pointer (some ⟨b,o,none⟩)),some (off,ft)=>hasT P ft=true/\0 < P.cellsOf ft/\K (.at (.pointer (some ⟨b,o+off,none⟩)))
 | _,_=>False
def yZ (t:TypeId) (x i:V) (K:V->Prop):Prop:=
 match elT P t,x,i with
 | some el,.lst _ es,.at (.int _ n)=>hasT P el=true/\(0<=n/\n < (es.length:Int))/\(es.getD n.toNat .any).size=P.cellsOf el/\K (.rptr (es.getD n.toNat .any))
 | some el,.at (.slice (some ⟨b,o,none⟩) len _),.at (.int _ n)=>hasT P el=true/\(0<=n/\n < (len:Int))/\K (.at (.pointer (some ⟨b,o+n.toNat * P.cellsOf el,none⟩)))
 | _,_,_=>False
def arrT (P:Program) (t:TypeId):Option Nat:=match P.underlying t with | some (.array n e)=>if hasT P e=true/\P.cellsOf e=1/\yx P e=false then some n else none | _=>none
def kn (t:TypeId) (x i:V) (K:V->Prop):Prop:=
 match x,i with
 | .at (.string s),.at (.int _ n)=>jr P t=true/\(0<=n/\n < (s.size:Int))/\K (.at (.int .u8 ((s.data.getD n.toNat 0).toNat:Int)))
 | .agg fs,.at (.int _ n)=>arrT P t=some fs.length/\zH fs/\(0<=n/\n < (fs.length:Int))/\K (fs.getD n.toNat .any)
 | _,_=>False
def y6 (st:S) (t:TypeId) (x:V) (K:V->Prop):Prop:=
 match x with
 | .rptr y=>fits P t y/\K y
 | .at (.pointer (some ⟨b,o,none⟩))=>
  match look st.box b with
  | some (cs,_)=>yD P t cs o/\K (yC P t cs o)
  | none=>False
 | _=>False
def qF (st:S) (t:TypeId) (x y:V) (K:S->Prop):Prop:=
 match x with
 | .at (.pointer (some ⟨b,o,none⟩))=>
  match look st.box b with
  | some (cs,k)=>hasT P t=true/\y.flat.length=P.cellsOf t/\zH y.flat/\o+y.flat.length<=cs.length/\K ⟨lay st.box b (spl cs o y.flat,k),st.tg,st.nx,st.ob⟩
  | none=>False
 | _=>False
def aNew (st:S) (cs:List V) (K:V->S->Prop):Prop:=
 zH cs/\∀ b,look st.box b=none->K (.at (.pointer (some ⟨b,0,none⟩))) ⟨lay st.box b (cs,cs.length),st.tg,st.nx,st.ob⟩
def jZ (st:S) (t:TypeId) (K:V->S->Prop):Prop:=
 match yN P t with
 | some cs=>aNew st cs K
 | none=>False
def zA5 (place:Nat->Option (Nat×Nat)) (cells:List V):List (Nat×V)->Option (List V)
 | []=>some cells
 | (i,x)::rest=>
  match place i with
  | none=>none
  | some (off,size)=>if x.flat.length=size/\off+size<=cells.length/\x.flat.all V.isOne=true then zA5 place (spl cells off x.flat) rest else none
def zBa (t:TypeId) (i:Nat):Option (Nat×Nat):=(fieldAt P t i).bind fun p=>if hasT P p.2 then some (p.1,P.cellsOf p.2) else none
def zDI (t:TypeId):Bool:=match P.underlying t with | some (.struct fs)=>fs.toList.all fun f=>hasT P f.type | _=>false
def zEB (t:TypeId) (parts:List (Nat×V)) (K:V->Prop):Prop:=
 zDI P t=true /\
 match yN P t with
 | some cs=>(match zA5 (zBa P t) cs parts with | some cs'=>K (.agg cs') | none=>False)
 | none=>False
def zEk (t:TypeId):List (Nat×TypeId):=match P.underlying t with | some (.array n e)=>(List.range n).map fun i=>(i * P.cellsOf e,e) | _=>[]
def zHw (t:TypeId) (i:Nat):Option (Nat×Nat):=((zEk P t)[i]?).bind fun p=>if hasT P p.2 then some (p.1,P.cellsOf p.2) else none
def zJA (t:TypeId) (parts:List (Nat×V)) (K:V->Prop):Prop:=
 zEk P t≠[]/\hasT P ((zEk P t).headD (0,0)).2=true /\
 match yN P t with
 | some cs=>(match zA5 (zHw P t) cs parts with | some cs'=>K (.agg cs') | none=>False)
 | none=>False
def zCc (t:TypeId) (parts:List (Nat×V)) (K:V->Prop):Prop:=zEB P t parts K\/zJA P t parts K
def zX:List V->List V
 | []=>[]
 | x::xs=>x.flat++zX xs
def jV:Nat->List (Nat×V)->Bool
 | _,[]=>true
 | n,(i,_)::r=>i == n && jV (n+1) r
def yo (sz:Nat) (es:List V):Prop:=∀ x ∈ es,x.size=sz
def yJ (L:Pol) (dst:Option Nat) (st:S) (t:TypeId) (n:Nat) (parts:List (Nat×V)) (K:V->S->Prop):Prop:=
 match elT P t with
 | none=>False
 | some el=>
  let es:=parts.map fun p=>p.2.untag
  hasT P el=true/\(yN P el).isSome=true/\((yN P el).map List.length=some (P.cellsOf el))/\n * P.cellsOf el<=2 ^ 24/\n<=maxLen/\parts.length=n/\jV 0 parts=true/\yo (P.cellsOf el) es/\(parts.all fun p=>p.2.flat.all V.isOne)=true /\
  (if (dst.map L.wr).getD false=true then
   zH (zX (parts.map (·.2)))/\∀ b,look st.box b=none->K (.at (.slice (some ⟨b,0,none⟩) n n)) ⟨lay st.box b (zX (parts.map (·.2)),n * P.cellsOf el),st.tg,st.nx,st.ob⟩
  else if (dst.map L.own).getD false=true then
   K (.lst (.own st.nx false (P.cellsOf el)) es) ⟨st.box,st.nx::st.tg,st.nx+1,st.ob⟩
  else K (.lst .no es) st)
def aLen (t:TypeId) (x:V) (K:V->Prop):Prop:=
 match x with
 | .lst _ es=>(elT P t).isSome=true/\K (.at (.int .i64 (es.length:Int)))
 | .at (.slice _ n _)=>(elT P t).isSome=true/\K (.at (.int .i64 (n:Int)))
 | .at (.string s)=>jr P t=true/\K (.at (.int .i64 (s.size:Int)))
 | _=>False
def aMax:V->V->(V->Prop)->Prop
 | .at (.int k x),.at (.int _ y),K=>K (.at (.int k (if y > x then y else x)))
 | _,_,_=>False
def xE (L:Pol) (dst:Option Nat) (st:S) (t t2:TypeId) (s x:V) (K:V->S->Prop):Prop:=
 match elT P t,x with
 | some el,.lst _ ys=>
  t2=t/\hasT P el=true/\((yN P el).map List.length=some (P.cellsOf el))/\0 < P.cellsOf el/\yo (P.cellsOf el) ys /\
  (match s with
   | .lst .nil []=>ys.length * P.bytesOf el<=140737488355328/\ys.length<=maxLen /\
    (if (dst.map L.wr).getD false=true then
     ys≠[]/\zH (zX ys)/\∀ b cap,look st.box b=none->ys.length<=cap->K (.at (.slice (some ⟨b,0,none⟩) ys.length cap)) ⟨lay st.box b (zX ys,cap * P.cellsOf el),st.tg,st.nx,st.ob⟩
    else K (.lst (.own st.nx true (P.cellsOf el)) ys) ⟨st.box,st.nx::st.tg,st.nx+1,st.ob⟩)
   | .lst (.own g nb sz) es=>g ∈ st.tg/\sz=P.cellsOf el/\(es.length+ys.length) * P.bytesOf el<=140737488355328/\es.length+ys.length<=maxLen /\
    K (.lst (.own st.nx nb sz) (es++ys)) ⟨st.box,st.nx::st.tg.erase g,st.nx+1,st.ob⟩
   | .at (.slice (some ⟨b,0,none⟩) len cap)=>
    (match look st.box b with
     | some (cs,k)=>(dst.map L.wr).getD false=true/\k=cap * P.cellsOf el/\len<=cap/\len * P.cellsOf el<=cs.length/\(len+ys.length) * P.bytesOf el<=140737488355328/\len+ys.length<=maxLen/\zH (zX ys) /\
      ∀ b' cap',look (wipe st.box b) b' = none->len+ys.length<=cap' ->
       K (.at (.slice (some ⟨b',0,none⟩) (len+ys.length) cap')) ⟨lay (wipe st.box b) b' (cs.take (len * P.cellsOf el)++zX ys,cap' * P.cellsOf el),st.tg,st.nx,st.ob⟩
     | none=>False)
   | _=>False)
 | some el,.at (.slice (some ⟨bs,0,none⟩) m _)=>
  t2=t/\hasT P el=true/\((yN P el).map List.length=some (P.cellsOf el))/\0 < P.cellsOf el/\(dst.map L.wr).getD false=true /\
  (match look st.box bs with
   | none=>False
   | some (css,_)=>m * P.cellsOf el<=css.length /\
    (match s with
     | .lst .nil []=>m * P.bytesOf el<=140737488355328/\m<=maxLen/\m≠0 /\
      ∀ b cap,look st.box b=none->m<=cap->K (.at (.slice (some ⟨b,0,none⟩) m cap)) ⟨lay st.box b (css.take (m * P.cellsOf el),cap * P.cellsOf el),st.tg,st.nx,st.ob⟩
     | .at (.slice (some ⟨b,0,none⟩) len cap)=>
      (match look st.box b with
       | some (cs,k)=>k=cap * P.cellsOf el/\len<=cap/\len * P.cellsOf el<=cs.length/\(len+m) * P.bytesOf el<=140737488355328/\len+m<=maxLen /\
        ∀ b' cap',look (wipe st.box b) b' = none->len+m<=cap' ->
         K (.at (.slice (some ⟨b',0,none⟩) (len+m) cap')) ⟨lay (wipe st.box b) b' (cs.take (len * P.cellsOf el)++css.take (m * P.cellsOf el),cap' * P.cellsOf el),st.tg,st.nx,st.ob⟩
       | none=>False)
     | _=>False))
 | _,_=>False
def zGD:Tag->List V->Tag
 | .own _ nb _,es=>if nb then zz es else .no
 | t,_=>t
def jB (x:Option V) (d:Int) (K:Int->Prop):Prop:=
 match x with
 | none=>K d
 | some (.at (.int _ n))=>K n
 | _=>False
def jU (t:TypeId) (x:V) (lo hi:Option V) (K:V->Prop):Prop:=
 match x with
 | .lst tg es=>
  (match elT P t with
   | none=>False
   | some el=>hasT P el=true/\(es=[]\/∀ x ∈ es.take 1,x.size=P.cellsOf el) /\
    jB lo 0 fun l=>jB hi es.length fun h=>(0<=l/\l<=h/\h<=(es.length:Int))/\K (.lst (zGD tg es) ((es.take h.toNat).drop l.toNat)))
 | .at (.slice (some ⟨b,o,none⟩) len cap)=>
  (match elT P t with
   | none=>False
   | some el=>hasT P el=true/\jB lo 0 fun l=>jB hi len fun h=>(0<=l/\l<=h/\h<=(cap:Int)) /\
    K (.at (.slice (some ⟨b,if (cap:Int)=l then o else o+l.toNat * P.cellsOf el,none⟩) (h.toNat - l.toNat) (cap - l.toNat))))
 | .at (.string s)=>jr P t=true/\jB lo 0 fun l=>jB hi s.size fun h=>(0<=l/\l<=h/\h<=(s.size:Int))/\K (.at (.string (s.extract l.toNat h.toNat)))
 | .rptr (.agg fs)=>arrT P t=some fs.length/\zH fs/\fs≠[]/\lo=none/\hi=none/\K (.lst .no fs)
 | _=>False
def xF (x:V) (K:V->Prop):Prop:=
 match x with
 | .rptr y=>K (.rptr y)
 | .at (.pointer (some a))=>K (.at (.pointer (some a)))
 | _=>False
end ops
inductive Outc where
 | ret (r:V)
 | pan (c:List PanicEntry)
def PureF (P:Program) (f:FuncId) (args:List V) (r:V):Prop:=
 ∀ (wm:Nat->Nat) (w:World) (vs:List Value),(∀ b,w.heap.size<=b->wm b=0)->GlobOk w.heap.size wm w->RVs ⟨wm,fun _=>none,Fr.no⟩ w args vs ->
  Calls P f vs.toArray w fun e w'=>∃ v wm',e = .returned v/\(∀ b,w'.heap.size<=b->wm' b=0)/\Step w.heap.size ⟨wm,fun _=>none,Fr.no⟩ w ⟨wm',fun _=>none,Fr.no⟩ w'/\RV ⟨wm',fun _=>none,Fr.no⟩ w' r v
def FnC (P:Program) (f:FuncId) (args:List V) (st:S) (Q:Outc->S->Prop):Prop:=
 ∀ (B:Nat) (g:Gh) (w:World) (vs:List Value),Inv B g st w->GlobOk B g.wm w->RVs g w args vs ->
  Calls P f vs.toArray w fun e w'=>∃ g' st',Step B g w g' w'/\Inv B g' st' w' /\
   match e with
   | .returned v=>∃ r,RV g' w' r v/\Q (.ret r) st'
   | .panicked c=>Q (.pan c) st'
   | .outgrown=>False
inductive Sub:List V->List V->Prop where
 | nil:Sub [] []
 | keep {x xs ys} (h:Sub xs ys):Sub (x::xs) (x::ys)
 | drop {x xs ys} (h:Sub xs ys):Sub (x::xs) (x.untag::ys)
def zCL (P:Program) (L:Pol) (kb:List Nat) (f:V) (args:List V) (st:S) (K:V->S->Prop) (KP:List PanicEntry->S->Prop):Prop:=
 match f with
 | .clo (.func n) caps=>zZ P n=true/\(args.all fun x=>x.flat.all V.isOne)=true/\zH caps /\
  (if L.pf n=true then caps=[]/\∃ r,PureF P n (args.map V.untag) r/\K r st
   else if L.rf n=true then ∃ as r,Sub args as/\FnC P n (as++caps) st (fun oc st'=>oc = .ret r/\st' = st)/\K r st
   else ∃ as,Sub args as/\FnC P n (as++caps) st fun | .ret r,st'=>(∀ b ∈ kb,look st'.box b=look st.box b)/\K r st' | .pan c,st'=>KP c st')
 | _=>False
def zEC (P:Program) (st:S) (t:TypeId) (x:V) (K:S->Prop):Prop:=
 match elT P t,x with
 | some el,.at (.slice (some ⟨b,o,none⟩) n _)=>
  (match look st.box b,yN P el with
   | some (cs,k),some z=>o<=cs.length/\o+n * z.length<=k/\K (if n=0 then st else ⟨lay st.box b (cs.take o,k),st.tg,st.nx,st.ob⟩)
   | _,_=>False)
 | _,_=>False
def jd (P:Program) (L:Pol) (dst:Option Nat) (b:Builtin) (ts:Array TypeId) (args:List V) (st:S) (K:V->S->Prop):Prop:=
 match b,ts.toList,args with
 | .len,t::_,[x]=>aLen P t x fun v=>K v st
 | .append,[t,t2],[s,x]=>xE P L dst st t t2 s x K
 | .clear,t::_,[x]=>zEC P st t x fun s=>K (.tup []) s
 | _,_,_=>False
def zGB:Operand->Bool
 | .const _=>true
 | _=>false
def zFU (P:Program) (t:TypeId):Bool:=match P.underlying t with | some (.interface _)=>true | _=>false
def intT (P:Program) (t:TypeId):Option IntKind:=match P.underlying t with | some (.int k)=>some k | _=>none
def zLz (P:Program) (us vs:List Value) (f:Field):Bool:=
 hasT P f.type && !yx P f.type && (match us[f.offset]?,vs[f.offset]?,P.underlying f.type with
 | some (.int _ _),some (.int _ _),some (.int _)=>true
 | some (.bool _),some (.bool _),some .bool=>true
 | some (.string _),some (.string _),some .string=>true
 | _,_,_=>false)
def zEQ (P:Program) (t:TypeId) (us vs:List Value):Bool:=
 (match P.underlying t with | some (.struct fs)=>fs.toList.all (zLz P us vs) | _=>false) && !P.stoodInHeld t && !P.eqGuardType P.depth t
def zA1:List Value->List Value->Bool
 | u::us,v::vs=>(match u,v with | .int k _,.int k' _=>decide (k=k') | _,_=>true) && zA1 us vs
 | _,_=>true
theorem zLm:∀ {us vs:List Value} {i:Nat} {k k':IntKind} {n n':Int},zA1 us vs=true->us[i]? = some (.int k n)->vs[i]? = some (.int k' n')->k=k'
 | [],_,_,_,_,_,_,_,h,_=>by simp at h
 | _::_,[],_,_,_,_,_,_,_,h=>by simp at h
 | u::us,v::vs,0,k,k',n,n',h,h1,h2=>by
  simp only [List.getElem?_cons_zero,Option.some.injEq] at h1 h2;subst h1; subst h2;simp only [zA1,Bool.and_eq_true,decide_eq_true_eq] at h;exact h.1
 | u::us,v::vs,i+1,k,k',n,n',h,h1,h2=>by
  simp only [zA1,Bool.and_eq_true] at h;exact zLm h.2 (by simpa using h1) (by simpa using h2)
def eqAt:Option Value->Option Value->Bool
 | some (.int _ a),some (.int _ b)=>a == b
 | some (.bool a),some (.bool b)=>a == b
 | some (.string a),some (.string b)=>a.toList == b.toList
 | _,_=>false
def zEh (P:Program) (t:TypeId) (us vs:List Value):Bool:=(P.fieldsOf t).toList.all fun f=>f.name == "_" || eqAt us[f.offset]? vs[f.offset]?
def zBj (P:Program) (op:BinOp) (t:TypeId) (c:Bool):V->V->(V->Prop)->Prop
 | .ifx,.at .nilIface,K=>zFU P t=true/\j9 op false true K
 | .at .nilIface,.at .nilIface,K=>zFU P t=true/\c=true/\j9 op true true K
 | .agg fs,.agg gs,K=>∃ us vs:List Value,fs=us.map V.at/\gs=vs.map V.at/\(zEQ P t us vs=true/\zA1 us vs=true)/\j9 op (zEh P t us vs) true K
 | x,y,K=>aBin P op t x y K
def zAN:List V->Option (List Int)
 | []=>some []
 | .at (.int .u8 n)::r=>(zAN r).map (n :: ·)
 | _::_=>none
def zLy (ns:List Int):ByteArray:=ns.foldl (fun r n=>r.push (UInt8.ofNat n.toNat)) ByteArray.empty
def zHX (P:Program) (t:TypeId):Bool:=match elT P t with | some e=>(match P.underlying e with | some (.int .u8)=>true | _=>false) && hasT P e && (P.cellsOf e == 1) | none=>false
def zEg (P:Program) (f t:TypeId) (x:V) (K:V->Prop):Prop:=
 match x with
 | .lst _ es=>zHX P f=true/\jr P t=true/\(match zAN es with | some ns=>K (.at (.string (zLy ns))) | none=>False)
 | .at (.int _ n)=>(match intT P t with | some k=>hasT P f=true/\K (.at (.int k (k.wrap n))) | none=>False)
 | .at (.string s)=>jr P f=true/\jr P t=true/\K (.at (.string s))
 | _=>False
def mapT (P:Program) (t:TypeId):Option TypeId:=match P.underlying t with | some (.map k e)=>(match P.underlying k with | some .string=>some e | _=>none) | _=>none
def zOk:Value->Bool
 | .agg cs=>cs.toList.all one
 | v=>one v
def zV:Value->V
 | .agg cs=>.agg (cs.toList.map cV1)
 | v=>cV1 v
def outV (c:Bool) (v:V) (ok:Bool):V:=if c=true then .tup [v,.at (.bool ok)] else v
def qt (P:Program) (st:S) (t:TypeId) (x i:V) (c:Bool) (K:V->Prop):Prop:=
 match mapT P t,i with
 | some e,.at (.string s)=>
  (match kZ P e with
   | some z=>zOk z=true /\
    (match x with
     | .at (.map none)=>K (outV c (zV z) false)
     | .at (.map (some b))=>(match zN st.ob b with
      | some (.mp o,_)=>(match mget o s with | some v=>K (outV c v true) | none=>K (outV c (zV z) false))
      | _=>False)
     | _=>False)
   | none=>False)
 | _,_=>False
def xl (P:Program) (st:S) (t:TypeId) (x i y:V) (K:S->Prop):Prop:=
 match mapT P t,x,i with
 | some _,.at (.map (some b)),.at (.string s)=>
  (match zN st.ob b with
   | some (.mp o,fp)=>y.flat.all V.isOne=true/\K ⟨st.box,st.tg,st.nx,(b,.mp (mput o s y.untag),fp)::st.ob⟩
   | _=>False)
 | _,_,_=>False
def zER (st:S) (K:V->S->Prop):Prop:=∀ b,zN st.ob b=none->K (.at (.map (some b))) ⟨st.box,st.tg,st.nx,(b,.mp [],[b])::st.ob⟩
def atsV:List V->Option (List Value)
 | []=>some []
 | .at v::r=>(atsV r).map (v :: ·)
 | _::_=>none
def zOj:V->Bool
 | .at _=>true
 | _=>false
def zHt (fn:Fn) (first caps:List V) (K:V->Prop):Prop:=
 match fn,first with
 | .func n,[]=>caps.all zOj=true/\K (.clo (.func n) caps)
 | _,_=>False
def zEe (P:Program) (t:TypeId) (x:V) (K:V->Prop):Prop:=
 P.concrete t=true/\match x with
 | .at v=>K (.at (.iface t v))
 | .agg fs=>(match atsV fs with | some us=>K (.at (.iface t (.agg us.toArray))) | none=>K .ifx)
 | _=>K .ifx
def resM (P:Program) (t:TypeId) (m:String):Option FuncId:=
 match P.info? t with
 | some i=>(match i.methods.find? (fun x=>x.name == m) with
  | some r=>(match r.path.toList with
   | []=>(match r.func with
    | some (f,b)=>(match P.underlying t with
     | some (.pointer _)=>none
     | some _=>if b=true then none else some f
     | none=>none)
    | none=>none)
   | _::_=>none)
  | none=>none)
 | none=>none
def okV:Value->Bool
 | .agg cs=>cs.toList.all one
 | v=>one v
def zNf (P:Program) (x:V) (m:String) (args:List V) (st:S) (K:V->S->Prop):Prop:=
 match x with
 | .at (.iface t v)=>(match resM P t m with
  | some f=>zZ P f=true/\okV v=true/\(args.all fun x=>x.flat.all V.isOne)=true/\∃ r,PureF P f (cV v::args.map V.untag) r/\K r st
  | none=>False)
 | _=>False
def zIi (x:V) (KP:List PanicEntry->Prop):Prop:=
 match x with
 | .at (.iface t v)=>KP [{ v:=.iface t v,recovered:=false }]
 | _=>False
def aop (P:Program) (L:Pol) (e:Env) (st:S) (o:Oper) (K:V->S->Prop) (KP:List PanicEntry->S->Prop):Prop:=
 match o.op with
 | .move x=>K (e.ev x) st
 | .assign x=>K (e.ev x) st
 | .pick c a b=>zBk (e.ev c) (e.ev a) (e.ev b) fun v=>K v st
 | .binOp op t x y _=>zBj P op t (zGB y) (e.ev x) (e.ev y) fun v=>K v st
 | .unOp op _ x=>aUn op (e.ev x) fun v=>K v st
 | .extract x i=>kO (e.ev x) i fun v=>K v st
 | .fieldAddr t x f=>yP P t (e.ev x) f fun v=>K v st
 | .indexAddr t x i=>yZ P t (e.ev x) (e.ev i) fun v=>K v st
 | .index t x i=>kn P t (e.ev x) (e.ev i) fun v=>K v st
 | .load t x=>ldK L x (e.ev x)/\y6 P st t (e.ev x) fun v=>K v st
 | .store t x y=>stK L x (e.ev x)/\qF P st t (e.ev x) (e.ev y) fun st'=>K .any st'
 | .alloc t=>jZ P st t K
 | .box _ x=>aNew st (e.ev x).flat K
 | .build t parts=>zCc P t (parts.toList.map fun p=>(p.1,e.ev p.2)) fun v=>K v st
 | .buildSlice t n parts=>yJ P L o.dst st t n (parts.toList.map fun p=>(p.1,e.ev p.2)) K
 | .nilCheck x=>xF (e.ev x) fun v=>K v st
 | .slice t x lo hi mx=>mx.isNone=true/\jU P t (e.ev x) (lo.map e.ev) (hi.map e.ev) fun v=>K v st
 | .call c=>(match c.callee with
  | .value f=>zCL P L (klb L o.dst) (e.ev f) (c.args.toList.map e.ev) st K KP
  | .builtin b=>jd P L o.dst b c.argTypes (c.args.toList.map e.ev) st K
  | .invoke _ _=>False)
 | .convert f t x=>zEg P f t (e.ev x) fun v=>K v st
 | .makeMap _ r=>r.isNone=true/\zER st K
 | .lookup t x i c=>qt P st t (e.ev x) (e.ev i) c fun v=>K v st
 | .mapUpdate t m k y=>xl P st t (e.ev m) (e.ev k) (e.ev y) fun st'=>K .any st'
 | .makeInterface t x=>zEe P t (e.ev x) fun v=>K v st
 | .makeFunc fn first caps=>zHt fn (first.toList.map e.ev) (caps.toList.map e.ev) fun v=>K v st
 | .panic x=>zIi (e.ev x) fun c=>KP c st
 | _=>False
open Go.RowKit
section inv
variable {g:Gh} {w:World}
theorem zh {v u:Value} (h:RV g w (.at v) u):u=v:=by
 obtain ⟨us,h1,h2⟩:=h;simp only [RC] at h1;rw [h2,h1.1]; rfl
theorem zQN {v u:Value} (h:RV g w (.at v) u):one v=true:=by
 obtain ⟨us,h1,h2⟩:=h;simp only [RC] at h1;exact h1.2
theorem RV_at_mk {v:Value} (h:one v=true):RV g w (.at v) v:=⟨[v],by simp [RC,h],rfl⟩
theorem zDv {fs:List V} {u:Value} (h:RV g w (.agg fs) u):∃ us,RCs g w fs us/\u = .agg us.toArray:=by
 obtain ⟨us,h1,h2⟩:=h;exact ⟨us,by simpa only [RC] using h1,h2⟩
theorem zE8 {fs:List V} {us:List Value} (h:RCs g w fs us):RV g w (.agg fs) (.agg us.toArray):=⟨us,by simpa only [RC] using h,rfl⟩
theorem zBI {tg:Tag} {es:List V} {u:Value} (h:RV g w (.lst tg es) u):RC g w (.lst tg es) [u]:=by
 obtain ⟨us,h1,h2⟩:=h;have h1':=h1;simp only [RC] at h1;rcases h1 with ⟨_,e,_⟩ | ⟨b,o,cap,ds,e,_⟩ <;> (subst e; rw [h2]; exact h1')
theorem xU {tg:Tag} {es:List V} {u:Value} (h:RC g w (.lst tg es) [u]):RV g w (.lst tg es) u:=⟨[u],h,rfl⟩
theorem zCZ {x:V} {u:Value} (h:RV g w (.rptr x) u):∃ b o ds,u = .pointer (some ⟨b,o,none⟩)/\RC g.bare w x ds/\At g w b o ds:=by
 obtain ⟨us,h1,h2⟩:=h;simp only [RC] at h1;obtain ⟨b,o,ds,rfl,h3,h4⟩:=h1;exact ⟨b,o,ds,h2,h3,h4⟩
theorem zCI {x:V} {b o:Nat} {ds:List Value} (h:RC g.bare w x ds) (ha:At g w b o ds):RV g w (.rptr x) (.pointer (some ⟨b,o,none⟩)):=
 ⟨[.pointer (some ⟨b,o,none⟩)],by simp only [RC]; exact ⟨b,o,ds,rfl,h,ha⟩,rfl⟩
theorem zQS {fn:Fn} {caps:List V} {u:Value} (h:RV g w (.clo fn caps) u):∃ ds,RCs g.bare w caps ds/\u = .func fn #[] ds.toArray:=by
 obtain ⟨us,h1,h2⟩:=h;simp only [RC] at h1;obtain ⟨ds,h3,rfl⟩:=h1;exact ⟨ds,h3,h2⟩
theorem zG8 {x:V} {us:List Value} (h:RC g w x us):RV g w x (pack x us):=RV.of_RV1 ⟨us,h,rfl⟩
theorem zCu {x:V} (h:x.isOne=true):x.size=1:=by cases x <;> simp [V.isOne] at h <;> simp [V.size]
theorem yK:∀ {fs:List V},zH fs->jS fs=fs.length
 | [],_=>rfl
 | x::xs,h=>by
  simp only [zH,List.all_cons,Bool.and_eq_true] at h;simp [jS,zCu h.1,yK (fs:=xs) h.2]; omega
theorem zBw {x:V} {us:List Value} (h:RC g w x us) (h1:x.isOne=true):∃ u,us=[u]:=by
 have:=qN g w x us h;rw [zCu h1] at this
 match us,this with
 | [u],_=>exact ⟨u,rfl⟩
theorem yL:∀ {fs:List V} {us:List Value} (_:zH fs) (_:RCs g w fs us) (n:Nat),RCs g w (fs.take n) (us.take n)/\RCs g w (fs.drop n) (us.drop n)
 | [],us,_,h,n=>by simp only [RCs] at h; subst h; simp [RCs]
 | x::xs,us,ha,h,n=>by
  simp only [zH,List.all_cons,Bool.and_eq_true] at ha;simp only [RCs] at h;obtain ⟨u1,u2,rfl,h1,h2⟩:=h;obtain ⟨u,rfl⟩:=zBw h1 ha.1;cases n with
  | zero=>simp only [List.take_zero,List.drop_zero]; exact ⟨by simp [RCs],by simp only [RCs]; exact ⟨[u],u2,rfl,h1,h2⟩⟩
  | succ n=>
   obtain ⟨k1,k2⟩:=yL (fs:=xs) (us:=u2) ha.2 h2 n;simp only [List.take_succ_cons,List.drop_succ_cons,List.cons_append,List.nil_append];exact ⟨by simp only [RCs]; exact ⟨[u],u2.take n,rfl,h1,k1⟩,k2⟩
theorem qI:∀ {fs gs:List V} {us vs:List Value},RCs g w fs us->RCs g w gs vs->RCs g w (fs++gs) (us++vs)
 | [],gs,us,vs,h,h'=>by simp only [RCs] at h; subst h; exact h'
 | x::xs,gs,us,vs,h,h'=>by
  simp only [RCs] at h;obtain ⟨u1,u2,rfl,h1,h2⟩:=h;simp only [List.cons_append,RCs];exact ⟨u1,u2++vs,by simp,h1,qI h2 h'⟩
theorem zNU {fs:List V} {us:List Value} (ha:zH fs) (h:RCs g w fs us) (i:Nat) (hi:i < fs.length):∃ u,us[i]? = some u/\RC g w (fs.getD i .any) [u]:=by
 have h1:=(yL ha h i).2;rw [List.drop_eq_getElem_cons hi] at h1;simp only [RCs] at h1;obtain ⟨u1,u2,e,h2,_⟩:=h1;have hone:(fs[i]).isOne=true:=by
  have:=List.all_eq_true.1 ha (fs[i]) (List.getElem_mem hi);exact this
 obtain ⟨u,rfl⟩:=zBw h2 hone;refine ⟨u,?_,?_⟩
 . have:=congrArg (fun l=>l[0]?) e;simpa using this
 . simpa [hi] using h2
theorem zK0 {sz:Nat}:∀ {es:List V} {ds:List Value},(∀ x ∈ es,x.size=sz)->RCs g w es ds->∀ (n:Nat),n < es.length->RC g w (es.getD n .any) ((ds.drop (n * sz)).take sz)
 | [],ds,_,_,n,hn=>by simp at hn
 | x::xs,ds,hs,h,n,hn=>by
  simp only [RCs] at h;obtain ⟨u1,u2,rfl,h1,h2⟩:=h;have hl:=qN g w x u1 h1;rw [hs x (by simp)] at hl;cases n with
  | zero=>
   have:(List.drop (0 * sz) (u1++u2)).take sz=u1:=by rw [Nat.zero_mul,List.drop_zero,<- hl]; exact List.take_left
   rw [this]; simpa using h1
  | succ n=>
   have:=zK0 (es:=xs) (ds:=u2) (fun y hy=>hs y (by simp [hy])) h2 n (by simpa using hn);have e:List.drop ((n+1) * sz) (u1++u2)=u2.drop (n * sz):=by
    rw [Nat.add_mul,Nat.one_mul,Nat.add_comm,<- hl,<- List.drop_drop,List.drop_left]
   rw [e]; simpa using this
theorem At.sub {b o:Nat} {us:List Value} (h:At g w b o us) (n m:Nat):At g w b (o+n) ((us.drop n).take m):=by
 intro k u hk;rw [List.getElem?_take] at hk;split at hk
 . rw [List.getElem?_drop] at hk;have:=h (n+k) u hk;rw [Nat.add_assoc]; exact this
 . cases hk
theorem zFi {x:V} {us:List Value} (h:RC g w x us):RC g w (zn x) us:=by
 unfold zn;split
 . rename_i t nb s es;simp only [RC] at h ⊢;rcases h with ⟨rfl,hu,hn⟩ | ⟨b,o,cap,ds,hu,hc,ht,hr,hf,ha⟩
   . refine .inl ⟨rfl,hu,?_⟩;obtain ⟨_,rfl⟩:=hn;simp [zz,zEn]
   . refine .inr ⟨b,o,cap,ds,hu,hc,?_,hr,?_,ha⟩
     . cases nb with
       | false=>simp [zIh]
       | true=>
        have hne:=ht.2.2 rfl;have:es.isEmpty=false:=by cases es <;> simp at hne ⊢
        simp [zz,this,zIh]
     . obtain ⟨sz,h1,h2⟩:=hf;refine ⟨sz,h1,fun t' nb' s' e=>?_⟩;cases nb <;> simp [zz] at e
       split at e <;> cases e
 . exact h
theorem zIG:∀ {xs:List V} {us:List Value},RCs g w xs us->RCs g w (xs.map zn) us
 | [],us,h=>h
 | x::xs,us,h=>by
  simp only [RCs,List.map_cons] at h ⊢;obtain ⟨u1,u2,rfl,h1,h2⟩:=h;exact ⟨u1,u2,rfl,zFi h1,zIG h2⟩
theorem zSI {x:V} {us:List Value} (h:RC g w x us):RC g w x.untag us:=by
 unfold V.untag;split
 . simp only [RC] at h ⊢; exact zIG h
 . exact zFi h
theorem zDf {x:V} {us:List Value} (h:RC g w x us) (h1:x.isOne=true):RC g.bare w (zn x) us:=by
 have h2:=zFi h;cases x with
 | any=>simp [V.isOne] at h1
 | agg fs=>simp [V.isOne] at h1
 | tup vs=>simp [V.isOne] at h1
 | rptr x=>simp only [zn,RC] at h2 ⊢; exact h2
 | ifx=>simp only [zn,RC] at h2 ⊢; exact h2
 | clo fn caps=>simp only [zn,RC] at h2 ⊢; exact h2
 | lst tg es=>
  have key:∀ tg',(∀ t nb s,tg'≠.own t nb s)->RC g w (.lst tg' es) us->RC g.bare w (.lst tg' es) us:=by
   intro tg' hno h;simp only [RC] at h ⊢;rcases h with ⟨he,hu,hn⟩ | ⟨b,o,cap,ds,hu,hc,ht,hr,hf,ha⟩
   . refine .inl ⟨he,hu,?_⟩;cases tg' with
     | nil=>exact hn
     | no=>exact hn
     | own t nb s=>exact absurd rfl (hno t nb s)
   . refine .inr ⟨b,o,cap,ds,hu,hc,?_,hr,hf,ha⟩;cases tg' with
     | nil=>exact ht
     | no=>exact ht
     | own t nb s=>exact absurd rfl (hno t nb s)
  cases tg with
  | nil=>exact key _ (fun _ _ _ e=>by cases e) h2
  | no=>exact key _ (fun _ _ _ e=>by cases e) h2
  | own t nb s=>
   simp only [zn] at h2 ⊢;refine key _ (fun t' nb' s' e=>?_) h2;cases nb <;> simp [zz] at e
   split at e <;> cases e
 | _=>simpa [RC,zn] using h2
theorem zDE:∀ {xs:List V} {us:List Value},RCs g w xs us->zH xs->RCs g.bare w (xs.map zn) us
 | [],us,h,_=>h
 | x::xs,us,h,h1=>by
  simp only [zH,List.all_cons,Bool.and_eq_true] at h1;simp only [RCs,List.map_cons] at h ⊢;obtain ⟨u1,u2,rfl,h2,h3⟩:=h;exact ⟨u1,u2,rfl,zDf h2 h1.1,zDE h3 h1.2⟩
theorem zAY {x:V} {us:List Value} (h:RC g w x us) (h1:zH x.flat):RC g.bare w x.untag us:=by
 cases x with
 | agg fs=>simp only [RC,V.untag] at h ⊢; exact zDE h h1
 | any=>simp [RC] at h
 | tup vs=>simp [RC] at h
 | _=>exact zDf h rfl
theorem zCM (x:V) (us:List Value):pack x.untag us=pack x us:=by
 cases x <;> simp only [V.untag,zn,pack]
 rename_i tg es;cases tg <;> simp [zn,pack]
theorem RV1.untag {x:V} {u:Value} (h:RV1 g w x u):RV1 g w x.untag u:=by
 obtain ⟨us,h1,h2⟩:=h;exact ⟨us,zSI h1,by rw [zCM]; exact h2⟩
theorem zSY {x:V} {u:Value} (h:RV g w x u) (h1:x≠.any) (h2:∀ vs,x≠.tup vs):RV1 g w x u:=by
 cases x with
 | any=>exact absurd rfl h1
 | tup vs=>exact absurd rfl (h2 vs)
 | _=>exact h
end inv
section runs
variable {P:Program}
theorem zFZ {t:TypeId} (h:hasT P t=true):∃ i,P.info? t=some i/\i.size=P.cellsOf t/\i.bytes=P.bytesOf t/\i.zero=kZ P t:=by
 simp only [hasT,Bool.and_eq_true,Option.isSome_iff_exists] at h;obtain ⟨⟨i,hi⟩,_⟩:=h;exact ⟨i,hi,by simp [Program.cellsOf,hi],by simp [Program.bytesOf,hi],by simp [kZ,hi]⟩
theorem yR {t:TypeId} (h:hasT P t=true) (w:World):(sizeOf t).run P w = .ok (P.cellsOf t) w:=by
 obtain ⟨i,hi,hs,_⟩:=zFZ h;simp [sizeOf,typeInfo,hi,hs]
theorem zEa {t:TypeId} (h:hasT P t=true) (w:World):(isAgg t).run P w = .ok (yx P t) w:=by
 simp only [hasT,Bool.and_eq_true,Option.isSome_iff_exists] at h;obtain ⟨_,⟨d,hd⟩⟩:=h;simp only [isAgg,Sem.run_bind,run_underlying hd,Result.andThen_ok,yx,hd];cases d <;> rfl
theorem zJj {t:TypeId} {n:Nat} (h:arrT P t=some n):∃ e,P.underlying t=some (.array n e)/\hasT P e=true/\P.cellsOf e=1/\yx P e=false:=by
 unfold arrT at h;split at h
 . rename_i m e hu;split at h
   . rename_i hh;injection h with h
     subst h;exact ⟨e,hu,hh⟩
   . cases h
 . cases h
theorem qe {t el:TypeId} (h:elT P t=some el):P.underlying t=some (.slice el):=by
 unfold elT at h;split at h
 . rename_i e; rw [e]; injection h with h; rw [h]
 . cases h
theorem zq (b o n:Nat):(⟨b,o,none⟩:Addr).add n=⟨b,o+n,none⟩:=by unfold Addr.add; split <;> simp_all
theorem zFP {g:Gh} {w:World} {t:TypeId} {x:V} {b o:Nat} {ds:List Value} (hf:fits P t x) (hr:RC g w x ds) (ha:∀ (k:Nat) u,ds[k]? = some u->w.cell? ⟨b,o+k,none⟩=some u) :
 (loadVar t ⟨b,o,none⟩).run P w = .ok (pack x ds) w:=by
 obtain ⟨h1,h2,h3⟩:=hf;have hl:=qN g w x ds hr;simp only [loadVar,Sem.run_bind,zEa h1,Result.andThen_ok];cases hx:x.isAgg with
 | true=>
  rw [hx] at h3;rw [<- h3];cases x <;> simp [V.isAgg] at hx
  rename_i fs;have hll:(loadCells ⟨b,o,none⟩ ds.length).run P w = .ok ds.toArray w:=
   run_loadCells_list (P:=P) w ⟨b,o,none⟩ ds (fun j v hv=>by rw [zq]; exact ha j v hv)
  rw [<- hl] at h2;simp only [if_true,Sem.run_bind,yR h1,Result.andThen_ok,<- h2,hll];rfl
 | false=>
  rw [hx] at h3;rw [<- h3];simp only [Bool.false_eq_true,if_false];have h1x:x.size=1:=by
   cases x <;> simp [V.isAgg] at hx <;> simp [V.size]
  rw [h1x] at hl
  match ds,hl with
  | [u],_=>
   have hc:=ha 0 u (by simp);have hp:pack x [u]=u:=by cases x <;> simp [V.isAgg] at hx <;> rfl
   rw [hp];simp only [Nat.add_zero] at hc;simp [load,Sem.run,hc]
theorem zIn {g:Gh} {w:World} {t:TypeId} {fs:List V} {off:Nat} {us:List Value} (ha:zH fs) (hp:yD P t fs off) (h:RCs g w fs us) :
 RC g w (yC P t fs off) ((us.drop off).take (P.cellsOf t))/\(yC P t fs off).isAgg=yx P t/\(yC P t fs off).size=P.cellsOf t:=by
 obtain ⟨h1,h2,h3⟩:=hp;have hl:=zy g w fs us h;rw [yK ha] at hl;unfold yC;cases hb:yx P t with
 | true=>
  simp only [if_true];have ha':zH (fs.drop off):=by
   unfold zH at ha ⊢;rw [List.all_eq_true] at ha ⊢;exact fun x hx=>ha x (List.mem_of_mem_drop hx)
  have h4:=(yL ha' (yL ha h off).2 (P.cellsOf t)).1;have ha'':zH ((fs.drop off).take (P.cellsOf t)):=by
   unfold zH at ha' ⊢;rw [List.all_eq_true] at ha' ⊢;exact fun x hx=>ha' x (List.mem_of_mem_take hx)
  refine ⟨by simp only [RC]; exact h4,rfl,?_⟩;simp only [V.size];rw [yK ha''];simp; omega
 | false=>
  simp only [Bool.false_eq_true,if_false];have h5:=h3 hb;obtain ⟨u,hu,hr⟩:=zNU ha h off (by omega);have hone:(fs.getD off .any).isOne=true:=by
   have hlt:off < fs.length:=by omega
   have:=List.all_eq_true.1 ha (fs[off]) (List.getElem_mem hlt);simpa [hlt] using this
  refine ⟨?_,?_,?_⟩
  . rw [h5];have:(us.drop off).take 1=[u]:=by
     have hlt:off < us.length:=by omega
     rw [List.drop_eq_getElem_cons hlt];simp only [List.take_succ_cons,List.take_zero];rw [List.getElem?_eq_getElem hlt] at hu;injection hu with hu
     rw [hu]
    rw [this]; exact hr
  . cases hq:fs.getD off .any <;> rw [hq] at hone <;> simp [V.isOne] at hone <;> rfl
  . rw [zCu hone,h5]
end runs
open Go.RowKit
def zHy (X:Cx) (g:Gh) (w:World) (o:Oper) (a:Act) (K:V->S->Prop):Act->World->Prop:=
 fun a' w'=>∃ u v g' st',a' = a.put o.dst u/\Out X.B g w g' st' w'/\RV g' w' v u/\K v st'
def zH8 (X:Cx) (g:Gh) (w:World) (a:Act) (KP:List PanicEntry->S->Prop):Exit->Act->World->Prop:=
 fun ex a' w'=>∃ c g' st',ex = .panic c/\a' = a/\Out X.B g w g' st' w'/\KP c st'
section
variable {P:Program} {X:Cx} {g:Gh} {w:World} {a:Act} {o:Oper} {st:S} {K:V->S->Prop} {KP:List PanicEntry->S->Prop}
theorem jF {w':World} {u:Value} {Q:Exit->Act->World->Prop} {K:Act->World->Prop} (h:(execOp a.eval o).run P w = .ok (.value u) w') (hk:K (a.put o.dst u) w'):o.wp P a w K Q:=by
 unfold Oper.wp Oper.upon;rw [h]; exact hk
theorem zHr {w':World} {Q:Exit->Act->World->Prop} {K:Act->World->Prop} (h:(execOp a.eval o).run P w = .ok .skip w') (hk:K (a.put o.dst undef) w'):o.wp P a w K Q:=by
 unfold Oper.wp Oper.upon;rw [h]; exact hk
theorem yk (hi:Inv X.B g st w) {u:Value} {v:V} (h:(execOp a.eval o).run P w = .ok (.value u) w) (hv:RV g w v u) (hk:K v st):o.wp P a w (zHy X g w o a K) (zH8 X g w a KP):=
 jF h ⟨u,v,g,st,rfl,.refl hi,hv,hk⟩
theorem y7 {s:Sem Value} {u:Value} {w':World} (h:s.run P w = .ok u w'):((do pure (Next.value (<- s))):Sem Next).run P w = .ok (.value u) w':=by
 simp [Sem.run_bind,h]
theorem zKS {s:Sem Unit} {w':World} (h:s.run P w = .ok () w'):((do s; pure Next.skip):Sem Next).run P w = .ok .skip w':=by
 simp [Sem.run_bind,h]
theorem zOu {c x y:V} {K:V->Prop} (h:zBk c x y K) {uc ux uy:Value} (hc:RV g w c uc) (hx:RV g w x ux) (hy:RV g w y uy) :
 ∃ v t,K v/\uc = .bool t/\RV g w v (if t then ux else uy):=by
 unfold zBk at h;split at h
 . rename_i t;refine ⟨_,t,h,zh hc,?_⟩;cases t <;> simpa
 . cases h
theorem zQH {op:BinOp} {k k':IntKind} {x y:Int} {K:V->Prop} (hk:k=k'\/op = .shl\/op = .shr) (h:aInt op k x y K):∃ v,K (.at v)/\one v=true/\(Go.binOp op 0 (.int k x) (.int k' y)).run P w = .ok v w/\(∀ t,Go.binOp op t (.int k x) (.int k' y)=Go.binOp op 0 (.int k x) (.int k' y)):=by
 have hk2:¬ (op = .shl\/op = .shr)->k=k':=fun hn=>by
  rcases hk with h | h
  . exact h
  . exact absurd h hn
 cases op <;> simp only [aInt] at h
 case shl=>exact ⟨_,h.2,rfl,by have h1:¬ y < 0:=(by omega); simp [Go.binOp,Op.shift,h1,ishl],fun _=>rfl⟩
 case shr=>exact ⟨_,h.2,rfl,by have h1:¬ y < 0:=(by omega); simp [Go.binOp,Op.shift,h1,ishr],fun _=>rfl⟩
 all_goals obtain rfl:=hk2 (by simp)
 case quo=>exact ⟨_,h.2,rfl,by simp [Go.binOp,Op.intDiv,h.1],fun _=>rfl⟩
 case rem=>exact ⟨_,h.2,rfl,by simp [Go.binOp,Op.intDiv,h.1],fun _=>rfl⟩
 case and=>exact ⟨_,h,rfl,by simp [Go.binOp,Op.intBits,iand,ibit],fun _=>rfl⟩
 case or=>exact ⟨_,h,rfl,by simp [Go.binOp,Op.intBits,ior,ibit],fun _=>rfl⟩
 case xor=>exact ⟨_,h,rfl,by simp [Go.binOp,Op.intBits,ixor,ibit],fun _=>rfl⟩
 case andNot=>exact ⟨_,h,rfl,by simp [Go.binOp,Op.intBits,zPG,ibit],fun _=>rfl⟩
 all_goals exact ⟨_,h,rfl,by simp [Go.binOp,Op.intArith,Op.intCmp],fun _=>rfl⟩
theorem zP0 {op:BinOp} {x y:ByteArray} {K:V->Prop} (h:aStr op x y K) (t:TypeId):∃ v,K (.at v)/\one v=true/\(Go.binOp op t (.string x) (.string y)).run P w = .ok v w:=by
 cases op <;> simp only [aStr] at h
 case add=>
  refine ⟨_,h.2,rfl,?_⟩;have:¬ (((x.size+y.size:Nat):Int) > IntKind.i64.max):=by have:=h.1; omega
  simp only [Go.binOp,Op.stringOp,if_neg this];rfl
 all_goals exact ⟨_,h,rfl,by simp [Go.binOp,Op.stringOp]⟩
theorem yu {op:BinOp} {t:TypeId} {x y:Operand} {u v:Value} (h:u≠.nilIface) (h2:one u=true):(eqGuard op t x y u v).run P w = .ok () w:=by
 cases u <;> first | (exact absurd rfl h) | (simp [one] at h2; done) | skip
 all_goals
  unfold eqGuard;cases op <;> simp
theorem zMU {t:TypeId} (h:zFy P t=true):P.underlying t=some .bool:=by
 unfold zFy at h; split at h
 . rename_i e; exact e
 . cases h
theorem jx {t:TypeId} (h:jr P t=true):P.underlying t=some .string:=by
 unfold jr at h; split at h
 . rename_i e; exact e
 . cases h
theorem zDp {t:TypeId} (hu:P.underlying t=some .bool) (p q:Bool) (w:World):(Op.equal t (.bool p) (.bool q)).run P w = .ok (p == q) w:=by
 show (Op.equalIn (9999+1) t (.bool p) (.bool q)).run P w=_;generalize 9999=d;unfold Op.equalIn;simp only [Sem.run_bind,run_underlying hu,Result.andThen_ok,Sem.run_pure]
theorem zEy {t el:TypeId} (hu:P.underlying t=some (.slice el)) (ad:Option Addr) (n c:Nat) (w:World):(Op.equal t (.slice ad n c) (.slice none 0 0)).run P w = .ok ad.isNone w:=by
 show (Op.equalIn (9999+1) t (.slice ad n c) (.slice none 0 0)).run P w=_;generalize 9999=d;unfold Op.equalIn;cases ad <;> simp only [Sem.run_bind,run_underlying hu,Result.andThen_ok,Sem.run_pure,Option.isNone]
theorem zAG {op:BinOp} {x y:Bool} {K:V->Prop} (h:j9 op x y K):(op = .eql/\K (.at (.bool (x == y))))\/(op = .neq/\K (.at (.bool (!(x == y))))):=by
 cases op <;> simp only [j9] at h
 . exact .inl ⟨rfl,h⟩
 . exact .inr ⟨rfl,h⟩
theorem zQ8 {tg:Tag} {es:List V} {u:Value} (h:RC g w (.lst tg es) [u]):∃ ad n c,u = .slice ad n c/\ad.isNone=nilB tg es:=by
 simp only [RC] at h;rcases h with ⟨rfl,hu,hn⟩ | ⟨b,o,cap,ds,hu,hc,ht,hr,hf,ha⟩
 . injection hu with hu _
   refine ⟨none,0,0,hu,?_⟩;cases tg with
   | nil=>rfl
   | no=>exact hn.elim
   | own t nb s=>obtain ⟨_,rfl⟩:=hn; rfl
 . injection hu with hu _
   refine ⟨some _,_,_,hu,?_⟩;cases tg with
   | nil=>exact ht.elim
   | no=>rfl
   | own t nb s=>
    cases nb with
    | false=>rfl
    | true=>have:=ht.2.2 rfl; cases es <;> simp at this ⊢; simp [nilB]
theorem zPc {op:BinOp} {t:TypeId} {x y:V} {K:V->Prop} (h:aBin P op t x y K) {ux uy:Value} (hx:RV g w x ux) (hy:RV g w y uy) (ox oy:Operand) :
 ∃ v,K (.at v)/\one v=true/\((do eqGuard op t ox oy ux uy; Go.binOp op t ux uy):Sem Value).run P w = .ok v w:=by
 unfold aBin at h;split at h
 . rename_i k p k' q;obtain ⟨hk,h⟩:=h;have e1:=zh hx; have e2:=zh hy;subst e1; subst e2;obtain ⟨v,h1,h2,h3,h4⟩:=zQH (P:=P) (w:=w) hk h;exact ⟨v,h1,h2,by rw [Sem.run_bind,yu (by simp) rfl,Result.andThen_ok,h4 t,h3]⟩
 . obtain ⟨hb,h⟩:=h;have e1:=zh hx; have e2:=zh hy;subst e1; subst e2;have hu:=zMU hb;rcases zAG h with ⟨rfl,h⟩ | ⟨rfl,h⟩
   . exact ⟨_,h,rfl,by rw [Sem.run_bind,yu (by simp) rfl,Result.andThen_ok]; simp only [Go.binOp,Sem.run_bind,zDp hu,Result.andThen_ok,Sem.run_pure]⟩
   . exact ⟨_,h,rfl,by rw [Sem.run_bind,yu (by simp) rfl,Result.andThen_ok]; simp only [Go.binOp,Sem.run_bind,zDp hu,Result.andThen_ok,Sem.run_pure]⟩
 . have e1:=zh hx; have e2:=zh hy;subst e1; subst e2;obtain ⟨v,h1,h2,h3⟩:=zP0 (P:=P) (w:=w) h t;exact ⟨v,h1,h2,by rw [Sem.run_bind,yu (by simp) rfl,Result.andThen_ok,h3]⟩
 . rename_i tg es;obtain ⟨hel,h⟩:=h;obtain ⟨el,hel⟩:=Option.isSome_iff_exists.1 hel;have hu:=qe hel;obtain ⟨ad,n,c,rfl,hn⟩:=zQ8 (zBI hx);have hy':=zBI hy;simp only [RC] at hy';have e2:uy = .slice none 0 0:=by
    rcases hy' with ⟨_,hu,_⟩ | ⟨b,o,cap,ds,_,_,ht,_⟩
    . injection hu
    . exact ht.elim
   subst e2;rcases zAG h with ⟨rfl,h⟩ | ⟨rfl,h⟩
   . refine ⟨_,h,rfl,?_⟩;rw [Sem.run_bind,yu (by simp) rfl,Result.andThen_ok];simp only [Go.binOp,Sem.run_bind,zEy hu,Result.andThen_ok,Sem.run_pure,hn];cases nilB tg es <;> rfl
   . refine ⟨_,h,rfl,?_⟩;rw [Sem.run_bind,yu (by simp) rfl,Result.andThen_ok];simp only [Go.binOp,Sem.run_bind,zEy hu,Result.andThen_ok,Sem.run_pure,hn];cases nilB tg es <;> rfl
 . rename_i p;obtain ⟨hp,h⟩:=h;have e1:=zh hx; have e2:=zh hy;subst e1; subst e2;have hu:P.underlying t=some (.pointer (P.pointee t)):=by
    unfold zRM at hp;unfold Program.pointee;split at hp
    . rename_i e; rw [e]
    . cases hp
   rcases zAG h with ⟨rfl,h⟩ | ⟨rfl,h⟩
   . exact ⟨_,h,rfl,by rw [Sem.run_bind,yu (by simp) rfl,Result.andThen_ok,run_eql_pointer_nil w t p hu]; simp⟩
   . exact ⟨_,h,rfl,by rw [Sem.run_bind,yu (by simp) rfl,Result.andThen_ok,run_neq_pointer_nil w t p hu]; simp⟩
 . cases h
theorem zGm {t:TypeId} (h:zFU P t=true):∃ ms,P.underlying t=some (.interface ms):=by
 unfold zFU at h; split at h
 . rename_i e; exact ⟨_,e⟩
 . cases h
theorem zEw {t ty:TypeId} {p:Value} {ms} (hu:P.underlying t=some (.interface ms)) (w:World):(Op.equal t (.iface ty p) .nilIface).run P w = .ok false w:=by
 show (Op.equalIn (9999+1) t (.iface ty p) .nilIface).run P w=_;generalize 9999=d;unfold Op.equalIn;simp only [Sem.run_bind,run_underlying hu,Result.andThen_ok,Sem.run_pure]
theorem zCs {t:TypeId} {ms} (hu:P.underlying t=some (.interface ms)) (w:World):(Op.equal t .nilIface .nilIface).run P w = .ok true w:=by
 show (Op.equalIn (9999+1) t .nilIface .nilIface).run P w=_;generalize 9999=d;unfold Op.equalIn;simp only [Sem.run_bind,run_underlying hu,Result.andThen_ok,Sem.run_pure]
theorem zGn {op:BinOp} {t:TypeId} {x y:Operand} (h:zGB y=true):(eqGuard op t x y .nilIface .nilIface).run P w = .ok () w:=by
 cases y <;> first | cases h | skip
 unfold eqGuard;cases op <;> simp
theorem RV_ifx {u:Value} (h:RV g w .ifx u):∃ t p,u = .iface t p:=by
 obtain ⟨us,h1,h2⟩:=h;simp only [RC] at h1;obtain ⟨t,p,rfl⟩:=h1;exact ⟨t,p,h2⟩
theorem zHI:∀ {us vs:List Value},RCs g w (us.map V.at) vs->vs=us
 | [],vs,h=>by simpa [RCs] using h
 | u::r,vs,h=>by
  simp only [List.map_cons,RCs] at h;obtain ⟨u1,u2,rfl,h1,h2⟩:=h;simp only [RC] at h1;rw [h1.1,zHI h2];rfl
theorem zFJ {us vs:List Value} (hk:zA1 us vs=true) (d:Nat):∀ (fs:List Field),fs.all (zLz P us vs)=true->(Op.eqFields (d+1) us.toArray vs.toArray fs).run P w = .ok (fs.all fun f=>f.name == "_" || eqAt us[f.offset]? vs[f.offset]?) w
 | [],_=>by simp [Op.eqFields]
 | f::fs,h=>by
  simp only [List.all_cons,Bool.and_eq_true] at h;obtain ⟨h1,h2⟩:=h;have ih:=zFJ (us:=us) (vs:=vs) hk d fs h2;unfold zLz at h1;simp only [Bool.and_eq_true,Bool.not_eq_true'] at h1;obtain ⟨⟨ha,hb⟩,hc⟩:=h1;have hp:∀ (us:List Value) u,us[f.offset]? = some u->(part f.type us.toArray f.offset).run P w = .ok u w:=fun us u hu=>by
   unfold part;simp only [Sem.run_bind,zEa ha,Result.andThen_ok,hb];simp [hu]
  have key:∀ u v,us[f.offset]? = some u->vs[f.offset]? = some v->(Op.equalIn (d+1) f.type u v).run P w = .ok (eqAt us[f.offset]? vs[f.offset]?) w->(Op.eqFields (d+1) us.toArray vs.toArray (f::fs)).run P w = .ok ((f::fs).all fun f=>f.name == "_" || eqAt us[f.offset]? vs[f.offset]?) w:=fun u v hu hv he=>by
   unfold Op.eqFields;simp only [List.all_cons];split
   . rename_i hne;have e0:(f.name == "_")=false:=by simpa using hne
     simp only [Sem.run_bind,hp us u hu,hp vs v hv,Result.andThen_ok,he,e0,Bool.false_or];cases eqAt us[f.offset]? vs[f.offset]?
     . simp
     . simpa using ih
   . rename_i hne;have e0:(f.name == "_")=true:=by simpa using hne
     simpa [e0] using ih
  split at hc
  . rename_i k n k' n' k2 hu hv ht;obtain rfl:=zLm hk hu hv;refine key _ _ hu hv ?_;rw [run_equalIn_int w d f.type k k2 n n' ht,hu,hv];rfl
  . rename_i b b' hu hv ht;refine key _ _ hu hv ?_;rw [run_equalIn_bool' w d f.type b b' ht,hu,hv];rfl
  . rename_i sx sy hu hv ht;refine key _ _ hu hv ?_;rw [run_equalIn_string w d f.type sx sy ht,hu,hv];rfl
  . cases hc
theorem zUh {t:TypeId} {us vs:List Value} (h:zEQ P t us vs=true) (hk:zA1 us vs=true):(Op.equalIn 10000 t (.agg us.toArray) (.agg vs.toArray)).run P w = .ok (zEh P t us vs) w/\P.eqGuardType P.depth t=false:=by
 unfold zEQ at h;simp only [Bool.and_eq_true,Bool.not_eq_true'] at h;obtain ⟨⟨h1,h2⟩,h3⟩:=h;refine ⟨?_,h3⟩;split at h1
 . rename_i fs hu;have hf:P.fieldsOf t=fs:=by unfold Program.fieldsOf; rw [hu]
   rw [run_equalIn_struct w 9999 t _ _ (by rw [hf]; exact hu) h2];unfold zEh;rw [hf];exact zFJ hk 9998 fs.toList h1
 . cases h1
theorem zPL {op:BinOp} {t:TypeId} {x y:V} {K:V->Prop} {ox oy:Operand} (h:zBj P op t (zGB oy) x y K) {ux uy:Value} (hx:RV g w x ux) (hy:RV g w y uy) :
 ∃ v,K (.at v)/\one v=true/\((do eqGuard op t ox oy ux uy; Go.binOp op t ux uy):Sem Value).run P w = .ok v w:=by
 unfold zBj at h;split at h
 . obtain ⟨hi,h⟩:=h;obtain ⟨ms,hu⟩:=zGm hi;obtain ⟨ty,p,rfl⟩:=RV_ifx hx;have e2:=zh hy;subst e2;rcases zAG h with ⟨rfl,h⟩ | ⟨rfl,h⟩
   . exact ⟨_,h,rfl,by rw [Sem.run_bind,yu (by simp) rfl,Result.andThen_ok]; simp only [Go.binOp,Sem.run_bind,zEw hu,Result.andThen_ok,Sem.run_pure]; rfl⟩
   . exact ⟨_,h,rfl,by rw [Sem.run_bind,yu (by simp) rfl,Result.andThen_ok]; simp only [Go.binOp,Sem.run_bind,zEw hu,Result.andThen_ok,Sem.run_pure]; rfl⟩
 . obtain ⟨hi,hc,h⟩:=h;obtain ⟨ms,hu⟩:=zGm hi;have e1:=zh hx; have e2:=zh hy;subst e1; subst e2;rcases zAG h with ⟨rfl,h⟩ | ⟨rfl,h⟩
   . exact ⟨_,h,rfl,by rw [Sem.run_bind,zGn hc,Result.andThen_ok]; simp only [Go.binOp,Sem.run_bind,zCs hu,Result.andThen_ok,Sem.run_pure]; rfl⟩
   . exact ⟨_,h,rfl,by rw [Sem.run_bind,zGn hc,Result.andThen_ok]; simp only [Go.binOp,Sem.run_bind,zCs hu,Result.andThen_ok,Sem.run_pure]; rfl⟩
 . obtain ⟨us,vs,rfl,rfl,he,h⟩:=h;obtain ⟨u1,h1,rfl⟩:=zDv hx;obtain ⟨u2,h2,rfl⟩:=zDv hy;obtain rfl:=zHI h1;obtain rfl:=zHI h2;obtain ⟨e1,e2⟩:=zUh (w:=w) he.1 he.2;rcases zAG h with ⟨rfl,h⟩ | ⟨rfl,h⟩
   . exact ⟨_,h,rfl,by rw [Sem.run_bind,run_eqGuard_agg w _ _ _ _ _ _ e2,Result.andThen_ok,run_eql_struct,e1]; simp [Result.andThen]⟩
   . exact ⟨_,h,rfl,by rw [Sem.run_bind,run_eqGuard_agg w _ _ _ _ _ _ e2,Result.andThen_ok,run_neq_struct,e1]; simp [Result.andThen]⟩
 . exact zPc h hx hy ox oy
theorem zP6 {t:TypeId} {k:IntKind} (h:intT P t=some k):P.underlying t=some (.int k):=by
 unfold intT at h; split at h
 . rename_i e; injection h with h; subst h; exact e
 . cases h
theorem zHn {g:Gh} {w:World}:∀ {es:List V} {ns:List Int} {us:List Value},zAN es=some ns->RCs g w es us->us=ns.map (Value.int .u8)
 | [],_,us,h,h2=>by
  injection h with h; subst h
  simpa [RCs] using h2
 | x::r,ns,us,h,h2=>by
  simp only [RCs] at h2;obtain ⟨u1,u2,rfl,h3,h4⟩:=h2;unfold zAN at h;split at h
  . rename_i e; cases e
  . rename_i n r' e;injection e with e1 e2
    subst e1 e2;cases hb:zAN r with
    | none=>rw [hb] at h; cases h
    | some ms=>
     rw [hb] at h;injection h with h
     subst h;simp only [RC] at h3;rw [h3.1,zHn hb h4];rfl
  . cases h
theorem zMw {t:TypeId} (h:zHX P t=true):∃ e,P.underlying t=some (.slice e)/\P.underlying e=some (.int .u8):=by
 unfold zHX at h;split at h
 . rename_i e he;simp only [Bool.and_eq_true] at h;refine ⟨e,qe he,?_⟩;have:=h.1.1;split at this
   . rename_i h1; exact h1
   . cases this
 . cases h
theorem zH1:∀ {es:List V} {ns:List Int},zAN es=some ns->ns.length=es.length
 | [],ns,h=>by injection h with h; subst h; rfl
 | x::r,ns,h=>by
  unfold zAN at h;split at h
  . rename_i e; cases e
  . rename_i n r' e;injection e with e1 e2
    subst e1 e2;cases hb:zAN r with
    | none=>rw [hb] at h; cases h
    | some ms=>rw [hb] at h; injection h with h; subst h; simp [zH1 hb]
  . cases h
theorem zPX {f t:TypeId} {x:V} {K:V->Prop} (h:zEg P f t x K) {ux:Value} (hx:RV g w x ux):∃ v,K (.at v)/\one v=true/\(Go.convert f t ux).run P w = .ok v w:=by
 unfold zEg at h;split at h
 . rename_i tg es;obtain ⟨h1,h2,h⟩:=h;obtain ⟨e,hu,hue⟩:=zMw h1;have hud:=jx h2;split at h
   . rename_i ns hns;have hr:=zBI hx;simp only [RC] at hr;refine ⟨_,h,rfl,?_⟩;rcases hr with ⟨rfl,hux,_⟩ | ⟨b,o,cap,ds,hux,hc,_,hr,_,ha⟩
     . injection hux with hux _
       subst hux;injection hns with hns
       subst hns;rw [run_convert_bytes_string w f t e none 0 0 hu hue hud];rfl
     . injection hux with hux _
       subst hux;have hds:=zHn hns hr;subst hds;rw [run_convert_bytes_string w f t e _ _ _ hu hue hud];refine run_bytesToString w _ _ _ ns ?_;have hl:=run_loadCells_list (P:=P) (w:=w) ⟨b,o,none⟩ (ns.map (Value.int .u8)) (fun j v hj=>by
        have:=(ha j v hj).1;by_cases hj0:j=0
        . subst hj0; simpa [Addr.add] using this
        . simpa [Addr.add,hj0] using this)
       rw [List.length_map,zH1 hns] at hl;exact hl
   . cases h
 . have e1:=zh hx; subst e1;split at h
   . rename_i k hk;obtain ⟨h1,h⟩:=h;have hu:=zP6 hk;unfold hasT at h1;simp only [Bool.and_eq_true] at h1;obtain ⟨d,hd⟩:=Option.isSome_iff_exists.1 h1.2;refine ⟨_,h,rfl,?_⟩;unfold Go.convert;simp only [Sem.run_bind,run_underlying hd,run_underlying hu,Result.andThen_ok];rfl
   . cases h
 . have e1:=zh hx; subst e1;obtain ⟨h1,h2,h⟩:=h;have hu1:=jx h1;have hu2:=jx h2;refine ⟨_,h,rfl,?_⟩;unfold Go.convert;simp only [Sem.run_bind,run_underlying hu1,run_underlying hu2,Result.andThen_ok,Sem.run_pure]
 . cases h
theorem zRk {op:UnOp} {x:V} {K:V->Prop} (h:aUn op x K) {ux:Value} (hx:RV g w x ux):∃ v,K (.at v)/\one v=true/\(Op.unary op ux).run P w = .ok v w:=by
 unfold aUn at h;split at h
 . have e1:=zh hx; subst e1;split at h
   . exact ⟨_,h,rfl,by simp [Op.unary]⟩
   . cases h
 . have e1:=zh hx; subst e1;split at h
   . exact ⟨_,h,rfl,by simp [Op.unary,Op.intArith]⟩
   . exact ⟨_,h,rfl,by simp [Op.unary,Op.intBits,inot,ixor,ibit]⟩
   . cases h
 . cases h
theorem zKC {x:V} {i:Nat} {K:V->Prop} (h:kO x i K) {ux:Value} (hx:RV g w x ux):∃ v u,K v/\RV g w v u/\(Instr.extract ux i).run P w = .ok u w:=by
 unfold kO at h;split at h
 . rename_i vs;obtain ⟨us,h1,rfl⟩:=hx;obtain ⟨u,hu,hr⟩:=h1.get i (vs[i]'h.1) (List.getElem?_eq_getElem h.1);refine ⟨_,u,h.2,?_,?_⟩
   . have:vs.getD i .any=vs[i]'h.1:=by simp [h.1]
     rw [this]; exact RV.of_RV1 hr
   . simp [Instr.extract,hu]
 . cases h
theorem zFt {t:TypeId} {i off:Nat} {ft:TypeId} (h:fieldAt P t i=some (off,ft)):∃ fs f,P.underlying t=some (.struct fs)/\fs[i]? = some f/\f.offset=off/\f.type=ft:=by
 unfold fieldAt at h;split at h
 . rename_i fs e;cases hf:fs[i]? with
   | none=>simp [hf] at h
   | some f=>simp [hf] at h; exact ⟨fs,f,e,hf,h.1,h.2⟩
 . cases h
theorem zR8 {t:TypeId} {fs:List V} {off:Nat} {us:List Value} (ha:zH fs) (hp:yD P t fs off) (h:RCs g w fs us) :
 (part t us.toArray off).run P w = .ok (pack (yC P t fs off) ((us.drop off).take (P.cellsOf t))) w:=by
 have hp':=hp;obtain ⟨h1,h2,h3⟩:=hp;have hl:=zy g w fs us h;rw [yK ha] at hl;unfold part;simp only [Sem.run_bind,zEa h1,Result.andThen_ok];cases hb:yx P t with
 | true=>
  simp only [if_true,Sem.run_bind,yR h1,Result.andThen_ok,yC,hb,pack];simp only [List.extract_toArray,List.extract_eq_take_drop];simp
 | false=>
  simp only [Bool.false_eq_true,if_false,yC,hb];have h5:=h3 hb;obtain ⟨u,hu,hr⟩:=zNU ha h off (by omega);have hlt:off < us.length:=by omega
  have e:(us.drop off).take (P.cellsOf t)=[u]:=by
   rw [h5,List.drop_eq_getElem_cons hlt];rw [List.getElem?_eq_getElem hlt] at hu;injection hu with hu
   simp [hu]
  have hone:(fs.getD off .any).isOne=true:=by
   have hlt:off < fs.length:=by omega
   have:=List.all_eq_true.1 ha (fs[off]) (List.getElem_mem hlt);simpa [hlt] using this
  have hpk:pack (fs.getD off .any) [u]=u:=by cases hq:fs.getD off .any <;> rw [hq] at hone <;> simp [V.isOne] at hone <;> rfl
  rw [e,hpk];simp [hu]
theorem zH9 {t:TypeId} {x:V} {f:Nat} {K:V->Prop} (h:yP P t x f K) {ux:Value} (hx:RV g w x ux):∃ v u,K v/\RV g w v u/\(Instr.fieldAt t ux f).run P w = .ok u w:=by
 unfold yP at h;split at h
 . rename_i fs off ft hfa;obtain ⟨fds,fd,hu,hf,rfl,rfl⟩:=zFt hfa;obtain ⟨b,o,ds,rfl,h1,h2⟩:=zCZ hx;simp only [RC] at h1;refine ⟨_,.pointer (some ⟨b,o+fd.offset,none⟩),h.2.2.2,zCI (zIn h.1 h.2.1 h1).1 (h2.sub _ _),?_⟩;have hz:¬ P.cellsOf fd.type=0:=by have:=h.2.2.1; omega
   simp [Instr.fieldAt,run_underlying hu,hf,Instr.sureAddr,fieldPlace,yR h.2.1.1,hz,zq]
 . rename_i b o off ft hfa;obtain ⟨fds,fd,hu,hf,rfl,rfl⟩:=zFt hfa;have e1:=zh hx; subst e1;have hz:¬ P.cellsOf fd.type=0:=by have:=h.2.1; omega
   refine ⟨_,.pointer (some ⟨b,o+fd.offset,none⟩),h.2.2,RV_at_mk rfl,?_⟩;simp [Instr.fieldAt,run_underlying hu,hf,Instr.sureAddr,fieldPlace,yR h.1,hz,zq]
 . cases h
theorem zIO {t:TypeId} {x i:V} {K:V->Prop} (h:yZ P t x i K) {ux ui:Value} (hx:RV g w x ux) (hi:RV g w i ui):∃ v u,K v/\RV g w v u/\(Instr.indexAt t ux ui).run P w = .ok u w:=by
 unfold yZ at h;split at h
 . rename_i el tg es k n hel;obtain ⟨h1,h2,h3,h4⟩:=h;have hu:=qe hel;have e2:=zh hi; subst e2;have hl:=zBI hx;simp only [RC] at hl;rcases hl with ⟨rfl,_,_⟩ | ⟨b,o,cap,ds,hux,hc,ht,hr,hf,ha⟩
   . simp at h2; omega
   . injection hux with hux _
     subst hux;obtain ⟨sz,hsz,_⟩:=hf;have hn:n.toNat < es.length:=by omega
     have hszn:sz=P.cellsOf el:=by
      rw [<- h3,<- hsz (es[n.toNat]) (List.getElem_mem hn)]; simp [hn]
     refine ⟨_,.pointer (some ⟨b,o+n.toNat * sz,none⟩),h4,zCI (zK0 hsz hr n.toNat hn) (ha.sub _ _),?_⟩;simp [Instr.indexAt,asIntOf,run_underlying hu,h2,yR h1,zq,hszn]
 . rename_i el b o len cap k n hel;obtain ⟨h1,h2,h4⟩:=h;have hu:=qe hel;have e2:=zh hi; subst e2;have e1:=zh hx; subst e1;refine ⟨_,.pointer (some ⟨b,o+n.toNat * P.cellsOf el,none⟩),h4,RV_at_mk rfl,?_⟩;simp [Instr.indexAt,asIntOf,run_underlying hu,h2,yR h1,zq]
 . cases h
theorem zM6 {t:TypeId} {x i:V} {K:V->Prop} (h:kn P t x i K) {ux ui:Value} (hx:RV g w x ux) (hi:RV g w i ui):∃ v u,K v/\RV g w v u/\(Instr.index t ux ui).run P w = .ok u w:=by
 unfold kn at h;split at h
 . rename_i s k n;obtain ⟨h1,h2,h3⟩:=h;have hu:=jx h1;have e1:=zh hx; have e2:=zh hi;subst e1; subst e2;refine ⟨_,_,h3,RV_at_mk rfl,?_⟩;have hn:n.toNat < s.size:=by omega
   have hn':n.toNat < s.data.size:=hn;have:s[n.toNat]? = some (s.data.getD n.toNat 0):=by
    rw [getElem?_pos s n.toNat hn];simp only [Array.getD,hn',dif_pos];rfl
   simp only [Instr.index,asIntOf,Sem.run_bind,Sem.run_pure,Result.andThen_ok,run_underlying hu,if_pos h2.1,this]
 . rename_i fs k n;obtain ⟨h1,h2,h3,h4⟩:=h;obtain ⟨e,hu,he,hc,ha⟩:=zJj h1;have e2:=zh hi; subst e2;obtain ⟨us,q1,rfl⟩:=zDv hx;have hlen:=zy g w fs us q1;rw [yK h2] at hlen;have hn:n.toNat < us.length:=by omega
   have hnf:n.toNat < fs.length:=by omega
   have hp:yD P e fs n.toNat:=⟨he,by rw [hc]; omega,fun _=>hc⟩;obtain ⟨k1,_,_⟩:=zIn h2 hp q1;have hrun:=zR8 (w:=w) h2 hp q1;have hpv:yC P e fs n.toNat=fs.getD n.toNat .any:=by unfold yC; rw [ha]; rfl
   rw [hpv] at k1 hrun;refine ⟨_,_,h4,zG8 k1,?_⟩;simp only [Instr.index,asIntOf,Sem.run_bind,Sem.run_pure,Result.andThen_ok,run_underlying hu,if_pos h3,yR he,hc,Nat.mul_one];rw [hrun,hc]
 . cases h
theorem zRQ {t:TypeId} {x:V} {K:V->Prop} (h:aLen P t x K) {ux:Value} (hx:RV g w x ux) (rest:List TypeId) (ty:TypeId):∃ v,K (.at v)/\one v=true/\(Builtin.len_ (t::rest).toArray ty #[ux]).run P w = .ok v w:=by
 unfold aLen at h;split at h
 . rename_i tg es;obtain ⟨el,hel⟩:=Option.isSome_iff_exists.1 h.1;have hu:=qe hel;have hl:=zBI hx;simp only [RC] at hl;refine ⟨_,h.2,rfl,?_⟩;rcases hl with ⟨rfl,hux,_⟩ | ⟨b,o,cap,ds,hux,_⟩
   . injection hux with hux _
     subst hux;simp [Builtin.len_,run_underlying hu,goInt]
   . injection hux with hux _
     subst hux;simp [Builtin.len_,run_underlying hu,goInt]
 . obtain ⟨el,hel⟩:=Option.isSome_iff_exists.1 h.1;have hu:=qe hel;have e1:=zh hx; subst e1;exact ⟨_,h.2,rfl,by simp [Builtin.len_,run_underlying hu,goInt]⟩
 . have hu:=jx h.1;have e1:=zh hx; subst e1;exact ⟨_,h.2,rfl,by simp [Builtin.len_,run_underlying hu,goInt]⟩
 . cases h
theorem zJR {x:V} {K:V->Prop} (h:xF x K) {ux:Value} (hx:RV g w x ux):K x/\∃ ad,ux = .pointer (some ad):=by
 unfold xF at h;split at h
 . obtain ⟨b,o,ds,rfl,_⟩:=zCZ hx; exact ⟨h,_,rfl⟩
 . exact ⟨h,_,zh hx⟩
 . cases h
theorem jy {x:Option V} {d:Int} {K:Int->Prop} (h:jB x d K) {ux:Option Value} (hx:∀ v,x=some v->∃ u,ux=some u/\RV g w v u) (hn:x=none->ux=none) :
 ∃ n,K n/\((x=none/\ux=none/\n=d)\/∃ k,ux=some (.int k n)):=by
 unfold jB at h;split at h
 . exact ⟨_,h,.inl ⟨rfl,hn rfl,rfl⟩⟩
 . rename_i k n;obtain ⟨u,rfl,hr⟩:=hx _ rfl;exact ⟨_,h,.inr ⟨k,by rw [zh hr]⟩⟩
 . cases h
theorem kw {k:IntKind} {n:Int} {y:Nat} {c:BoundsCode} (h1:0<=n) (h2:n<=y):(Instr.sliceBound (.int k n) y c).run P w = .ok n.toNat w:=by
 simp [Instr.sliceBound,asIntOf,h1,h2]
theorem jC {isS:Bool} {len cap:Nat} {lo hi:Option Value} {l h:Int} (hl:(lo=none/\l=0)\/∃ k,lo=some (.int k l)) (hh:(hi=none/\h=len)\/∃ k,hi=some (.int k h))
 (h0:0<=l) (h1:l<=h) (h2:h<=cap):(Instr.sliceBounds isS len cap lo hi none).run P w = .ok (l.toNat,h.toNat,cap) w:=by
 unfold Instr.sliceBounds;have e:((h.toNat:Nat):Int)=h:=by omega
 rcases hh with ⟨rfl,rfl⟩ | ⟨k,rfl⟩ <;> rcases hl with ⟨rfl,rfl⟩ | ⟨k',rfl⟩
 . simp
 . simp only [Sem.run_bind,Sem.run_pure,Result.andThen_ok];rw [kw h0 h1]; simp
 . simp only [Sem.run_bind,Sem.run_pure,Result.andThen_ok];rw [kw (by omega) h2]; simp
 . simp only [Sem.run_bind,Sem.run_pure,Result.andThen_ok];rw [kw (by omega) h2];simp only [Result.andThen_ok];rw [kw h0 (by omega)]; simp
end
open Go.RowKit
section
variable {P:Program} {X:Cx} {g:Gh} {w:World} {a:Act} {o:Oper} {st:S} {K:V->S->Prop} {KP:List PanicEntry->S->Prop}
theorem one_eq (v:Value):one v=v.oneCell':=by cases v <;> rfl
end
mutual
theorem zJN (g:Gh) (w:World):∀ (x:V) (us:List Value),RC g w x us->∀ u ∈ us,u.oneCell' = true
 | .any,us,h=>by simp [RC] at h
 | .at v,us,h=>by simp only [RC] at h; obtain ⟨rfl,h1⟩:=h; intro u hu; simp at hu; subst hu; rw [<- one_eq]; exact h1
 | .agg fs,us,h=>by simp only [RC] at h; exact zBO g w fs us h
 | .tup vs,us,h=>by simp [RC] at h
 | .lst tg es,us,h=>by
  simp only [RC] at h;rcases h with ⟨_,rfl,_⟩ | ⟨b,o,cap,ds,rfl,_⟩ <;> (intro u hu; simp at hu; subst hu; rfl)
 | .rptr x,us,h=>by simp only [RC] at h; obtain ⟨b,o,ds,rfl,_⟩:=h; intro u hu; simp at hu; subst hu; rfl
 | .ifx,us,h=>by simp only [RC] at h; obtain ⟨t,p,rfl⟩:=h; intro u hu; simp at hu; subst hu; rfl
 | .clo fn caps,us,h=>by simp only [RC] at h; obtain ⟨ds,_,rfl⟩:=h; intro u hu; simp at hu; subst hu; rfl
theorem zBO (g:Gh) (w:World):∀ (xs:List V) (us:List Value),RCs g w xs us->∀ u ∈ us,u.oneCell' = true
 | [],us,h=>by simp only [RCs] at h; subst h; simp
 | x::xs,us,h=>by
  simp only [RCs] at h;obtain ⟨u1,u2,rfl,h1,h2⟩:=h;intro u hu;rcases List.mem_append.1 hu with hu | hu
  . exact zJN g w x u1 h1 u hu
  . exact zBO g w xs u2 h2 u hu
end
section
variable {P:Program} {X:Cx} {g:Gh} {w:World} {a:Act} {o:Oper} {st:S} {K:V->S->Prop} {KP:List PanicEntry->S->Prop}
theorem zIs {x:V} {u:Value} (h:RV g w x u) (h1:zH x.flat):∃ us,RCs g w x.flat us/\u.cells=us.toArray/\us.length=x.flat.length:=by
 cases x with
 | any=>simp [V.flat,zH,V.isOne] at h1
 | tup vs=>simp [V.flat,zH,V.isOne] at h1
 | agg fs=>
  obtain ⟨us,h2,rfl⟩:=zDv h;have:=zy g w fs us h2;have h1':zH fs:=h1;rw [yK h1'] at this;exact ⟨us,h2,rfl,this⟩
 | _=>
  obtain ⟨us,h2,h3⟩:=h;obtain ⟨v,rfl⟩:=zBw h2 rfl;refine ⟨[v],?_,?_,rfl⟩
  . simp only [V.flat,RCs]; exact ⟨[v],[],rfl,h2,rfl⟩
  . have hv:=zJN g w _ _ h2 v (by simp);have:u=v:=h3;subst this;cases u <;> simp [Value.oneCell'] at hv <;> rfl
theorem zEK {t:TypeId} {x:V} {K:V->Prop} (h:y6 P st t x K) (hi:Inv X.B g st w) {ux:Value} (hx:RV g w x ux):∃ v u,K v/\RV g w v u/\(Instr.loadAt t ux).run P w = .ok u w:=by
 unfold y6 at h;split at h
 . obtain ⟨b,o,ds,rfl,h1,h2⟩:=zCZ hx;refine ⟨_,_,h.2,zG8 (zEL g w _ _ h1),?_⟩;simp only [Instr.loadAt,Instr.sureAddr,Sem.run_bind,Sem.run_pure,Result.andThen_ok];exact zFP h.1 h1 fun k u hk=>(h2 k u hk).1
 . rename_i b o;have e1:=zh hx; subst e1;split at h
   . rename_i cs k hl;obtain ⟨p1,p2,p3,p4,arr,el,us,p5,p6,p7,p8⟩:=hi.box b cs k hl;have hone:zH cs:=by unfold zH; rw [List.all_eq_true]; exact p4
     obtain ⟨q1,q2,q3⟩:=zIn hone h.1 p7;refine ⟨_,_,h.2,zG8 q1,?_⟩;simp only [Instr.loadAt,Instr.sureAddr,Sem.run_bind,Sem.run_pure,Result.andThen_ok];refine zFP ⟨h.1.1,q3,q2⟩ q1 fun j u hj=>?_;rw [List.getElem?_take] at hj;split at hj
     . rw [List.getElem?_drop,<- p8,List.getElem?_take] at hj;split at hj
       . rw [cell_of_row w b _ arr el (0,0) p5]; simpa using hj
       . cases hj
     . cases hj
   . cases h
 . cases h
theorem qG {fs:List V} (h:zH fs):∀ c ∈ fs,c.isOne=true:=List.all_eq_true.1 h
theorem zM0 {t:TypeId} {x y:V} {K:S->Prop} (h:qF P st t x y K) (hi:Inv X.B g st w) {ux uy:Value} (hx:RV g w x ux) (hy:RV g w y uy) :
 ∃ st' w',K st'/\Out X.B g w g st' w'/\(Instr.storeAt t ux uy).run P w = .ok () w':=by
 unfold qF at h;split at h
 . rename_i b o;have e1:=zh hx; subst e1;split at h
   . rename_i cs k hl;obtain ⟨h1,h2,h3,h4,h5⟩:=h;obtain ⟨p1,p2,p3,p4,arr,el,us,p5,p6,p7,p8⟩:=hi.box b cs k hl;have hone:zH cs:=by unfold zH; rw [List.all_eq_true]; exact p4
     have hl':=zy g w cs us p7;rw [yK hone] at hl';obtain ⟨vs,q1,q2,q3⟩:=zIs hy h3;have hst:=run_storeCells_at (P:=P) b o el vs 0 arr w p5 (by omega) (zBO g w _ _ q1);simp only [Nat.add_zero] at hst;have hrow:(us.take o++vs++us.drop (o+vs.length))=((arr.toList.take o++vs++arr.toList.drop (o+vs.length))).take (spl cs o y.flat).length:=by
      have e3:(spl cs o y.flat).length=cs.length:=by simp [spl]; omega
      rw [e3,<- p8];apply List.ext_getElem?;intro j;simp only [List.getElem?_append,List.getElem?_take,List.getElem?_drop,List.length_append,List.length_take,Array.length_toList];have m1:min o (min cs.length arr.size)=o:=by omega
      have m2:min o arr.size=o:=by omega
      rw [m1,m2];by_cases j1:j < o
      . simp [j1,show j < o+vs.length by omega,show j < cs.length by omega]
      . by_cases j2:j < o+vs.length
        . simp [j1,j2,show j < cs.length by omega]
        . by_cases j3:j < cs.length
          . simp [j1,j2,j3,show o+vs.length+(j - (o+vs.length)) < cs.length by omega]
          . simp [j1,j2,j3,show ¬ (o+vs.length+(j - (o+vs.length)) < cs.length) by omega]
     refine ⟨_,w.setRow b (arr.toList.take o++vs++arr.toList.drop (o+vs.length)).toArray,h5,?_,?_⟩
     . refine zEX hi hl p5 _ (by simp; omega) _ (us.take o++vs++us.drop (o+vs.length)) (by simp [spl]; omega) ?_ ?_ (by simpa using hrow.symm)
       . intro c hc;simp only [spl,List.mem_append] at hc;rcases hc with (hc | hc) | hc
         . exact p4 c (List.mem_of_mem_take hc)
         . exact qG h3 c hc
         . exact p4 c (List.mem_of_mem_drop hc)
       . unfold spl;rw [<- q3];exact qI (qI (yL hone p7 o).1 q1) (yL hone p7 _).2
     . have hcs:uy.cells.size=P.cellsOf t:=by rw [q2]; simpa using q3.trans h2
       have hcl:uy.cells.toList=vs:=by rw [q2]
       simp only [Instr.storeAt,Instr.sureAddr,storeVar,Sem.run_bind,Sem.run_pure,Result.andThen_ok,yR h1,hcs,ne_eq,not_true_eq_false,if_false,hcl];exact hst
   . cases h
 . cases h
theorem zJz {cs:List V} (h:aNew st cs K) (hi:Inv X.B g st w) {us:List Value} (hr:RCs g w cs us) (el:TypeId) :
 ∃ v u g' st',K v st'/\Out X.B g w g' st' (w.alloc (.cells us.toArray el))/\RV g' (w.alloc (.cells us.toArray el)) v u/\u = .pointer (some ⟨w.heap.size,0,none⟩):=by
 obtain ⟨h1,h2⟩:=h;have hl:=zy g w cs us hr;rw [yK h1] at hl;have hfree:look st.box w.heap.size=none:=by
  cases hq:look st.box w.heap.size with
  | none=>rfl
  | some p=>
   obtain ⟨c,k⟩:=p;obtain ⟨_,_,_,_,arr,el,us,p5,_⟩:=hi.box _ c k hq;have:=(Array.getElem?_eq_some_iff.1 p5).1;omega
 have ho:=zAn hi us.toArray el 0;refine ⟨_,_,_,_,h2 _ hfree,⟨ho.step,?_⟩,RV_at_mk rfl,rfl⟩;have:=ho.inv.addBox (b:=w.heap.size) (arr:=us.toArray) (el:=el) (cs:=cs) (us:=us) hi.base (if_pos rfl) (kR w _) (by simp; omega) (qG h1) (zg ho.step.later _ _ hr)
  (by simp only [<- hl]; exact List.take_length) (fun t ht d hd=>by
   obtain ⟨x1,x2,x3⟩:=d;obtain ⟨_,_,_,_,_,arr,el,p5,_⟩:=hi.own t ht _ x1 x2 x3 hd;have:=(Array.getElem?_eq_some_iff.1 p5).1;omega) hi.newFr hi.newOb
 simpa [hl] using this
theorem zA7 {t:TypeId} {cs:List V} (h:yN P t=some cs):∃ z,kZ P t=some z/\RCs g w cs z.cells.toList/\cs.length=z.cells.size:=by
 unfold yN at h;cases hz:kZ P t with
 | none=>simp [hz] at h
 | some z=>
  simp only [hz,Option.bind_some] at h;split at h
  . rename_i ho;injection h with h
    subst h;exact ⟨z,rfl,zEE g w _ ho,by simp⟩
  . cases h
theorem jO {t:TypeId} {z:Value} (h:kZ P t=some z):∃ i,P.info? t=some i/\i.zero=some z:=by
 unfold kZ at h;cases hi:P.info? t with
 | none=>simp [hi] at h
 | some i=>simp [hi] at h; exact ⟨i,rfl,h⟩
theorem zNA {t:TypeId} (h:jZ P st t K) (hi:Inv X.B g st w) (old:Value) :
 ∃ v u g' st' w',K v st'/\Out X.B g w g' st' w'/\RV g' w' v u/\(Instr.alloc t true old).run P w = .ok u w':=by
 unfold jZ at h;split at h
 . rename_i cs hz;obtain ⟨z,hz',hr,_⟩:=zA7 (g:=g) (w:=w) hz;obtain ⟨i,hi1,hi2⟩:=jO hz';obtain ⟨v,u,g',st',q1,q2,q3,q4⟩:=zJz (X:=X) h hi hr t;refine ⟨v,u,g',st',_,q1,q2,q3,?_⟩;subst q4;simp [Instr.alloc,zeroValue,typeInfo,hi1,hi2,newVar,newRow]
 . cases h
theorem zRC {t:TypeId} {x:V} (h:aNew st x.flat K) (hi:Inv X.B g st w) {ux:Value} (hx:RV g w x ux) :
 ∃ v u g' st' w',K v st'/\Out X.B g w g' st' w'/\RV g' w' v u/\(Instr.box t ux).run P w = .ok u w':=by
 obtain ⟨us,h1,h2,h3⟩:=zIs hx h.1;obtain ⟨v,u,g',st',q1,q2,q3,q4⟩:=zJz (X:=X) h hi h1 t;refine ⟨v,u,g',st',_,q1,q2,q3,?_⟩;subst q4;simp [Instr.box,newVar,newRow,h2]
theorem zC2 (vs:List Value):∀ (off:Nat) (k:Nat) (cells:Array Value),off+k+vs.length<=cells.size ->
 ((vs.zipIdx k).foldl (fun cs (c,j)=>cs.setIfInBounds (off+j) c) cells).toList=cells.toList.take (off+k)++vs++cells.toList.drop (off+k+vs.length):=by
 induction vs with
 | nil=>intro off k cells h; simp
 | cons v vs ih=>
  intro off k cells h;simp only [List.zipIdx_cons,List.foldl_cons,List.length_cons] at h ⊢;rw [ih off (k+1) _ (by simp; omega)];apply List.ext_getElem?;intro j;simp only [Array.toList_setIfInBounds,List.getElem?_append,List.length_append,List.length_take,List.getElem?_take,List.getElem?_drop,List.getElem?_set,Array.length_toList,List.length_set,List.length_cons];have m1:min (off+(k+1)) cells.size=off+(k+1):=by omega
  have m2:min (off+k) cells.size=off+k:=by omega
  rw [m1,m2];by_cases j1:j < off+k
  . simp [j1,show j < off+(k+1) by omega,show j < off+(k+1)+vs.length by omega,show off+k≠j by omega,show j < off+k+(vs.length+1) by omega]
  . by_cases j2:j=off+k
    . subst j2;simp [show off+k < off+(k+1) by omega,show off+k < off+(k+1)+vs.length by omega,show off+k < cells.size by omega]
    . by_cases j3:j < off+(k+1)+vs.length
      . have e:j - (off+k)=(j - (off+(k+1)))+1:=by omega
        simp [j1,j3,show ¬ j < off+(k+1) by omega,e,show j < off+k+(vs.length+1) by omega]
      . simp [j1,j3,show ¬ j < off+(k+1) by omega,show ¬ j < off+k+(vs.length+1) by omega,show off+k≠off+(k+1)+vs.length+(j - (off+(k+1)+vs.length)) by omega];congr 1;omega
inductive Parts (g:Gh) (w:World):List (Nat×V)->List (Nat×Value)->Prop where
 | nil:Parts g w [] []
 | cons {i x u ps qs} (h:RV g w x u) (hs:Parts g w ps qs):Parts g w ((i,x)::ps) ((i,u)::qs)
theorem zHe {place:Nat->Option (Nat×Nat)}:∀ {ps:List (Nat×V)} {qs:List (Nat×Value)} (_:Parts g w ps qs) {cells:List V} {us:List Value} {cs':List V} (_:zH cells) (_:RCs g w cells us)
 (_:zA5 place cells ps=some cs'),∃ us',Instr.fill place us.toArray qs=some us'.toArray/\RCs g w cs' us'/\zH cs':=by
 intro ps qs hp
 induction hp with
 | nil=>
  intro cells us cs' h1 h2 h3;simp only [zA5] at h3;injection h3 with h3
  subst h3;exact ⟨us,rfl,h2,h1⟩
 | @cons i x u ps qs h hs ih=>
  intro cells us cs' h1 h2 h3;simp only [zA5] at h3;cases hpl:place i with
  | none=>rw [hpl] at h3; cases h3
  | some p=>
   obtain ⟨off,size⟩:=p;simp only [hpl] at h3;split at h3
   . rename_i hc;obtain ⟨c1,c2,c3⟩:=hc;obtain ⟨vs,q1,q2,q3⟩:=zIs h c3;have hl:=zy g w cells us h2;rw [yK h1] at hl;have hone:zH (spl cells off x.flat):=by
      unfold zH spl;rw [List.all_eq_true];intro c hc;simp only [List.mem_append] at hc;rcases hc with (hc | hc) | hc
      . exact qG h1 c (List.mem_of_mem_take hc)
      . exact qG c3 c hc
      . exact qG h1 c (List.mem_of_mem_drop hc)
     have hr:RCs g w (spl cells off x.flat) (us.take off++vs++us.drop (off+vs.length)):=by
      unfold spl;rw [<- q3];exact qI (qI (yL h1 h2 off).1 q1) (yL h1 h2 _).2
     obtain ⟨us',r1,r2,r3⟩:=ih hone hr h3;refine ⟨us',?_,r2,r3⟩;simp only [Instr.fill,hpl,q2];have hb:(decide (vs.toArray.size≠size) || decide (off+vs.toArray.size > us.toArray.size))=false:=by simp; omega
     have hz:=zC2 vs off 0 us.toArray (by simp; omega);simp only [Nat.add_zero] at hz;simp only [hb,Bool.false_eq_true,if_false];rw [<- r1];congr 1;apply Array.ext';rw [<- hz];simp
   . cases h3
end
open Go.RowKit
section
variable {P:Program} {X:Cx} {g:Gh} {w:World} {a:Act} {o:Oper} {st:S} {K:V->S->Prop} {KP:List PanicEntry->S->Prop}
theorem zMA {α β:Type} (f:α->Option β) (h:α->β):∀ (l:List α),(∀ x ∈ l,f x=some (h x))->l.mapM f=some (l.map h)
 | [],_=>rfl
 | x::r,hx=>by
  simp only [List.mapM_cons,hx x (by simp),zMA f h r fun y hy=>hx y (by simp [hy])];rfl
theorem zMu {t:TypeId} {ps:List (Nat×V)} {qs:List (Nat×Value)} {K:V->Prop} (h:zEB P t ps K) (hp:Parts g w ps qs) :
 ∃ v u,K v/\RV g w v u/\(Instr.build t qs.toArray).run P w = .ok u w:=by
 obtain ⟨h1,h⟩:=h;split at h
 . rename_i cs hz;split at h
   . rename_i cs' hf;obtain ⟨z,hz',hr,hl⟩:=zA7 (g:=g) (w:=w) hz;obtain ⟨i,hi1,hi2⟩:=jO hz';have hone:zH cs:=by
      unfold yN at hz;rw [hz'] at hz;simp only [Option.bind_some] at hz;split at hz
      . rename_i ho;injection hz with hz
        subst hz;unfold zH;rw [List.all_eq_true];intro c hc;obtain ⟨v,hv,rfl⟩:=List.mem_map.1 hc;have:=List.all_eq_true.1 ho v hv;cases v <;> simp [one] at this <;> first | rfl | (unfold cV1; split <;> first | rfl | simp_all)
      . cases hz
     obtain ⟨us',q1,q2,q3⟩:=zHe hp hone hr hf;refine ⟨_,.agg us'.toArray,h,zE8 q2,?_⟩;refine run_build w t qs.toArray us'.toArray ?_;unfold zDI at h1;split at h1
     . rename_i fds hu;have hm:fds.toList.mapM (fun f=>(P.info? f.type).map fun i=>(f.offset,i.size))=some (fds.toList.map fun f=>(f.offset,P.cellsOf f.type)):=
        zMA _ _ _ fun f hf=>by
         obtain ⟨j,hj,hs,_⟩:=zFZ (List.all_eq_true.1 h1 f hf);simp [hj,hs]
       unfold Program.built;simp only [hi1,hu,hi2,hm];have hpl:(fun i=>(fds.toList.map fun f=>(f.offset,P.cellsOf f.type)).toArray[i]?)=zBa P t:=by
        funext j
        unfold zBa fieldAt;simp only [hu];cases hj:fds[j]? with
        | none=>simp [hj]
        | some f=>
         have hfm:hasT P f.type=true:=List.all_eq_true.1 h1 f (by simpa using Array.mem_of_getElem? hj);simp [hj,hfm]
       rw [hpl];simpa using q1
     . cases h1
   . cases h
 . cases h
theorem zJy {pl pl':Nat->Option (Nat×Nat)} (h:∀ i x,pl i=some x->pl' i=some x):∀ {l:List (Nat×Value)} {cells r:Array Value},Instr.fill pl cells l=some r->Instr.fill pl' cells l=some r
 | [],_,_,h1=>h1
 | (i,v)::rest,cells,r,h1=>by
  unfold Instr.fill at h1 ⊢;split at h1
  . cases h1
  . rename_i off size hp;rw [h _ _ hp];simp only;split at h1
    . cases h1
    . rename_i hc;rw [if_neg hc];exact zJy h h1
theorem zLd {t:TypeId} {ps:List (Nat×V)} {qs:List (Nat×Value)} {K:V->Prop} (h:zJA P t ps K) (hp:Parts g w ps qs) :
 ∃ v u,K v/\RV g w v u/\(Instr.build t qs.toArray).run P w = .ok u w:=by
 obtain ⟨h0,h1,h⟩:=h;split at h
 . rename_i cs hz;split at h
   . rename_i cs' hf;obtain ⟨z,hz',hr,hl⟩:=zA7 (g:=g) (w:=w) hz;obtain ⟨i,hi1,hi2⟩:=jO hz';have hone:zH cs:=by
      unfold yN at hz;rw [hz'] at hz;simp only [Option.bind_some] at hz;split at hz
      . rename_i ho;injection hz with hz
        subst hz;unfold zH;rw [List.all_eq_true];intro c hc;obtain ⟨v,hv,rfl⟩:=List.mem_map.1 hc;have:=List.all_eq_true.1 ho v hv;cases v <;> simp [one] at this <;> first | rfl | (unfold cV1; split <;> first | rfl | simp_all)
      . cases hz
     obtain ⟨us',q1,q2,q3⟩:=zHe hp hone hr hf;refine ⟨_,.agg us'.toArray,h,zE8 q2,?_⟩;refine run_build w t qs.toArray us'.toArray ?_;unfold zEk at h0 h1;split at h0
     . rename_i n e hu;rw [hu] at h1;simp only at h1;have hhe:hasT P e=true:=by
        cases n with
        | zero=>simp at h0
        | succ n=>simpa [List.range_succ_eq_map] using h1
       obtain ⟨j,hj,hs,_⟩:=zFZ hhe;unfold Program.built;simp only [hi1,hu,hi2,hj];refine zJy (fun i x hx=>?_) q1;unfold zHw zEk at hx;rw [hu] at hx;simp only at hx;rw [List.getElem?_map] at hx;cases hr2:(List.range n)[i]? with
       | none=>rw [hr2] at hx; cases hx
       | some m=>
        rw [hr2] at hx;have hm:m=i:=by
         have:=List.getElem?_eq_some_iff.1 hr2;obtain ⟨hh,hv⟩:=this;rw [List.getElem_range] at hv;exact hv.symm
        subst hm;simp only [Option.map_some,Option.bind_some,hhe,if_true] at hx;rw [hs]; exact hx
     . exact absurd rfl h0
   . cases h
 . cases h
theorem zKr {t:TypeId} {ps:List (Nat×V)} {qs:List (Nat×Value)} {K:V->Prop} (h:zCc P t ps K) (hp:Parts g w ps qs) :
 ∃ v u,K v/\RV g w v u/\(Instr.build t qs.toArray).run P w = .ok u w:=by
 rcases h with h | h
 . exact zMu h hp
 . exact zLd h hp
theorem zCm {x:V} {u:Value} (h:RV g w x u) (h1:zH x.flat):∃ us,RC g w x us/\u.cells=us.toArray/\u=pack x us:=by
 cases x with
 | any=>simp [V.flat,zH,V.isOne] at h1
 | tup vs=>simp [V.flat,zH,V.isOne] at h1
 | agg fs=>
  obtain ⟨us,h2,rfl⟩:=zDv h;exact ⟨us,by simp only [RC]; exact h2,rfl,rfl⟩
 | _=>
  obtain ⟨us,h2,h3⟩:=h;obtain ⟨v,rfl⟩:=zBw h2 rfl;refine ⟨[v],h2,?_,h3⟩;have hv:=zJN g w _ _ h2 v (by simp);have:u=v:=h3;subst this;cases u <;> simp [Value.oneCell'] at hv <;> rfl
theorem zP4:∀ {ps:List (Nat×V)} {qs:List (Nat×Value)} (_:Parts g w ps qs) (_:∀ p ∈ ps,zH p.2.flat) {sz:Nat} (_:yo sz (ps.map (·.2))) (k:Nat) (_:jV k ps=true),
 ∃ us,RCs g w (ps.map (·.2)) us/\us.length=ps.length * sz /\ 
  ∀ (cells:Array Value),k * sz+us.length<=cells.size -> 
   Instr.fill (fun i=>some (i * sz,sz)) cells qs=some (cells.toList.take (k * sz)++us++cells.toList.drop (k * sz+us.length)).toArray:=by
 intro ps qs hp
 induction hp with
 | nil=>
  intro _ sz _ k _;refine ⟨[],by simp [RCs],by simp,fun cells _=>?_⟩;simp [Instr.fill]
 | @cons i x u ps qs h hs ih=>
  intro h1 sz h2 k hk;simp only [jV,Bool.and_eq_true,beq_iff_eq] at hk;obtain ⟨rfl,hk⟩:=hk;obtain ⟨us,q1,q2,q3⟩:=ih (fun p hp=>h1 p (by simp [hp])) (fun y hy=>h2 y (by simp only [List.map_cons,List.mem_cons]; exact .inr hy)) (i+1) hk;obtain ⟨vs,r1,r2,r3⟩:=zCm h (h1 (i,x) (by simp));have hvl:vs.length=sz:=by
   rw [qN _ _ _ _ r1];exact h2 _ (by simp)
  refine ⟨vs++us,?_,?_,fun cells hc=>?_⟩
  . simp only [List.map_cons,RCs]; exact ⟨vs,us,rfl,r1,q1⟩
  . simp only [List.length_append,List.length_cons,q2,hvl,Nat.add_mul,Nat.one_mul]; omega
  . simp only [List.length_append] at hc ⊢;simp only [Instr.fill,r2];have hb:(decide (vs.toArray.size≠sz) || decide (i * sz+vs.toArray.size > cells.size))=false:=by simp; omega
    simp only [hb,Bool.false_eq_true,if_false];have hz:=zC2 vs (i * sz) 0 cells (by omega);simp only [Nat.add_zero] at hz;have hzz:(List.foldl (fun cs x=>cs.setIfInBounds (i * sz+x.snd) x.fst) cells (vs.zipIdx 0)).size=cells.size:=by
     rw [<- Array.length_toList,hz]; simp; omega
    have:=q3 ((vs.toArray.zipIdx 0).foldl (fun cs (c,j)=>cs.setIfInBounds (i * sz+j) c) cells) (by simp [hzz]; rw [Nat.add_mul]; omega);rw [this];congr 2;have hz':((vs.toArray.zipIdx 0).foldl (fun cs (c,j)=>cs.setIfInBounds (i * sz+j) c) cells).toList=cells.toList.take (i * sz)++vs++cells.toList.drop (i * sz+vs.length):=by
     rw [<- hz]; simp
    rw [hz',Nat.add_mul,Nat.one_mul];apply List.ext_getElem?;intro j;simp only [List.getElem?_append,List.length_append,List.length_take,List.getElem?_take,List.getElem?_drop,Array.length_toList];have m1:min (i * sz) cells.size=i * sz:=by omega
    simp only [m1,hvl];have m2:min (i * sz+sz) (i * sz+sz+(cells.size - (i * sz+sz)))=i * sz+sz:=by omega
    simp only [List.length_drop,Array.length_toList,m2];by_cases j1:j < i * sz
    . simp [j1,show j < i * sz+sz by omega,show j < i * sz+sz+us.length by omega,show j < i * sz+(sz+us.length) by omega]
    . by_cases j2:j < i * sz+sz
      . simp [j1,j2,show j < i * sz+sz+us.length by omega,show j < i * sz+(sz+us.length) by omega,show j - i * sz < sz by omega]
      . by_cases j3:j < i * sz+sz+us.length
        . simp [j1,j2,j3,show j < i * sz+(sz+us.length) by omega,show ¬ (j - i * sz < sz) by omega];congr 1; omega
        . simp [j1,j2,j3,show ¬ (j < i * sz+(sz+us.length)) by omega,show ¬ (i * sz+sz+us.length+(j - (i * sz+sz+us.length)) < i * sz) by omega,show ¬ (i * sz+sz+us.length+(j - (i * sz+sz+us.length)) < i * sz+sz) by omega];congr 1; omega
theorem zGi (x:V):(zn x).size=x.size:=by
 cases x with
 | lst tg es=>cases tg <;> rfl
 | _=>rfl
theorem zFq:∀ xs:List V,jS (xs.map zn)=jS xs
 | []=>rfl
 | x::xs=>by simp [jS,zGi,zFq xs]
theorem zPD (x:V):x.untag.size=x.size:=by
 cases x with
 | agg fs=>simp only [V.untag,V.size]; exact zFq fs
 | lst tg es=>exact zGi (.lst tg es)
 | any=>rfl
 | _=>rfl
theorem zAE:∀ {xs:List V} {us:List Value},RCs g w xs us->(∀ x ∈ xs,zH x.flat)->RCs g.bare w (xs.map V.untag) us
 | [],us,h,_=>h
 | x::xs,us,h,h1=>by
  simp only [RCs,List.map_cons] at h ⊢;obtain ⟨u1,u2,rfl,h2,h3⟩:=h;exact ⟨u1,u2,rfl,zAY h2 (h1 x (by simp)),zAE h3 fun y hy=>h1 y (by simp [hy])⟩
end
end Go.Al
end
section
namespace Go.Al
open Go.RowKit
section
variable {P:Program} {X:Cx} {g:Gh} {w:World} {a:Act} {o:Oper} {st:S} {K:V->S->Prop} {KP:List PanicEntry->S->Prop}
theorem zTT {x:V} {us:List Value} (h:RC g w x us):RCs g w x.flat us:=by
 cases x with
 | any=>simp [RC] at h
 | tup vs=>simp [RC] at h
 | agg fs=>simpa only [RC,V.flat] using h
 | _=>simp only [V.flat,RCs]; exact ⟨us,[],by simp,h,rfl⟩
theorem zBo:∀ {es:List V} {ds:List Value},RCs g w es ds->RCs g w (zX es) ds
 | [],ds,h=>h
 | x::xs,ds,h=>by
  simp only [RCs] at h;obtain ⟨u1,u2,rfl,h1,h2⟩:=h;exact qI (zTT h1) (zBo h2)
theorem xq {sz:Nat} {es:List V} {ds:List Value} (h:yo sz es) (hr:RCs g w es ds):ds.length=es.length * sz:=by
 rw [zy g w es ds hr];clear hr
 induction es with
 | nil=>simp [jS]
 | cons x xs ih=>
  simp only [jS,List.length_cons,h x (by simp),ih fun y hy=>h y (by simp [hy]),Nat.add_mul,Nat.one_mul];omega
theorem zA2 (hi:Inv X.B g st w):look st.box w.heap.size=none:=by
 cases hq:look st.box w.heap.size with
 | none=>rfl
 | some p=>
  obtain ⟨c,k⟩:=p;obtain ⟨_,_,_,_,arr,el,us,p5,_⟩:=hi.box _ c k hq;have:=(Array.getElem?_eq_some_iff.1 p5).1;omega
theorem zB0 (hi:Inv X.B g st w):∀ t ∈ st.tg,∀ d,g.tb t=some (some (w.heap.size,d))->False:=fun t ht d hd=>by
 obtain ⟨x1,x2,x3⟩:=d;obtain ⟨_,_,_,_,_,arr,el,p5,_⟩:=hi.own t ht _ x1 x2 x3 hd;have:=(Array.getElem?_eq_some_iff.1 p5).1;omega
theorem Inv.boxFr {B:Nat} (hi:Inv B g st w) {b:Nat} {c:List V×Nat} (hl:look st.box b=some c):g.fr b=false/\∀ b' o fp,zN st.ob b' = some (o,fp)->b ∉ fp:=by
 refine ⟨?_,fun b' o fp h1 h2=>?_⟩
 . cases e:g.fr b with
   | false=>rfl
   | true=>have:=(hi.ex.frz b e).2.1; rw [hl] at this; cases this
 . have:=((hi.ex.ob b' o fp h1).2.2 b h2).2.2.2.1;rw [hl] at this; cases this
theorem Inv.rowFr {B:Nat} (hi:Inv B g st w) {t b:Nat} {d:Nat×Nat×Nat} (ht:t ∈ st.tg) (hb:g.tb t=some (some (b,d))):g.fr b=false/\∀ b' o fp,zN st.ob b' = some (o,fp)->b ∉ fp:=by
 refine ⟨?_,fun b' o fp h1 h2=>((hi.ex.ob b' o fp h1).2.2 b h2).2.2.2.2.1 t ht d hb⟩;cases e:g.fr b with
 | false=>rfl
 | true=>exact ((hi.ex.frz b e).2.2 t ht d hb).elim
theorem new_no (hi:Inv X.B g st w) {es:List V} {us:List Value} {sz:Nat} (hs:yo sz es) (hr:RCs g.bare w es us) (el:TypeId) (extra:List Value) (cap:Nat) (hc:es.length<=cap) :
 ∃ g',Out X.B g w g' st (w.alloc (.cells (us++extra).toArray el))/\RV g' (w.alloc (.cells (us++extra).toArray el)) (.lst .no es) (.slice (some ⟨w.heap.size,0,none⟩) es.length cap):=by
 have ho:=zAn hi (us++extra).toArray el us.length;refine ⟨_,ho,xU ?_⟩;simp only [RC];refine .inr ⟨w.heap.size,0,cap,us,rfl,hc,trivial,zg ho.step.later.bare _ _ hr,⟨sz,hs,fun _ _ _ e=>by cases e⟩,?_⟩;exact zMC (w:=w) (us++extra).toArray el us us.length (Nat.le_refl _) (by simp)
theorem zJL (hi:Inv X.B g st w) {es:List V} {us:List Value} {sz:Nat} (hs:yo sz es) (hr:RCs g.bare w es us) (el:TypeId) (extra:List Value) (cap:Nat) (hc:es.length<=cap) (hm:cap<=maxLen)
 (hx:us.length+extra.length=cap * sz) (nb:Bool) (hnb:nb=true->es.length≠0) :
 ∃ g',Out X.B g w g' ⟨st.box,st.nx::st.tg,st.nx+1,st.ob⟩ (w.alloc (.cells (us++extra).toArray el)) /\
  RV g' (w.alloc (.cells (us++extra).toArray el)) (.lst (.own st.nx nb sz) es) (.slice (some ⟨w.heap.size,0,none⟩) es.length cap):=by
 have hul:=xq hs hr;have ho:=zAn hi (us++extra).toArray el us.length;obtain ⟨i2,l2⟩:=ho.inv.addTag rfl (some (w.heap.size,cap,es.length,sz)) (fun b c n s e=>by
  injection e with e; injection e with e1 e; injection e with e2 e; injection e with e3 e4
  subst e1; subst e2; subst e3; subst e4;exact ⟨hi.base,by simp [hul],hc,hm,zA2 hi,⟨_,el,kR w _,by simp; omega⟩,fun t ht x hx=>zB0 hi t ht x hx,hi.newFr,hi.newOb⟩)
 refine ⟨_,⟨ho.step.trans ⟨l2,.refl _ _,fun _ _=>⟨rfl,rfl⟩,fun _ _=>rfl,rfl⟩,i2⟩,xU ?_⟩;simp only [RC];refine .inr ⟨w.heap.size,0,cap,us,rfl,hc,⟨if_pos rfl,rfl,hnb⟩,zg (ho.step.later.trans l2).bare _ _ hr,⟨sz,hs,fun _ _ _ e=>by cases e; exact .inl rfl⟩,?_⟩;exact zMC (w:=w) (us++extra).toArray el us us.length (Nat.le_refl _) (by simp)
theorem zUo (hi:Inv X.B g st w) {es:List V} {us:List Value} (hr:RCs g.bare w es us) (h1:zH (zX es)) (el:TypeId) (extra:List Value) (k:Nat) (hk:us.length+extra.length=k) :
 ∃ g',Out X.B g w g' ⟨lay st.box w.heap.size (zX es,k),st.tg,st.nx,st.ob⟩ (w.alloc (.cells (us++extra).toArray el)):=by
 have hrf:=zBo (kv g w _ _ hr);have hl:=zy g w _ _ hrf;rw [yK h1] at hl;have ho:=zAn hi (us++extra).toArray el 0;refine ⟨_,⟨ho.step,?_⟩⟩;have:=ho.inv.addBox (b:=w.heap.size) (arr:=(us++extra).toArray) (el:=el) (cs:=zX es) (us:=us) hi.base (if_pos rfl) (kR w _) (by simp; omega) (qG h1)
  (zg ho.step.later _ _ hrf) (by simp [<- hl]) (by intro t ht d hd; exact zB0 hi t ht d hd) hi.newFr hi.newOb
 have e:(us++extra).toArray.size=k:=by simp; omega
 rw [e] at this;exact this
theorem zS8 (hi:Inv X.B g st w) {es:List V} {us:List Value} (hr:RCs g w es us) (h1:zH (zX es)) (el:TypeId) (extra:List Value) (k:Nat) (hk:us.length+extra.length=k) :
 ∃ g',Out X.B g w g' ⟨lay st.box w.heap.size (zX es,k),st.tg,st.nx,st.ob⟩ (w.alloc (.cells (us++extra).toArray el)):=by
 have hrf:=zBo hr;have hl:=zy g w _ _ hrf;rw [yK h1] at hl;have ho:=zAn hi (us++extra).toArray el 0;refine ⟨_,⟨ho.step,?_⟩⟩;have:=ho.inv.addBox (b:=w.heap.size) (arr:=(us++extra).toArray) (el:=el) (cs:=zX es) (us:=us) hi.base (if_pos rfl) (kR w _) (by simp; omega) (qG h1)
  (zg ho.step.later _ _ hrf) (by simp [<- hl]) (by intro t ht d hd; exact zB0 hi t ht d hd) hi.newFr hi.newOb
 have e:(us++extra).toArray.size=k:=by simp; omega
 rw [e] at this;exact this
theorem zJY {el:TypeId} (h:(yN P el).map List.length=some (P.cellsOf el)):∃ z,kZ P el=some z/\z.cells.size=P.cellsOf el:=by
 cases hz:yN P el with
 | none=>simp [hz] at h
 | some cs=>
  obtain ⟨z,h1,_,h3⟩:=zA7 (g:=⟨fun _=>0,fun _=>none,Fr.no⟩) (w:=default) hz;simp [hz] at h;exact ⟨z,h1,by omega⟩
theorem zHM {L:Pol} {dst:Option Nat} {t:TypeId} {n:Nat} {ps:List (Nat×V)} {qs:List (Nat×Value)} (h:yJ P L dst st t n ps K) (hi:Inv X.B g st w) (hp:Parts g w ps qs) :
 ∃ v u g' st' w',K v st'/\Out X.B g w g' st' w'/\RV g' w' v u/\(Instr.buildSlice t n qs.toArray).run P w = .ok u w':=by
 unfold yJ at h;split at h
 . cases h
 . rename_i el hel;obtain ⟨h1,h2,h3,h4,h5,h6,h7,h8,h9,h10⟩:=h;have hu:=qe hel;obtain ⟨z,hz,hzs⟩:=zJY h3;obtain ⟨i,hi1,hi2⟩:=jO hz;have h8r:yo (P.cellsOf el) (ps.map (·.2)):=fun x hx=>by
    obtain ⟨p,hp1,rfl⟩:=List.mem_map.1 hx;rw [<- zPD];exact h8 _ (List.mem_map.2 ⟨p,hp1,rfl⟩)
   obtain ⟨us,q0,q2,q3⟩:=zP4 hp (fun p hp=>List.all_eq_true.1 h9 p hp) h8r 0 h7;have q1:RCs g.bare w (ps.map fun p=>p.2.untag) us:=by
    have:=zAE q0 (fun x hx=>by
     obtain ⟨p,hp1,rfl⟩:=List.mem_map.1 hx;exact List.all_eq_true.1 h9 p hp1)
    simpa [List.map_map,Function.comp_def] using this
   rw [h6] at q2;have hsz:i.size=P.cellsOf el:=by simp [Program.cellsOf,hi1]
   have hlen:(ps.map fun p=>p.2.untag).length=n:=by simp [h6]
   have hrun:(Instr.buildSlice t n qs.toArray).run P w = .ok (.slice (some ⟨w.heap.size,0,none⟩) n n) (w.alloc (.cells us.toArray el)):=by
    have hf:∀ zs:Array Value,zs.size=n * P.cellsOf el->Instr.fill (fun i=>some (i * P.cellsOf el,P.cellsOf el)) zs qs=some us.toArray:=fun zs hzs=>by
     have:=q3 zs (by omega);rw [this];simp only [Nat.zero_mul,List.take_zero,List.nil_append,Nat.zero_add];rw [q2,<- hzs,<- Array.length_toList,List.drop_length,List.append_nil]
    by_cases hz0:n * P.cellsOf el=0
    . have:=hf #[] (by simp [hz0]);simp [Instr.buildSlice,run_underlying hu,yR h1,hz0,this,newRow,show (Array.range 0:Array Nat) = #[] from rfl]
    . have:=hf ((Array.range (n * P.cellsOf el)).map (z.cells[· % z.cells.size]!)) (by simp);simp [Instr.buildSlice,run_underlying hu,yR h1,hz0,zeroValue,typeInfo,hi1,hi2,this,newRow,show ¬ (16777216 < n * P.cellsOf el) by omega]
   split at h10
   . obtain ⟨g',ho⟩:=zS8 (X:=X) hi q0 h10.1 el [] (n * P.cellsOf el) (by simpa using q2);simp only [List.append_nil] at ho;exact ⟨_,_,g',_,_,h10.2 _ (zA2 hi),ho,RV_at_mk rfl,hrun⟩
   . split at h10
     . obtain ⟨g',ho,hv⟩:=zJL (X:=X) hi h8 q1 el [] n (by omega) h5 (by simpa using q2) false (fun e=>by cases e);simp only [List.append_nil,hlen] at ho hv;exact ⟨_,_,g',_,_,h10,ho,hv,hrun⟩
     . obtain ⟨g',ho,hv⟩:=new_no (X:=X) hi h8 q1 el [] n (by omega);simp only [List.append_nil,hlen] at ho hv;exact ⟨_,_,g',_,_,h10,ho,hv,hrun⟩
theorem zIX {t el:TypeId} (hu:P.underlying t=some (.slice el)) {tg:Tag} {ys:List V} {ux:Value} (hx:RV g w (.lst tg ys) ux) (hs:yo (P.cellsOf el) ys) :
 ∃ news,Src P (P.cellsOf el) t ux ys.length news w/\RCs g.bare w ys news:=by
 have hl:=zBI hx;simp only [RC] at hl;rcases hl with ⟨rfl,hux,_⟩ | ⟨b,o,cap,ds,hux,hc,ht,hr,hf,ha⟩
 . injection hux with hux _
   subst hux;exact ⟨[],Src.ofNil w hu 0,by simp [RCs]⟩
 . injection hux with hux _
   subst hux;have hlen:=xq hs hr;refine ⟨ds,Src.ofSlice w hu ⟨b,o,none⟩ ys.length cap ds hlen (fun j u hj=>by rw [zq]; exact (ha j u hj).1) (zBO _ w _ _ hr),hr⟩
theorem zMZ {t el:TypeId} (hu:P.underlying t=some (.slice el)) (h1:hasT P el=true) {ux:Value} {m:Nat} {news:List Value} (hs:Src P (P.cellsOf el) t ux m news w) (ty:TypeId) {b n cap:Nat} {arr:Array Value} {el':TypeId}
 (hb:w.heap[b]? = some (.cells arr el' (0,0))) (hroom:n+m<=cap) (hsz:cap * P.cellsOf el<=arr.size) :
 (Builtin.append_ #[t,t] ty #[.slice (some ⟨b,0,none⟩) n cap,ux]).run P w = .ok (.slice (some ⟨b,0,none⟩) (n+m) cap) (w.setRow b (arr.toList.take (n * P.cellsOf el)++news++arr.toList.drop (n * P.cellsOf el+news.length)).toArray):=by
 have hfit:n * P.cellsOf el+news.length<=arr.size:=by
  have:(n+m) * P.cellsOf el<=cap * P.cellsOf el:=Nat.mul_le_mul_right _ hroom;rw [Nat.add_mul] at this;rw [hs.newsLen]; omega
 have hst:=run_storeCells_at (P:=P) b (n * P.cellsOf el) el' news 0 arr w hb (by omega) hs.one;simp only [Nat.add_zero] at hst;simp [Builtin.append_,run_underlying hu,yR h1,hs.len,hroom,hs.cells,zq,hst]
end
open Go.RowKit
section
variable {P:Program} {X:Cx} {g:Gh} {w:World} {a:Act} {o:Oper} {st:S} {K:V->S->Prop} {KP:List PanicEntry->S->Prop}
theorem zES {t el:TypeId} (hu:P.underlying t=some (.slice el)) (h1:hasT P el=true) (hz:(yN P el).map List.length=some (P.cellsOf el)) {ux:Value} {m:Nat} {news:List Value}
 (hs:Src P (P.cellsOf el) t ux m news w) (ty:TypeId) {base:Option Addr} {n cap:Nat} {olds:List Value} (hold:(Builtin.firstCells (P.cellsOf el) n (.slice base n cap)).run P w.drew = .ok olds.toArray w.drew)
 (hg:cap < n+m) (hb:(n+m) * P.bytesOf el<=140737488355328) (hm:n+m<=maxLen) :
 ∃ cap' extra,n+m<=cap'/\cap'<=maxLen/\extra.length=(cap' - (n+m)) * P.cellsOf el /\
  (Builtin.append_ #[t,t] ty #[.slice base n cap,ux]).run P w = .ok (.slice (some ⟨w.heap.size,0,none⟩) (n+m) cap') (w.drew.alloc (.cells ((olds++news)++extra).toArray el)):=by
 obtain ⟨z,hz1,hz2⟩:=zJY hz;obtain ⟨i,hi1,hi2⟩:=jO hz1;have hsz:i.size=P.cellsOf el:=by simp [Program.cellsOf,hi1]
 have hby:i.bytes=P.bytesOf el:=by simp [Program.bytesOf,hi1]
 have hm':=hm;simp only [maxLen] at hm';have hr:=run_append_grow_src (P:=P) w t t ty el i z hu hi1 hi2 base n cap olds (by rw [hsz]; exact hold) ux m news (by rw [hsz]; exact hs) hg (by omega) (by rw [hby]; exact growslice_fits hg hb);refine ⟨_,(Builtin.zeroCells z.cells (grownCap w (n+m) cap el - (n+m))).toList,grownCap_ge w (n+m) cap el,grownCap_le_maxLen w (n+m) cap el hm,?_,?_⟩
 . rw [Array.length_toList,size_zeroCells,hz2]
 . rw [hr];congr 3;apply Array.ext';simp
theorem zMr {t:TypeId} {x:V} {K:S->Prop} (h:zEC P st t x K) (hi:Inv X.B g st w) {ux:Value} (hx:RV g w x ux) (ts:List TypeId) (ty:TypeId) :
 ∃ st' w',K st'/\Out X.B g w g st' w'/\(Builtin.clear_ (t::ts).toArray ty #[ux]).run P w = .ok (.tuple #[]) w':=by
 unfold zEC at h;split at h
 . rename_i el b o n cp hel;have e1:=zh hx; subst e1;have hu:P.underlying t=some (.slice el):=by
    unfold elT at hel;split at hel
    . rename_i e hq; injection hel with hel; subst hel; exact hq
    . cases hel
   split at h
   . rename_i cs k z hl hz;obtain ⟨h1,h2,h3⟩:=h;by_cases hn:n=0
     . subst hn;rw [if_pos rfl] at h3;refine ⟨st,w,h3,Out.refl hi,?_⟩;simp [Builtin.clear_,run_underlying hu,Sem.run_bind,Result.andThen]
     . rw [if_neg hn] at h3;obtain ⟨p1,p2,p3,p4,arr,el',us,p5,p6,p7,p8⟩:=hi.box b cs k hl;obtain ⟨zv,hz1,hz2,hz3⟩:=zA7 (g:=g) (w:=w) hz;have hone:zH cs:=by unfold zH; rw [List.all_eq_true]; exact p4
       have hl':=zy g w cs us p7;rw [yK hone] at hl';obtain ⟨news,hnews,hnl,hn1⟩:∃ news:List Value,(Builtin.zeroCells zv.cells n).toList=news/\news.length=n * z.length/\∀ v ∈ news,v.oneCell' = true:=by
        refine ⟨_,rfl,?_,?_⟩
        . rw [Array.length_toList,size_zeroCells,hz3]
        . intro v hv;refine zBO g w _ _ hz2 v ?_;simp only [Builtin.zeroCells,Array.toList_map,Array.toList_range,List.mem_map,List.mem_range] at hv;obtain ⟨i,hi3,rfl⟩:=hv;have hpos:0 < zv.cells.size:=by
           rcases Nat.eq_zero_or_pos zv.cells.size with h0 | h0
           . rw [h0] at hi3; omega
           . exact h0
          have hlt:i % zv.cells.size < zv.cells.size:=Nat.mod_lt _ hpos;rw [getElem!_pos zv.cells _ hlt];exact Array.getElem_mem_toList hlt
       have hst:=run_storeCells_at (P:=P) b o el' news 0 arr w p5 (by omega) hn1;simp only [Nat.add_zero] at hst;refine ⟨_,w.setRow b (arr.toList.take o++news++arr.toList.drop (o+news.length)).toArray,h3,?_,?_⟩
       . refine zEX hi hl p5 _ (by simp; omega) _ (us.take o) (by simp; omega) (fun c hc=>p4 c (List.mem_of_mem_take hc)) (yL hone p7 o).1 ?_;rw [<- p8];have e2:(cs.take o).length=o:=by rw [List.length_take]; omega
         have e3:(arr.toList.take o).length=o:=by rw [List.length_take,Array.length_toList]; omega
         rw [e2,List.append_assoc,List.take_append_of_le_length (by omega),List.take_of_length_le (by omega),List.take_take];congr 1; omega
       . have hnz:∀ w,(zeroValue el).run P w = .ok zv w:=fun w=>by
          obtain ⟨inf,hi1,hi2⟩:=jO hz1;simp [zeroValue,typeInfo,hi1,hi2]
         cases n with
         | zero=>exact absurd rfl hn
         | succ n=>
          simp only [Builtin.clear_];simp [run_underlying hu,Sem.run_bind,Result.andThen,hnz,hnews,hst]
   . cases h
 . cases h
theorem zKO {B:Nat} (hi:Inv B g st w) {t:Nat} (ht:t ∈ st.tg) {b cap n sz:Nat} (hb:g.tb t=some (some (b,cap,n,sz))) {arr:Array Value} {el:TypeId} (hh:w.heap[b]? = some (.cells arr el (0,0)))
 (arr':Array Value) (hs:arr'.size=arr.size) (hp:∀ k,k < n * sz->arr'[k]? = arr[k]?) (m:Nat) :
 Out B g w ⟨fun j=>if j=b then (n+m) * sz else g.wm j,g.tb,g.fr⟩ ⟨st.box,st.tg.erase t,st.nx,st.ob⟩ (w.setRow b arr'):=by
 obtain ⟨p1,p2,p3,p4,p5,arr0,el0,p6,p7⟩:=hi.own t ht b cap n sz hb;have hoth:∀ j,j≠b->(w.setRow b arr').heap[j]? = w.heap[j]?:=fun j hj=>setRow_other w b j _ hj;have hsame:=setRow_heap w b arr arr' el (0,0) hh;have hwm:g.wm b<=(n+m) * sz:=by rw [p2]; exact Nat.mul_le_mul_right _ (by omega)
 have hla:Later g w ⟨fun j=>if j=b then (n+m) * sz else g.wm j,g.tb,g.fr⟩ (w.setRow b arr'):=by
  refine ⟨fun j=>?_,fun _ _ e=>e,fun j o ho=>?_⟩
  . show g.wm j<=if j=b then (n+m) * sz else g.wm j
    split
    . rename_i e; subst e; exact hwm
    . exact Nat.le_refl _
  . by_cases e:j=b
    . subst e;rw [cell_of_row _ j o arr' el (0,0) hsame,cell_of_row _ j o arr el (0,0) hh];exact hp o (by rw [p2] at ho; exact ho)
    . exact World.cell?_of_block (hoth j e)
 have hbase:=hi.base;obtain ⟨hf1,hf2⟩:=hi.rowFr ht hb;have hnf:∀ j,g.fr j=true->j≠b:=fun j hj e=>by subst e; rw [hf1] at hj; cases hj
 refine ⟨⟨hla,⟨rfl,rfl,rfl,by simp,fun j hj=>hoth j (by omega)⟩,fun j hj=>⟨hoth j (hnf j hj),if_neg (hnf j hj)⟩,fun j hj=>if_neg (by omega),rfl⟩,?_⟩
 . have hd:=hi.dropTag t;have hlt:b < w.heap.size:=(Array.getElem?_eq_some_iff.1 hh).1;refine ⟨by simpa using hd.base,?_,hd.tag,?_,hd.dist,hd.nodup,fun j hj=>?_,hd.names,hd.ex.step hla (by simp) rfl rfl (fun b' o fp hl j hj=>?_) (fun _ e _=>e) (fun _ _ e=>e)⟩
   . intro b' cs k hl;obtain ⟨q1,q2,q3,q4,arr2,el2,us2,q5,q6,q7,q8⟩:=hi.box b' cs k hl;have hne:b'≠b:=fun e=>by subst e; rw [p5] at hl; cases hl
     exact ⟨q1,by show (if b' = b then _ else g.wm b')=0; rw [if_neg hne]; exact q2,q3,q4,arr2,el2,us2,by rw [hoth b' hne]; exact q5,q6,zg hla _ _ q7,q8⟩
   . intro t' ht' b' cap' n' sz' hb';have ht2:=List.mem_of_mem_erase ht';obtain ⟨q1,q2,q3,q4,q5,arr2,el2,q6,q7⟩:=hi.own t' ht2 b' cap' n' sz' hb';have hne:b'≠b:=fun e=>by
      subst e;have:=hi.dist t ht t' ht2 b' _ _ hb hb';subst this;exact (List.Nodup.not_mem_erase hi.nodup) ht'
     exact ⟨q1,by show (if b' = b then _ else g.wm b')=_; rw [if_neg hne]; exact q2,q3,q4,q5,arr2,el2,by rw [hoth b' hne]; exact q6,q7⟩
   . show (if j=b then _ else g.wm j)=0;simp only [setRow_size] at hj;rw [if_neg (by omega)]; exact hi.fresh j hj
   . have hne:j≠b:=fun e=>by subst e; exact hf2 b' o fp hl hj
     exact ⟨hoth j hne,if_neg hne⟩
theorem zFK {sz:Nat} {xs ys:List V} (h:yo sz xs) (h':yo sz ys):yo sz (xs++ys):=fun x hx=>(List.mem_append.1 hx).elim (h x) (h' x)
theorem append_nil {t el:TypeId} (hu:P.underlying t=some (.slice el)) (h1:hasT P el=true) (hz:(yN P el).map List.length=some (P.cellsOf el))
 {tgx:Tag} {ys:List V} (hs:yo (P.cellsOf el) ys) (hb:ys.length * P.bytesOf el<=140737488355328) (hm:ys.length<=maxLen)
 (hi:Inv X.B g st w) {ux:Value} (hx:RV g w (.lst tgx ys) ux) (ty:TypeId) (hk:K (.lst (.own st.nx true (P.cellsOf el)) ys) ⟨st.box,st.nx::st.tg,st.nx+1,st.ob⟩) :
 ∃ v u g' st' w',K v st'/\Out X.B g w g' st' w'/\RV g' w' v u/\(Builtin.append_ #[t,t] ty #[.slice none 0 0,ux]).run P w = .ok u w':=by
 obtain ⟨news,hsrc,hr⟩:=zIX hu hx hs;by_cases h0:ys.length=0
 . have hys:ys=[]:=List.eq_nil_of_length_eq_zero h0;subst hys;obtain ⟨i2,l2⟩:=hi.addTag rfl none (fun _ _ _ _ e=>by cases e);have hsl:=hsrc.len;have hsc:=hsrc.cells;simp only [List.length_nil] at hsl hsc;refine ⟨_,.slice none 0 0,_,_,w,hk,⟨⟨l2,.refl _ _,fun _ _=>⟨rfl,rfl⟩,fun _ _=>rfl,rfl⟩,i2⟩,xU ?_,?_⟩
   . simp only [RC];exact .inl ⟨trivial,trivial,if_pos rfl,rfl⟩
   . simp [Builtin.append_,run_underlying hu,yR h1,hsl,hsc]
 . obtain ⟨cap',extra,c1,c2,c3,hrun⟩:=zES hu h1 hz hsrc ty (base:=none) (n:=0) (cap:=0) (olds:=[]) (by simp [Builtin.firstCells]) (by omega) (by simpa using hb) (by omega);simp only [Nat.zero_add,List.nil_append] at c1 c3 hrun;have ho1:=zBQ hi (w.drawn+1);have hlen:=xq hs hr;obtain ⟨g',ho,hv⟩:=zJL (X:=X) (w:=w.drew) ho1.inv hs (zg ho1.step.later.bare _ _ hr) el extra cap' c1 c2 (by rw [hlen,c3,<- Nat.add_mul]; congr 1; omega) true (fun _=>h0);exact ⟨_,_,g',_,_,hk,⟨ho1.step.trans ho.step,ho.inv⟩,hv,hrun⟩
theorem zOc {t el:TypeId} (hu:P.underlying t=some (.slice el)) (h1:hasT P el=true) (hz:(yN P el).map List.length=some (P.cellsOf el))
 {tgx:Tag} {ys:List V} (hs:yo (P.cellsOf el) ys) {tn:Nat} {nb:Bool} {es:List V} (htn:tn ∈ st.tg) (hb:(es.length+ys.length) * P.bytesOf el<=140737488355328) (hm:es.length+ys.length<=maxLen)
 (hi:Inv X.B g st w) {us ux:Value} (hsv:RV g w (.lst (.own tn nb (P.cellsOf el)) es) us) (hx:RV g w (.lst tgx ys) ux) (ty:TypeId)
 (hk:K (.lst (.own st.nx nb (P.cellsOf el)) (es++ys)) ⟨st.box,st.nx::st.tg.erase tn,st.nx+1,st.ob⟩) :
 ∃ v u g' st' w',K v st'/\Out X.B g w g' st' w'/\RV g' w' v u/\(Builtin.append_ #[t,t] ty #[us,ux]).run P w = .ok u w':=by
 have hl:=zBI hsv;simp only [RC] at hl;have hdrop:=hi.dropTag tn;rcases hl with ⟨rfl,hux,hn1,rfl⟩ | ⟨b,o,cap,ds,hux,hc,⟨ht1,rfl,ht3⟩,hr,⟨sz,hf1,hf2⟩,ha⟩
 . injection hux with hux _
   subst hux;simp only [List.nil_append] at hk;exact append_nil (st:=⟨st.box,st.tg.erase tn,st.nx,st.ob⟩) hu h1 hz hs (by simpa using hb) (by simpa using hm) hdrop hx ty hk
 . injection hux with hux _
   subst hux;obtain ⟨p1,p2,p3,p4,p5,arr,el',p6,p7⟩:=hi.own tn htn b cap es.length _ ht1;obtain ⟨news,hsrc,hrn⟩:=zIX hu hx hs;have hlen:ds.length=es.length * P.cellsOf el:=by
    rcases hf2 tn nb _ rfl with e | e
    . rw [zy _ w es ds hr]; exact (zy _ w es ds hr).symm.trans (xq (fun x hx=>(hf1 x hx).trans e.symm) hr)
    . subst e; simp only [RCs] at hr; subst hr; simp
   have hes:yo (P.cellsOf el) es:=by
    rcases hf2 tn nb _ rfl with e | e
    . exact fun x hx=>(hf1 x hx).trans e.symm
    . subst e; exact fun x hx=>by cases hx
   have hlenN:=xq hs hrn;have hnb:nb=true->(es++ys).length≠0:=fun e=>by have:=ht3 e; simp; intro h; subst h; simp at this
   by_cases hroom:es.length+ys.length<=cap
   . have hrun:=zMZ hu h1 hsrc ty p6 hroom (by omega);have hle:(es.length+ys.length) * P.cellsOf el<=cap * P.cellsOf el:=Nat.mul_le_mul_right _ hroom;rw [Nat.add_mul] at hle;have hdsa:arr.toList.take (es.length * P.cellsOf el)=ds:=by
      apply List.ext_getElem?;intro k;rw [List.getElem?_take];split
      . have hk:k < ds.length:=by omega
        have:=(ha k ds[k] (by simp [hk])).1;rw [Nat.zero_add,cell_of_row w b k arr el' (0,0) p6] at this;rw [List.getElem?_eq_getElem hk,<- this]; simp
      . rw [List.getElem?_eq_none (by omega)]
     have hsz':(arr.toList.take (es.length * P.cellsOf el)++news++arr.toList.drop (es.length * P.cellsOf el+news.length)).toArray.size=arr.size:=by simp; omega
     have ho:=zKO (B:=X.B) hi htn ht1 p6 (arr.toList.take (es.length * P.cellsOf el)++news++arr.toList.drop (es.length * P.cellsOf el+news.length)).toArray hsz'
      (fun k hk=>by
       rw [List.getElem?_toArray,List.append_assoc,List.getElem?_append_left (by simp; omega),List.getElem?_take,if_pos hk];simp) ys.length
     have hsame:=setRow_heap w b arr (arr.toList.take (es.length * P.cellsOf el)++news++arr.toList.drop (es.length * P.cellsOf el+news.length)).toArray el' (0,0) p6;obtain ⟨i2,l2⟩:=ho.inv.addTag rfl (some (b,cap,es.length+ys.length,P.cellsOf el)) (fun b' c n s e=>by
      injection e with e; injection e with e1 e; injection e with e2 e; injection e with e3 e4
      subst e1; subst e2; subst e3; subst e4;refine ⟨p1,if_pos rfl,hroom,p4,p5,⟨_,el',hsame,by rw [hsz']; exact p7⟩,fun t ht x hx=>?_,(hi.rowFr htn ht1).1,(hi.rowFr htn ht1).2⟩;have ht2:=List.mem_of_mem_erase ht;have:=hi.dist tn htn t ht2 b _ x ht1 hx;subst this;exact (List.Nodup.not_mem_erase hi.nodup) ht)
     refine ⟨_,_,_,_,_,hk,⟨ho.step.trans ⟨l2,.refl _ _,fun _ _=>⟨rfl,rfl⟩,fun _ _=>rfl,rfl⟩,i2⟩,xU ?_,hrun⟩;have hal:=zg (ho.step.later.trans l2).bare _ _ (qI hr hrn);simp only [RC];refine .inr ⟨b,0,cap,ds++news,by rw [List.length_append],by rw [List.length_append]; exact hroom,⟨by rw [List.length_append]; exact if_pos rfl,rfl,hnb⟩,hal,
      ⟨P.cellsOf el,zFK hes hs,fun _ _ _ e=>by cases e; exact .inl rfl⟩,?_⟩
     intro k u hk;have hkl:k < ds.length+news.length:=by
      rcases Nat.lt_or_ge k (ds++news).length with h | h
      . simpa using h
      . rw [List.getElem?_eq_none h] at hk; cases hk
     refine ⟨?_,?_⟩
     . rw [Nat.zero_add,cell_of_row _ b k _ el' (0,0) hsame,hdsa,List.getElem?_toArray,List.getElem?_append_left (by simpa using hkl)];exact hk
     . show 0+k < if b=b then (es.length+ys.length) * P.cellsOf el else g.wm b
       rw [if_pos rfl,Nat.add_mul]; omega
   . have hold:(Builtin.firstCells (P.cellsOf el) es.length (.slice (some ⟨b,0,none⟩) es.length cap)).run P w.drew = .ok ds.toArray w.drew:=
      run_firstCells_some w.drew _ es.length ⟨b,0,none⟩ es.length cap ds hlen (fun j u hj=>by rw [zq]; exact (ha j u hj).1)
     obtain ⟨cap',extra,c1,c2,c3,hrun⟩:=zES hu h1 hz hsrc ty hold (by omega) hb hm;have ho1:=zBQ hdrop (w.drawn+1);obtain ⟨g',ho,hv⟩:=zJL (X:=X) (w:=w.drew) ho1.inv (zFK hes hs) (zg ho1.step.later.bare _ _ (qI hr hrn)) el extra cap' (by simpa using c1) c2
      (by rw [List.length_append,hlen,hlenN,c3,<- Nat.add_mul,<- Nat.add_mul]; congr 1; omega) nb hnb
     rw [List.length_append] at hv;exact ⟨_,_,g',_,_,hk,⟨ho1.step.trans ho.step,ho.inv⟩,hv,hrun⟩
end
open Go.RowKit
section
variable {P:Program} {X:Cx} {g:Gh} {w:World} {a:Act} {o:Oper} {st:S} {K:V->S->Prop} {KP:List PanicEntry->S->Prop}
theorem Inv.sameBox {B:Nat} {g:Gh} {st:S} {w:World} (h:Inv B g st w) {box:List (Nat×List V×Nat)} (e:∀ j,look box j=look st.box j):Inv B g ⟨box,st.tg,st.nx,st.ob⟩ w:=
 h.weaken ⟨fun b c hl=>(e b).symm.trans hl,fun _ hm=>hm,fun hn=>hn,fun b hl=>(e b).trans hl,Nat.le_refl _,fun _ _ h=>h⟩
theorem zJe (hi:Inv X.B g st w) {fs:List V} {us:List Value} (hr:RCs g w fs us) (h1:zH fs) (el:TypeId) (extra:List Value) (k:Nat) (hk:us.length+extra.length=k) :
 ∃ g',Out X.B g w g' ⟨lay st.box w.heap.size (fs,k),st.tg,st.nx,st.ob⟩ (w.alloc (.cells (us++extra).toArray el)):=by
 have hl:=zy g w _ _ hr;rw [yK h1] at hl;have ho:=zAn hi (us++extra).toArray el 0;refine ⟨_,⟨ho.step,?_⟩⟩;have:=ho.inv.addBox (b:=w.heap.size) (arr:=(us++extra).toArray) (el:=el) (cs:=fs) (us:=us) hi.base (if_pos rfl) (kR w _) (by simp; omega) (qG h1)
  (zg ho.step.later _ _ hr) (by simp [<- hl]) (by intro t ht d hd; exact zB0 hi t ht d hd) hi.newFr hi.newOb
 have e:(us++extra).toArray.size=k:=by simp; omega
 rw [e] at this;exact this
theorem zGk {fs:List V} (h:zH fs) (n:Nat):zH (fs.take n):=by
 unfold zH at *;rw [List.all_eq_true] at *;exact fun c hc=>h c (List.mem_of_mem_take hc)
theorem zE1 {fs gs:List V} (h:zH fs) (h':zH gs):zH (fs++gs):=by
 unfold zH at *;rw [List.all_append,h,h']; rfl
theorem zDl {t el:TypeId} (hu:P.underlying t=some (.slice el)) (h1:hasT P el=true) (hz:(yN P el).map List.length=some (P.cellsOf el))
 {m:Nat} {fl:List V} {news:List Value} {ux:Value} (hb:m * P.bytesOf el<=140737488355328) (hm:m<=maxLen) (h0:m≠0) (ho1:zH fl)
 (hi:Inv X.B g st w) (hsrc:Src P (P.cellsOf el) t ux m news w) (hr:RCs g w fl news) (hlen:news.length=m * P.cellsOf el) (ty:TypeId)
 (hk:∀ b cap,look st.box b=none->m<=cap->K (.at (.slice (some ⟨b,0,none⟩) m cap)) ⟨lay st.box b (fl,cap * P.cellsOf el),st.tg,st.nx,st.ob⟩) :
 ∃ v u g' st' w',K v st'/\Out X.B g w g' st' w'/\RV g' w' v u/\(Builtin.append_ #[t,t] ty #[.slice none 0 0,ux]).run P w = .ok u w':=by
 obtain ⟨cap',extra,c1,c2,c3,hrun⟩:=zES hu h1 hz hsrc ty (base:=none) (n:=0) (cap:=0) (olds:=[]) (by simp [Builtin.firstCells]) (by omega) (by simpa using hb) (by omega);simp only [Nat.zero_add,List.nil_append] at c1 c3 hrun;have hd:=zBQ hi (w.drawn+1);obtain ⟨g',ho⟩:=zJe (X:=X) (w:=w.drew) hd.inv (zg hd.step.later _ _ hr) ho1 el extra (cap' * P.cellsOf el) (by rw [hlen,c3,<- Nat.add_mul]; congr 1; omega);exact ⟨_,_,g',_,_,hk _ cap' (zA2 hi) c1,⟨hd.step.trans ho.step,ho.inv⟩,RV_at_mk rfl,hrun⟩
theorem zD7 {t el:TypeId} (hu:P.underlying t=some (.slice el)) (h1:hasT P el=true) (hz:(yN P el).map List.length=some (P.cellsOf el))
 {m:Nat} {fl:List V} {news:List Value} {ux:Value} {b len cap:Nat} {cs:List V} (hl:look st.box b=some (cs,cap * P.cellsOf el)) (hlc:len<=cap) (hln:len * P.cellsOf el<=cs.length)
 (hb:(len+m) * P.bytesOf el<=140737488355328) (hm:len+m<=maxLen) (ho1:zH fl)
 (hi:Inv X.B g st w) (hsrc:Src P (P.cellsOf el) t ux m news w) (hrf:RCs g w fl news) (hlenN:news.length=m * P.cellsOf el) (ty:TypeId)
 (hk:∀ b' cap',look (wipe st.box b) b' = none->len+m<=cap'->K (.at (.slice (some ⟨b',0,none⟩) (len+m) cap')) ⟨lay (wipe st.box b) b' (cs.take (len * P.cellsOf el)++fl,cap' * P.cellsOf el),st.tg,st.nx,st.ob⟩) :
 ∃ v u g' st' w',K v st'/\Out X.B g w g' st' w'/\RV g' w' v u/\(Builtin.append_ #[t,t] ty #[.slice (some ⟨b,0,none⟩) len cap,ux]).run P w = .ok u w':=by
 obtain ⟨p1,p2,p3,p4,arr,el',us,p5,p6,p7,p8⟩:=hi.box b cs _ hl;have hone:zH cs:=by unfold zH; rw [List.all_eq_true]; exact p4
 have hul:=zy g w cs us p7;rw [yK hone] at hul;have hnl:=zy g w _ _ hrf;rw [yK ho1] at hnl;have hcont:RCs g w (cs.take (len * P.cellsOf el)++fl) (us.take (len * P.cellsOf el)++news):=qI (yL hone p7 _).1 hrf;have hone':=zE1 (zGk hone (len * P.cellsOf el)) ho1;have hust:us.take (len * P.cellsOf el)=arr.toList.take (len * P.cellsOf el):=by
  rw [<- p8,List.take_take]; congr 1; omega
 by_cases hroom:len+m<=cap
 . have hrun:=zMZ hu h1 hsrc ty p5 hroom (by omega);have hle:(len+m) * P.cellsOf el<=cap * P.cellsOf el:=Nat.mul_le_mul_right _ hroom;rw [Nat.add_mul] at hle;have hsz':(arr.toList.take (len * P.cellsOf el)++news++arr.toList.drop (len * P.cellsOf el+news.length)).toArray.size=arr.size:=by simp; omega
   have ho:=zEX (B:=X.B) hi hl p5 _ hsz' (cs.take (len * P.cellsOf el)++fl) (us.take (len * P.cellsOf el)++news) (by simp; omega) (qG hone') hcont (by
    rw [hust];have e:(cs.take (len * P.cellsOf el)++fl).length=(arr.toList.take (len * P.cellsOf el)++news).length:=by simp; omega
    rw [e];exact List.take_left)
   refine ⟨_,_,_,_,_,hk b cap (by rw [yr,if_pos rfl]) hroom,⟨ho.step,?_⟩,RV_at_mk rfl,hrun⟩;refine ho.inv.sameBox fun j=>?_;rw [zO,zO,yr];by_cases e:b=j
   . rw [if_pos e,if_pos e]
   . rw [if_neg e,if_neg e,if_neg e]
 . have hold:(Builtin.firstCells (P.cellsOf el) len (.slice (some ⟨b,0,none⟩) len cap)).run P w.drew = .ok (us.take (len * P.cellsOf el)).toArray w.drew:=
    run_firstCells_some w.drew _ len ⟨b,0,none⟩ len cap _ (by simp; omega) (fun j u hj=>by
     rw [zq,Nat.zero_add];show w.cell? _=_;rw [cell_of_row w b j arr el' (0,0) p5];rw [hust,List.getElem?_take] at hj;split at hj
     . simpa using hj
     . cases hj)
   obtain ⟨cap',extra,c1,c2,c3,hrun⟩:=zES hu h1 hz hsrc ty hold (by omega) hb hm;have hd:=zBQ (hi.dropBox b) (w.drawn+1);obtain ⟨g',ho⟩:=zJe (X:=X) (w:=w.drew) hd.inv (zg hd.step.later _ _ hcont) hone' el extra (cap' * P.cellsOf el) (by
    rw [List.length_append,List.length_take,c3,hlenN,hul,Nat.min_eq_left hln,<- Nat.add_mul,<- Nat.add_mul]; congr 1; omega)
   exact ⟨_,_,g',_,_,hk _ cap' (zA2 hd.inv) c1,⟨hd.step.trans ho.step,ho.inv⟩,RV_at_mk rfl,hrun⟩
theorem zPN {t el:TypeId} (hu:P.underlying t=some (.slice el)) {b m cap:Nat} {cs:List V} {k:Nat} (hi:Inv X.B g st w) (hl:look st.box b=some (cs,k)) (hln:m * P.cellsOf el<=cs.length) :
 ∃ news,Src P (P.cellsOf el) t (.slice (some ⟨b,0,none⟩) m cap) m news w/\RCs g w (cs.take (m * P.cellsOf el)) news/\zH (cs.take (m * P.cellsOf el))/\news.length=m * P.cellsOf el:=by
 obtain ⟨p1,p2,p3,p4,arr,el',us,p5,p6,p7,p8⟩:=hi.box b cs _ hl;have hone:zH cs:=by unfold zH; rw [List.all_eq_true]; exact p4
 have hul:=zy g w cs us p7;rw [yK hone] at hul;have hr:=(yL hone p7 (m * P.cellsOf el)).1;have hlen:(us.take (m * P.cellsOf el)).length=m * P.cellsOf el:=by simp; omega
 have hust:us.take (m * P.cellsOf el)=arr.toList.take (m * P.cellsOf el):=by
  rw [<- p8,List.take_take]; congr 1; omega
 refine ⟨us.take (m * P.cellsOf el),Src.ofSlice w hu ⟨b,0,none⟩ m cap _ hlen (fun j u hj=>?_) (zBO _ w _ _ hr),hr,zGk hone _,hlen⟩;rw [zq,Nat.zero_add];rw [cell_of_row w b j arr el' (0,0) p5];rw [hust,List.getElem?_take] at hj;split at hj
 . simpa using hj
 . cases hj
theorem zFb {es:List V} {u:Value} (h:RV g w (.lst .nil es) u):u = .slice none 0 0:=by
 have h:=zBI h;simp only [RC] at h;rcases h with ⟨_,hu,_⟩ | ⟨b,o,cap,ds,_,_,ht,_⟩
 . injection hu
 . exact ht.elim
theorem zLL {L:Pol} {dst:Option Nat} {t t2:TypeId} {s x:V} (h:xE P L dst st t t2 s x K) (hi:Inv X.B g st w) {us ux:Value} (hsv:RV g w s us) (hx:RV g w x ux) (ty:TypeId) :
 ∃ v u g' st' w',K v st'/\Out X.B g w g' st' w'/\RV g' w' v u/\(Builtin.append_ #[t,t2] ty #[us,ux]).run P w = .ok u w':=by
 unfold xE at h;split at h
 . rename_i el tgx ys hel;obtain ⟨rfl,h1,h2,h3,h4,h5⟩:=h;have hu:=qe hel;split at h5
   . obtain ⟨h6,h7,h8⟩:=h5;have e:=zFb hsv;subst e;split at h8
     . obtain ⟨news,hsrc,hr⟩:=zIX hu hx h4;exact zDl hu h1 h2 h6 h7 (fun e=>h8.1 (List.eq_nil_of_length_eq_zero e)) h8.2.1 hi hsrc (zBo (kv g w _ _ hr)) (xq h4 hr) ty h8.2.2
     . exact append_nil hu h1 h2 h4 h6 h7 hi hx ty h8
   . rename_i tn nb sz es;obtain ⟨h6,rfl,h7,h8,h9⟩:=h5;exact zOc hu h1 h2 h4 h6 h7 h8 hi hsv hx ty h9
   . rename_i b len cap;have e:=zh hsv;subst e;split at h5
     . rename_i cs k hl;obtain ⟨_,rfl,h6,h7,h8,h9,h10,h11⟩:=h5;obtain ⟨news,hsrc,hr⟩:=zIX hu hx h4;exact zD7 hu h1 h2 hl h6 h7 h8 h9 h10 hi hsrc (zBo (kv g w _ _ hr)) (xq h4 hr) ty h11
     . cases h5
   . cases h5
 . rename_i el bs m cpx hel;obtain ⟨rfl,h1,h2,h3,h4,h5⟩:=h;have hu:=qe hel;have e:=zh hx;subst e;split at h5
   . cases h5
   . rename_i css kk hls;obtain ⟨h6,h7⟩:=h5;obtain ⟨news,hsrc,hr,hone,hlen⟩:=zPN (cap:=cpx) hu hi hls h6;split at h7
     . obtain ⟨h8,h9,h10,h11⟩:=h7;have e:=zFb hsv;subst e;exact zDl hu h1 h2 h8 h9 h10 hone hi hsrc hr hlen ty h11
     . rename_i b len cap;have e:=zh hsv;subst e;split at h7
       . rename_i cs k hl;obtain ⟨rfl,h8,h9,h10,h11,h12⟩:=h7;exact zD7 hu h1 h2 hl h8 h9 h10 h11 hone hi hsrc hr hlen ty h12
       . cases h7
     . cases h7
 . cases h
theorem zPy {tg:Tag} {es:List V} (h:zEn g tg) (he:es=[]):zEn g (zGD tg es):=by
 subst he;cases tg with
 | nil=>trivial
 | no=>exact h.elim
 | own t nb s=>obtain ⟨_,rfl⟩:=h; simp [zGD,zz,zEn]
theorem zSB {tg:Tag} {es:List V} {b o cap:Nat} (h:zIh g es.length b o cap tg):zGD tg es = .no:=by
 cases tg with
 | nil=>exact h.elim
 | no=>rfl
 | own t nb s=>
  cases nb with
  | false=>rfl
  | true=>have:=h.2.2 rfl; cases es <;> simp at this ⊢; simp [zGD,zz]
theorem zAb {sz:Nat}:∀ {es:List V} {ds:List Value} (_:yo sz es) (_:RCs g w es ds) (n:Nat),RCs g w (es.take n) (ds.take (n * sz))/\RCs g w (es.drop n) (ds.drop (n * sz))
 | [],ds,_,h,n=>by simp only [RCs] at h; subst h; simp [RCs]
 | x::xs,ds,hs,h,n=>by
  have h':=h;simp only [RCs] at h;obtain ⟨u1,u2,rfl,h1,h2⟩:=h;have hl:=qN g w x u1 h1;rw [hs x (by simp)] at hl;cases n with
  | zero=>simp only [List.take_zero,List.drop_zero,Nat.zero_mul]; exact ⟨by simp [RCs],h'⟩
  | succ n=>
   obtain ⟨k1,k2⟩:=zAb (es:=xs) (ds:=u2) (fun y hy=>hs y (by simp [hy])) h2 n;have e1:(n+1) * sz=u1.length+n * sz:=by rw [Nat.add_mul,Nat.one_mul,hl]; omega
   rw [e1,List.take_length_add_append,List.drop_length_add_append];simp only [List.take_succ_cons,List.drop_succ_cons];exact ⟨by simp only [RCs]; exact ⟨u1,_,rfl,h1,k1⟩,k2⟩
theorem zJp {e:Env} (hr:Rel X g e st a w) (x:Option Operand):(∀ v,x.map e.ev=some v->∃ u,x.map a.eval=some u/\RV g w v u)/\(x.map e.ev=none->x.map a.eval=none):=by
 cases x with
 | none=>exact ⟨fun v h=>by simp at h,fun _=>rfl⟩
 | some x=>exact ⟨fun v h=>by simp at h; subst h; exact ⟨_,rfl,hr.ev x⟩,fun h=>by simp at h⟩
theorem zM8 {t:TypeId} {x:V} {lo hi:Option V} {K:V->Prop} (h:jU P t x lo hi K) {ux:Value} {ulo uhi:Option Value} (hx:RV g w x ux)
 (hlo:(∀ v,lo=some v->∃ u,ulo=some u/\RV g w v u)/\(lo=none->ulo=none)) (hhi:(∀ v,hi=some v->∃ u,uhi=some u/\RV g w v u)/\(hi=none->uhi=none)) :
 ∃ v u,K v/\RV g w v u/\(Instr.sliceAt t ux ulo uhi none).run P w = .ok u w:=by
 have cl:∀ {l:Int},((lo=none/\ulo=none/\l=0)\/∃ k,ulo=some (.int k l))->(ulo=none/\l=0)\/∃ k,ulo=some (.int k l):=fun h=>h.imp (fun h=>⟨h.2.1,h.2.2⟩) id;unfold jU at h;split at h
 . rename_i tg es;split at h
   . cases h
   . rename_i el hel;have hu:=qe hel;obtain ⟨h1,h2,h⟩:=h;obtain ⟨l,h,hl⟩:=jy h hlo.1 hlo.2;obtain ⟨hh',h,hh⟩:=jy h hhi.1 hhi.2;obtain ⟨⟨b0,b1,b2⟩,hk⟩:=h;have hv:=zBI hx;simp only [RC] at hv;rcases hv with ⟨rfl,hux,hn⟩ | ⟨b,o,cap,ds,hux,hc,ht,hr,⟨sz,hf1,hf2⟩,ha⟩
     . injection hux with hux _
       subst hux;simp only [List.length_nil] at b2;have e1:l=0:=by omega
       have e2:hh' = 0:=by simp at b2; omega
       subst e1; subst e2;have hsb:=jC (P:=P) (w:=w) (isS:=true) (len:=0) (cap:=0) (lo:=ulo) (hi:=uhi) (cl hl) (hh.imp (fun h=>⟨h.2.1,h.2.2⟩) id) (by omega) (by omega) (by simp);refine ⟨_,.slice none 0 0,hk,xU ?_,?_⟩
       . simp only [RC];exact .inl ⟨by simp,trivial,zPy hn rfl⟩
       . simp [Instr.sliceAt,Instr.slice,run_underlying hu,hsb,yR h1]
     . injection hux with hux _
       subst hux;have hcast:hh'<=(cap:Int):=by omega
       have hsb:=jC (P:=P) (w:=w) (isS:=true) (len:=es.length) (cap:=cap) (lo:=ulo) (hi:=uhi) (cl hl) (hh.imp (fun h=>⟨h.2.1,h.2.2⟩) id) b0 b1 hcast;have hszn:es=[]\/sz=P.cellsOf el:=by
        rcases h2 with h2 | h2
        . exact .inl h2
        . cases es with
          | nil=>exact .inl rfl
          | cons x xs=>exact .inr ((hf1 x (by simp)).symm.trans (h2 x (by simp)))
       have hrun:(Instr.sliceAt t (.slice (some ⟨b,o,none⟩) es.length cap) ulo uhi none).run P w = .ok (.slice (if cap=l.toNat then some ⟨b,o,none⟩ else some ⟨b,o+l.toNat * P.cellsOf el,none⟩) (hh'.toNat - l.toNat) (cap - l.toNat)) w:=by
        simp only [Instr.sliceAt,Instr.slice,Sem.run_bind,run_underlying hu,Result.andThen_ok,hsb,yR h1,Sem.run_pure];congr 2;split
        . rfl
        . simp [zq]
       refine ⟨_,_,hk,xU ?_,hrun⟩;rw [zSB ht];have hlen:((es.take hh'.toNat).drop l.toNat).length=hh'.toNat - l.toNat:=by simp; omega
       simp only [RC];refine .inr ⟨b,if cap=l.toNat then o else o+l.toNat * P.cellsOf el,cap - l.toNat,(ds.take (hh'.toNat * sz)).drop (l.toNat * sz),?_,by rw [hlen]; omega,trivial,?_,?_,?_⟩
       . rw [hlen]; split <;> rfl
       . exact (zAb (fun x hx=>hf1 x (List.mem_of_mem_take hx)) (zAb hf1 hr hh'.toNat).1 l.toNat).2
       . exact ⟨sz,fun x hx=>hf1 x (List.mem_of_mem_take (List.mem_of_mem_drop hx)),fun _ _ _ e=>by cases e⟩
       . have hdl:ds.length=es.length * sz:=xq hf1 hr;by_cases ec:cap=l.toNat
         . rw [if_pos ec];have:(ds.take (hh'.toNat * sz)).drop (l.toNat * sz)=[]:=by
            apply List.drop_of_length_le;rw [List.length_take];have:hh'.toNat * sz<=l.toNat * sz:=Nat.mul_le_mul_right _ (by omega);omega
           rw [this];intro k u hk; simp at hk
         . rw [if_neg ec];rcases hszn with rfl | rfl
           . simp only [RCs] at hr; subst hr; intro k u hk; simp at hk
           . have:=ha.sub (l.toNat * P.cellsOf el) (hh'.toNat * P.cellsOf el - l.toNat * P.cellsOf el)
             rwa [List.take_drop,Nat.add_sub_cancel' (Nat.mul_le_mul_right _ (by omega))] at this
 . rename_i b o len cap;have e:=zh hx;subst e;split at h
   . cases h
   . rename_i el hel;have hu:=qe hel;obtain ⟨h1,h⟩:=h;obtain ⟨l,h,hl⟩:=jy h hlo.1 hlo.2;obtain ⟨hh',h,hh⟩:=jy h hhi.1 hhi.2;obtain ⟨⟨b0,b1,b2⟩,hk⟩:=h;have hsb:=jC (P:=P) (w:=w) (isS:=true) (len:=len) (cap:=cap) (lo:=ulo) (hi:=uhi) (cl hl) (hh.imp (fun h=>⟨h.2.1,h.2.2⟩) id) b0 b1 b2;refine ⟨_,_,hk,RV_at_mk rfl,?_⟩;simp only [Instr.sliceAt,Instr.slice,Sem.run_bind,run_underlying hu,Result.andThen_ok,hsb,yR h1,Sem.run_pure];congr 2;by_cases ec:cap=l.toNat
     . rw [if_pos ec,if_pos (by omega)]
     . rw [if_neg ec,if_neg (by omega)]; simp [zq]
 . rename_i s;have hu:=jx h.1;have e:=zh hx;subst e;obtain ⟨l,h,hl⟩:=jy h.2 hlo.1 hlo.2;obtain ⟨hh',h,hh⟩:=jy h hhi.1 hhi.2;obtain ⟨⟨b0,b1,b2⟩,hk⟩:=h;have hsb:=jC (P:=P) (w:=w) (isS:=false) (len:=s.size) (cap:=s.size) (lo:=ulo) (hi:=uhi) (cl hl) (hh.imp (fun h=>⟨h.2.1,h.2.2⟩) id) b0 b1 b2;refine ⟨_,_,hk,RV_at_mk rfl,?_⟩;simp [Instr.sliceAt,Instr.slice,run_underlying hu,hsb]
 . rename_i fs;obtain ⟨h1,h2,h3,rfl,rfl,hk⟩:=h;obtain ⟨e,hu,he,hc,ha⟩:=zJj h1;obtain ⟨b,o,ds,rfl,q1,q2⟩:=zCZ hx;have hl:=hlo.2 rfl; have hh:=hhi.2 rfl;subst hl; subst hh;have hsb:=jC (P:=P) (w:=w) (isS:=false) (len:=fs.length) (cap:=fs.length) (lo:=none) (hi:=none) (l:=0) (h:=fs.length) (.inl ⟨rfl,rfl⟩) (.inl ⟨rfl,rfl⟩) (by omega) (by omega) (by omega);have hpos:0 < fs.length:=List.length_pos_iff.2 h3;refine ⟨_,.slice (some ⟨b,o,none⟩) fs.length fs.length,hk,xU ?_,?_⟩
   . simp only [RC];exact .inr ⟨b,o,fs.length,ds,rfl,Nat.le_refl _,trivial,by simpa only [RC] using q1,⟨1,fun x hx=>zCu (List.all_eq_true.1 h2 x hx),fun _ _ _ e=>by cases e⟩,q2⟩
   . simp only [Instr.sliceAt,Sem.run_bind,run_underlying hu,Result.andThen_ok,Instr.sureAddr,Sem.run_pure,hsb,yR he];congr 2;rw [if_neg (by omega)];simp [zq]
 . cases h
end
open Go.RowKit
section
variable {P:Program} {X:Cx} {g:Gh} {w:World} {a:Act} {o:Oper} {st:S} {K:V->S->Prop} {KP:List PanicEntry->S->Prop}
theorem zJf {t e:TypeId} (h:mapT P t=some e):∃ k,P.underlying t=some (.map k e)/\P.underlying k=some .string:=by
 unfold mapT at h;split at h
 . rename_i k e' hu;split at h
   . rename_i hk;injection h with h
     subst h;exact ⟨k,hu,hk⟩
   . cases h
 . cases h
theorem zAw {k:TypeId} (hk:P.underlying k=some .string) (b:Bool) (n:Nat) (s:ByteArray):(Instr.checkKey b (n+1) k (.string s)).run P w = .ok () w:=by
 unfold Instr.checkKey;simp [Sem.run_bind,run_underlying hk]
theorem zAJ {k:TypeId} (hk:P.underlying k=some .string) {s:ByteArray} {es:List MapEntry} {r:Option (Nat×Value)} (h:Instr.findNow .string (.string s) es 0=some r):(Instr.findKey k (.string s) es).run P w = .ok r w:=by
 unfold Instr.findKey;simp [Sem.run_bind,run_underlying hk,h]
theorem zAu {b clock:Nat} {arr:Array MapEntry} (hb:w.heap[b]? = some (.map arr clock)):(getObj b).run P w = .ok (.map arr clock) w:=by simp [getObj,Sem.run,hb]
theorem zSo (z:Value) (h:one z=true):z=pack (cV1 z) [z]:=by
 unfold cV1;split <;> first | rfl | (simp [one] at h; done) | simp_all [pack]
theorem RV1_nm {x:V} {u:Value} (h:RV1 g.bare w x u):RV1 g w x u:=by
 obtain ⟨us,h1,h2⟩:=h;exact ⟨us,zEL g w x us h1,h2⟩
theorem zIp {v:V} {u:Value} (h:RV1 g w v u) (c ok:Bool):RV g w (outV c v ok) (if c=true then .tuple #[u,.bool ok] else u):=by
 unfold outV;split
 . exact ⟨[u,.bool ok],.cons h (.cons ⟨[.bool ok],by simp [RC,one],rfl⟩ .nil),rfl⟩
 . exact RV.of_RV1 h
theorem zV_ok {z:Value} (h:zOk z=true):RV1 g w (zV z) z:=by
 unfold zOk at h;split at h
 . rename_i cs;exact ⟨cs.toList,by simpa [RC,zV] using zEE g w cs.toList h,by simp [pack,zV]⟩
 . have e:zV z=cV1 z:=by unfold zV; split <;> first | rfl | simp_all
   rw [e];exact ⟨[z],zL7 g w z h,zSo z h⟩
theorem zMi {t:TypeId} {x i:V} {c:Bool} {K:V->Prop} (h:qt P st t x i c K) (hi:Inv X.B g st w) {ux ui:Value} (hx:RV g w x ux) (hix:RV g w i ui) :
 ∃ v u,K v/\RV g w v u/\(Instr.lookup t ux ui c).run P w = .ok u w:=by
 unfold qt at h;split at h
 . rename_i e s hm;obtain ⟨k,hu,hk⟩:=zJf hm;have e1:=zh hix; subst e1;split at h
   . rename_i z hz;obtain ⟨ho,h⟩:=h;obtain ⟨inf,hi1,hi2⟩:=jO hz;have hzr:(zeroValue e).run P w = .ok z w:=by simp [zeroValue,typeInfo,hi1,hi2]
     have hzv:RV1 g w (zV z) z:=zV_ok ho;split at h
     . have e2:=zh hx; subst e2;refine ⟨_,_,h,zIp hzv c false,?_⟩;have hf:Instr.findNow .string (.string s) [] 0=some none:=rfl;simp [Instr.lookup,Sem.run_bind,run_underlying hu,zAw hk,zAJ hk hf,hzr]
     . rename_i b;have e2:=zh hx; subst e2;split at h
       . rename_i o fp hl;obtain ⟨⟨_,arr,clock,hb,hr⟩,_⟩:=hi.ex.ob b _ fp hl;rcases zDR s 0 hr with ⟨h5,h6⟩ | ⟨v,u,j,h5,h6,h7,_,_,_⟩
         . rw [h5] at h;refine ⟨_,_,h,zIp hzv c false,?_⟩;simp [Instr.lookup,Sem.run_bind,run_underlying hu,zAu hb,zAw hk,zAJ hk h6,hzr]
         . rw [h5] at h;refine ⟨_,_,h,zIp (RV1_nm h6) c true,?_⟩;simp [Instr.lookup,Sem.run_bind,run_underlying hu,zAu hb,zAw hk,zAJ hk h7]
       . cases h
     . cases h
   . cases h
 . cases h
theorem zl (k:Nat) (c:OV×List Nat) (r:List (Nat×OV×List Nat)) (b:Nat):zN ((k,c)::r) b=if k=b then some c else zN r b:=rfl
theorem zKG (h:zER st K) (hi:Inv X.B g st w) (t:TypeId) :
 ∃ v u g' st' w',K v st'/\Out X.B g w g' st' w'/\RV g' w' v u/\(Instr.makeMap t none).run P w = .ok u w':=by
 have hno:zN st.ob w.heap.size=none:=by
  cases hq:zN st.ob w.heap.size with
  | none=>rfl
  | some p=>exact absurd ((hi.ex.ob _ p.1 p.2 hq).2.2 _ (hi.ex.ob _ p.1 p.2 hq).2.1).2.1 (Nat.lt_irrefl _)
 have hlf:=zA2 hi;have hof:=zB0 hi;have hold:∀ b,b < w.heap.size->(w.alloc (.map #[] 0)).heap[b]? = w.heap[b]?:=fun b hb=>zDN w _ b hb;have hsz:(w.alloc (.map #[] 0)).heap.size=w.heap.size+1:=by simp
 have hl:Later g w g (w.alloc (.map #[] 0)):=zE2 hi.fresh hold (fun _=>Nat.le_refl _) (fun _ _ e=>e);have hb:Below X.B w (w.alloc (.map #[] 0)):=(Below.refl _ _).alloc hi.base _;have hg:=hi.grow (w':=w.alloc (.map #[] 0)) hl (by omega) hold (fun _ _=>rfl) (fun b hb=>hi.fresh b (by omega)) rfl rfl;refine ⟨_,.map (some w.heap.size),g,_,w.alloc (.map #[] 0),h _ hno,⟨⟨hl,hb,fun b hb=>⟨hold b (hi.ex.frz b hb).1,rfl⟩,fun _ _=>rfl,rfl⟩,?_⟩,RV_at_mk rfl,rfl⟩;refine ⟨hg.base,hg.box,hg.tag,hg.own,hg.dist,hg.nodup,hg.fresh,hg.names,hg.ex.frz,fun b o fp hl2=>?_,fun b o fp b' o' fp' j h1 h2 h3 h4=>?_,hg.ex.ft⟩
 . rw [zl] at hl2;split at hl2
   . rename_i e1;injection hl2 with hl2
     injection hl2 with e2 e3
     subst e1; subst e2; subst e3;refine ⟨⟨rfl,#[],0,kR w _,rfl⟩,by simp,fun j hj=>?_⟩;have:j=w.heap.size:=by simpa using hj
     subst this;exact ⟨hi.base,by omega,hi.fresh _ (Nat.le_refl _),hlf,hof,hi.newFr⟩
   . exact hg.ex.ob b o fp hl2
 . rw [zl] at h1 h2;split at h1
   . rename_i e1;injection h1 with h1
     injection h1 with _ e3
     subst e1; subst e3;have:j=w.heap.size:=by simpa using h3
     subst this;split at h2
     . assumption
     . exact absurd h4 (hi.newOb b' o' fp' h2)
   . split at h2
     . rename_i e1;injection h2 with h2
       injection h2 with _ e3
       subst e1; subst e3;have:j=w.heap.size:=by simpa using h4
       subst this;exact absurd h3 (hi.newOb b o fp h1)
     . exact hg.ex.obd b o fp b' o' fp' j h1 h2 h3 h4
theorem jw {w:World} {b:Nat} {o:Obj} (o':Obj) (h:w.heap[b]? = some o):(w.putObj b o').heap[b]? = some o':=by
 have hb:=(Array.getElem?_eq_some_iff.1 h).1;simp [World.putObj,hb]
theorem kQ {w:World} {b clock:Nat} {arr:Array MapEntry} (h:w.heap[b]? = some (.map arr clock)) (o:Nat):w.cell? ⟨b,o,none⟩=none:=by simp [World.cell?,h]
theorem zEj {B:Nat} (hi:Inv B g st w) {b clock clock':Nat} {o o':MC} {fp:List Nat} {arr arr':Array MapEntry} (hl:zN st.ob b=some (.mp o,fp)) (hb:w.heap[b]? = some (.map arr clock))
 (hr:MapR g (w.putObj b (.map arr' clock')) o' arr'.toList):Out B g w g ⟨st.box,st.tg,st.nx,(b,.mp o',fp)::st.ob⟩ (w.putObj b (.map arr' clock')):=by
 obtain ⟨⟨hfp,_⟩,hm,hjf⟩:=hi.ex.ob b _ fp hl;subst hfp;obtain ⟨j1,j2,j3,j4,j5,j6⟩:=hjf b (by simp);have hoth:∀ j,j≠b->(w.putObj b (.map arr' clock')).heap[j]? = w.heap[j]?:=fun j hj=>World.putObj_heap_other hj;have hnew:=jw (.map arr' clock') hb;have hsz:(w.putObj b (.map arr' clock')).heap.size=w.heap.size:=by simp [World.putObj]
 have hla:Later g w g (w.putObj b (.map arr' clock')):=⟨fun _=>Nat.le_refl _,fun _ _ e=>e,fun j o ho=>by
  by_cases e:j=b
  . subst e; rw [kQ hnew,kQ hb]
  . exact World.cell?_of_block (hoth j e)⟩
 have hnc:∀ {j:Nat} {a:Array Value} {el:TypeId} {m:Nat×Nat},w.heap[j]? = some (.cells a el m)->j≠b:=fun hj e=>by subst e; rw [hb] at hj; cases hj
 refine ⟨⟨hla,⟨rfl,rfl,rfl,by rw [hsz]; exact Nat.le_refl _,fun j hj=>hoth j (by omega)⟩,fun j hj=>⟨hoth j (fun e=>by subst e; rw [j6] at hj; cases hj),rfl⟩,fun _ _=>rfl,rfl⟩,?_⟩;refine ⟨by rw [hsz]; exact hi.base,fun b' cs k hl2=>?_,hi.tag,fun t ht b' cap n sz hb'=>?_,hi.dist,hi.nodup,fun j hj=>hi.fresh j (by rw [hsz] at hj; exact hj),hi.names,fun j hj=>?_,fun b' o2 fp2 hl2=>?_,fun b1 o1 fp1 b2 o2 fp2 j h1 h2 h3 h4=>?_,hi.ex.ft⟩
 . obtain ⟨q1,q2,q3,q4,arr2,el2,us2,q5,q6,q7,q8⟩:=hi.box b' cs k hl2;exact ⟨q1,q2,q3,q4,arr2,el2,us2,(hoth b' (hnc q5)).trans q5,q6,zg hla _ _ q7,q8⟩
 . obtain ⟨q1,q2,q3,q4,q5,arr2,el2,q6,q7⟩:=hi.own t ht b' cap n sz hb';exact ⟨q1,q2,q3,q4,q5,arr2,el2,(hoth b' (hnc q6)).trans q6,q7⟩
 . rw [hsz]; exact hi.ex.frz j hj
 . rw [zl] at hl2;split at hl2
   . rename_i e1;injection hl2 with hl2
     injection hl2 with e2 e3
     subst e1; subst e2; subst e3;refine ⟨⟨rfl,arr',clock',hnew,hr⟩,hm,fun j hj2=>?_⟩;rw [hsz]; exact hjf j hj2
   . rename_i e1;obtain ⟨k1,k2,k3⟩:=hi.ex.ob b' o2 fp2 hl2;refine ⟨k1.local hla (fun j hj2=>hoth j (fun e=>?_)),k2,fun j hj2=>by rw [hsz]; exact k3 j hj2⟩;subst e;exact e1 (hi.ex.obd j (.mp o) [j] b' o2 fp2 j hl hl2 (by simp) hj2)
 . have back:∀ {b3:Nat} {o3:OV} {fp3:List Nat},zN ((b,.mp o',[b])::st.ob) b3=some (o3,fp3)->∃ o4,zN st.ob b3=some (o4,fp3):=fun {b3 o3 fp3} h5=>by
    rw [zl] at h5;split at h5
    . rename_i e1;injection h5 with h5
      injection h5 with _ e3
      subst e1; subst e3;exact ⟨.mp o,hl⟩
    . exact ⟨o3,h5⟩
   obtain ⟨o3,h5⟩:=back h1;obtain ⟨o4,h6⟩:=back h2;exact hi.ex.obd b1 o3 fp1 b2 o4 fp2 j h5 h6 h3 h4
theorem zHT {w:World} {b clock:Nat} {arr:Array MapEntry} (o':Obj) (h:w.heap[b]? = some (.map arr clock)):(setObj b o').run P w = .ok () (w.putObj b o'):=by
 have hb:=(Array.getElem?_eq_some_iff.1 h).1;simp [setObj,Sem.run,World.putObj,h]
theorem zHC (s:ByteArray):(Instr.keyThatStays (.string s) (.string s)).run P w = .ok (.string s) w:=by
 unfold Instr.keyThatStays;have:Instr.sameBits 10000 (.string s) (.string s)=true:=zT5 s;simp [this]
theorem zIM {t:TypeId} {x i y:V} {K:S->Prop} (h:xl P st t x i y K) (hi:Inv X.B g st w) {ux ui uy:Value} (hx:RV g w x ux) (hix:RV g w i ui) (hy:RV g w y uy) :
 ∃ st' w',K st'/\Out X.B g w g st' w'/\(Instr.mapUpdate t ux ui uy).run P w = .ok () w':=by
 unfold xl at h;cases hm:mapT P t with
 | none=>simp only [hm] at h
 | some e=>
 simp only [hm] at h;obtain ⟨k,hu,hk⟩:=zJf hm;split at h
 . rename_i b s _;have e1:=zh hix; subst e1;have e2:=zh hx; subst e2;split at h
   . rename_i o fp hl;obtain ⟨h1,h2⟩:=h;obtain ⟨⟨_,arr,clock,hb,hr⟩,_⟩:=hi.ex.ob b _ fp hl;have hyn:RV1 g.bare w y.untag uy:=by
      have h3:RV1 g w y uy:=zSY hy (fun e=>by subst e; simp [V.flat,V.isOne] at h1) (fun vs e=>by subst e; simp [V.flat,V.isOne] at h1);obtain ⟨us,k1,k2⟩:=h3;exact ⟨us,zAY k1 (by unfold zH; exact h1),by rw [zCM]; exact k2⟩
     have hrun:∀ r,(Instr.findKey k (.string s) arr.toList).run P w = .ok r w->(Instr.mapUpdate t (.map (some b)) (.string s) uy).run P w=(match r with
      | some (j,_)=>(do let key <- Instr.keyThatStays (((arr[j]?).map (·.key)).getD (.string s)) (.string s); setObj b (.map (arr.modify j fun e=>{ e with key,val:=uy }) clock):Sem Unit).run P w
      | none=>(setObj b (.map (arr.push { key:=.string s,val:=uy,born:=clock }) (clock+1))).run P w):=fun r hf=>by
      unfold Instr.mapUpdate;simp only [Sem.run_bind,run_underlying hu,Result.andThen_ok,zAu hb,zAw hk,hf];cases r with
      | none=>rfl
      | some p=>obtain ⟨j,u⟩:=p; simp only [Sem.run_bind]
     rcases zDR s 0 hr with ⟨h5,h6⟩ | ⟨v,u,j,h5,h6,h7,h8,h9,h10⟩
     . refine ⟨_,_,h2,?_,(hrun none (zAJ hk h6)).trans (zHT _ hb)⟩;refine zEj hi hl hb ?_;have:=zMB s hyn clock hr h5;have hla:=(zEj (o':=o) (arr':=arr) (clock':=clock) hi hl hb (hr.later ⟨fun _=>Nat.le_refl _,fun _ _ e=>e,fun q o _=>by
        by_cases e:q=b
        . subst e; rw [kQ (jw _ hb),kQ hb]
        . exact World.cell?_of_block (World.putObj_heap_other e)⟩)).step.later
       have hl2:Later g w g (w.putObj b (.map (arr.push { key:=.string s,val:=uy,born:=clock }) (clock+1))):=⟨fun _=>Nat.le_refl _,fun _ _ e=>e,fun q o _=>by
        by_cases e:q=b
        . subst e; rw [kQ (jw _ hb),kQ hb]
        . exact World.cell?_of_block (World.putObj_heap_other e)⟩
       have:=this.later hl2;simpa using this
     . refine ⟨_,w.putObj b (.map (arr.modify (0+j) fun e=>{ e with key:=.string s,val:=uy }) clock),h2,?_,(hrun (some (0+j,u)) (zAJ hk h7)).trans ?_⟩
       rotate_left
       . have e3:((arr[0+j]?).map (·.key)).getD (.string s) = .string s:=by
          rw [Nat.zero_add];rw [<- Array.getElem?_toList,h9]; rfl
         simp only [e3,Sem.run_bind,zHC,Result.andThen_ok];exact zHT _ hb
       . refine zEj hi hl hb ?_;have hl2:Later g w g (w.putObj b (.map (arr.modify (0+j) fun e=>{ e with key:=.string s,val:=uy }) clock)):=⟨fun _=>Nat.le_refl _,fun _ _ e=>e,fun q o _=>by
          by_cases e:q=b
          . subst e; rw [kQ (jw _ hb),kQ hb]
          . exact World.cell?_of_block (World.putObj_heap_other e)⟩
         have:=(h10 _ _ hyn).later hl2;rw [Nat.zero_add] at this ⊢;simpa using this
   . cases h
 . cases h
theorem zLV {g:Gh} {w:World}:∀ {es:List V} {us vs:List Value},atsV es=some us->RCs g w es vs->vs=us
 | [],us,vs,h,h2=>by
  injection h with h; subst h
  simpa [RCs] using h2
 | x::r,us,vs,h,h2=>by
  simp only [RCs] at h2;obtain ⟨u1,u2,rfl,h3,h4⟩:=h2;unfold atsV at h;split at h
  . rename_i e; cases e
  . rename_i v r' e;injection e with e1 e2
    subst e1 e2;cases hb:atsV r with
    | none=>rw [hb] at h; cases h
    | some ms=>
     rw [hb] at h;injection h with h
     subst h;simp only [RC] at h3;rw [h3.1,zLV hb h4];rfl
  . cases h
theorem zSL {x:V} (h:zOj x=true):∃ v,x = .at v:=by cases x <;> first | exact ⟨_,rfl⟩ | cases h
theorem zNv {α:Type} (f:α->V) (h:α->Value):∀ (l:List α),(∀ x ∈ l,RV g w (f x) (h x))->(l.map f).all zOj=true->RCs g.bare w (l.map f) (l.map h)
 | [],_,_=>by simp [RCs]
 | x::r,hl,ha=>by
  simp only [List.map_cons,List.all_cons,Bool.and_eq_true] at ha ⊢;have ih:=zNv f h r (fun y hy=>hl y (List.mem_cons_of_mem _ hy)) ha.2;have hx:=hl x (List.mem_cons_self ..);simp only [RCs];refine ⟨[h x],r.map h,rfl,?_,ih⟩;obtain ⟨v,hv⟩:=zSL ha.1;rw [hv] at hx ⊢;have e:=zh hx;have o:=zQN hx;rw [e];simp [RC,o]
theorem zOY {fn:Fn} {first caps:List Operand} {ev:Operand->V} {eval:Operand->Value} {K:V->Prop} (h:zHt fn (first.map ev) (caps.map ev) K) (hr:∀ x,RV g w (ev x) (eval x)):first=[]/\∃ v,K v/\RV g w v (.func fn #[] (caps.map eval).toArray):=by
 unfold zHt at h;split at h
 . rename_i n hf;obtain ⟨h1,h2⟩:=h;refine ⟨by simpa using hf,_,h2,⟨[.func (.func n) #[] (caps.map eval).toArray],?_,rfl⟩⟩;simp only [RC];exact ⟨caps.map eval,zNv ev eval caps (fun x _=>hr x) h1,rfl⟩
 . cases h
theorem zKL {t:TypeId} {x:V} {K:V->Prop} (h:zEe P t x K) {ux:Value} (hx:RV g w x ux):∃ v u,K v/\RV g w v u/\(Instr.makeInterface t ux).run P w = .ok u w:=by
 obtain ⟨hc,h⟩:=h;have hrun:(Instr.makeInterface t ux).run P w = .ok (.iface t ux) w:=run_makeInterface _ t ux hc;split at h
 . rename_i v;have e:=zh hx; subst e;exact ⟨_,_,h,RV_at_mk rfl,hrun⟩
 . obtain ⟨us,h1,h2⟩:=zDv hx;split at h
   . rename_i us' hus;obtain rfl:=zLV hus h1;subst h2;exact ⟨_,_,h,RV_at_mk rfl,hrun⟩
   . exact ⟨_,_,h,RV.of_RV1 ⟨[.iface t ux],⟨_,_,rfl⟩,rfl⟩,hrun⟩
 . exact ⟨_,_,h,⟨[.iface t ux],by simp only [RC]; exact ⟨t,ux,rfl⟩,rfl⟩,hrun⟩
theorem zNB {w':World} {v:Value} {Q:Exit->Act->World->Prop} {K:Act->World->Prop} (h:(execOp a.eval o).run P w = .halt (.panic v) w') (hk:Q (.panic [{ v,recovered:=false }]) a w'):o.wp P a w K Q:=by
 unfold Oper.wp Oper.upon;rw [h]; exact hk
theorem zM1 {x:V} {KP:List PanicEntry->Prop} (h:zIi x KP) {ux:Value} (hx:RV g w x ux):∃ v,KP [{ v,recovered:=false }]/\(Instr.panic ux).run P w = .halt (.panic v) w:=by
 unfold zIi at h;split at h
 . have e:=zh hx; subst e;exact ⟨_,h,rfl⟩
 . cases h
end
open Go.RowKit
section
variable {P:Program} {L:Pol} {X:Cx} {g:Gh} {w:World} {a:Act} {o:Oper} {e:Env} {st:S} {K:V->S->Prop} {KP:List PanicEntry->S->Prop}
theorem zE7 {x:V} {u:Value} (h:RV1 g.bare w x u):RV1 g w x u:=let ⟨us,h1,h2⟩:=h; ⟨us,zEL g w x us h1,h2⟩
theorem zJc {xs:List V} {us:List Value} (h:RVs g.bare w xs us):RVs g w xs us:=by
 induction h with
 | nil=>exact .nil
 | cons h _ ih=>exact .cons (zE7 h) ih
theorem zSW {x:V} {u:Value} (h:RV g.bare w x u):RV g w x u:=by
 cases x with
 | any=>trivial
 | tup vs=>obtain ⟨us,h1,h2⟩:=h; exact ⟨us,zJc h1,h2⟩
 | _=>exact zE7 h
theorem zJ4 (hr:Rel X g e st a w):∀ (xs:List Operand),(∀ x ∈ xs.map e.ev,zH x.flat)->RVs g.bare w ((xs.map e.ev).map V.untag) (xs.map a.eval)
 | [],_=>.nil
 | x::xs,h=>by
  obtain ⟨us,h1,_,h3⟩:=zCm (hr.ev x) (h _ (by simp));exact .cons ⟨us,zAY h1 (h _ (by simp)),by rw [h3,zCM]⟩ (zJ4 hr xs fun y hy=>h y (by simp only [List.map_cons,List.mem_cons]; exact .inr hy))
theorem zHo {xs ys:List V} {us vs:List Value} (h:RVs g w xs us) (h':RVs g w ys vs):RVs g w (xs++ys) (us++vs):=by
 induction h with
 | nil=>exact h'
 | cons h _ ih=>exact .cons h ih
theorem zBM:∀ {xs:List V} {us:List Value},zH xs->RCs g w xs us->RVs g w xs us
 | [],us,_,h=>by simp only [RCs] at h; subst h; exact .nil
 | x::xs,us,h1,h=>by
  simp only [zH,List.all_cons,Bool.and_eq_true] at h1;simp only [RCs] at h;obtain ⟨u1,u2,rfl,h2,h3⟩:=h;obtain ⟨u,rfl⟩:=zBw h2 h1.1;refine .cons ⟨[u],h2,?_⟩ (zBM h1.2 h3);cases x <;> simp [V.isOne] at h1 <;> rfl
theorem zGr (hr:Rel X g e st a w):∀ (xs:List Operand),(∀ x ∈ xs.map e.ev,zH x.flat)->RVs g w (xs.map e.ev) (xs.map a.eval)
 | [],_=>.nil
 | x::xs,h=>by
  obtain ⟨us,h1,_,h3⟩:=zCm (hr.ev x) (h _ (by simp));exact .cons ⟨us,h1,h3⟩ (zGr hr xs fun y hy=>h y (by simp only [List.map_cons,List.mem_cons]; exact .inr hy))
theorem zNV {xs as:List V} (h:Sub xs as):∀ {us:List Value},RVs g w xs us->RVs g.bare w (xs.map V.untag) us->RVs g w as us:=by
 induction h with
 | nil=>intro us h _; exact h
 | keep _ ih=>
  intro us h h';cases h with
  | cons p q=>cases h' with
   | cons p' q'=>exact .cons p (ih q q')
 | drop _ ih=>
  intro us h h';cases h with
  | cons p q=>cases h' with
   | cons p' q'=>exact .cons (zE7 p') (ih q q')
theorem zMS {wm:Nat->Nat} {tb:Nat->Option (Option (Nat×Nat×Nat×Nat))} (f f':Fr) (w:World):Later ⟨wm,tb,f⟩ w ⟨wm,tb,f'⟩ w:=⟨fun _=>Nat.le_refl _,fun _ _ e=>e,fun _ _ _=>rfl⟩
theorem RV.fr {wm:Nat->Nat} {tb:Nat->Option (Option (Nat×Nat×Nat×Nat))} {w:World} (f f':Fr) {x:V} {u:Value} (h:RV ⟨wm,tb,f⟩ w x u):RV ⟨wm,tb,f'⟩ w x u:=h.later (zMS f f' w)
theorem RVs.fr {wm:Nat->Nat} {tb:Nat->Option (Option (Nat×Nat×Nat×Nat))} {w:World} (f f':Fr) {xs:List V} {us:List Value} (h:RVs ⟨wm,tb,f⟩ w xs us):RVs ⟨wm,tb,f'⟩ w xs us:=h.later (zMS f f' w)
theorem zPl (hr:Rel X g e st a w) {f:FuncId} {args:List V} {r:V} (h:PureF P f args r) {vs:List Value} (hv:RVs g.bare w args vs) :
 Calls P f vs.toArray w fun en w'=>∃ v g',en = .returned v/\Out X.B g w g' st w'/\RV g' w' r v:=by
 refine (h g.wm w vs hr.inv.fresh (hr.gl.mono hr.inv.base) (hv.fr g.fr Fr.no)).mono ?_;rintro en w' ⟨v,wm',rfl,h1,h2,h3⟩;have hbase:=hr.inv.base;have hl:Later g w ⟨wm',g.tb,g.fr⟩ w':=⟨h2.later.wm,fun _ _ e=>e,h2.later.cell⟩;refine ⟨v,⟨wm',g.tb,g.fr⟩,rfl,⟨⟨hl,h2.below.mono hbase,fun b hb=>⟨h2.below.block b (hr.inv.ex.frz b hb).1,h2.wmB b (hr.inv.ex.frz b hb).1⟩,fun b hb=>h2.wmB b (by omega),rfl⟩,hr.inv.grow hl h2.below.size (fun b hb=>h2.below.block b hb) (fun b hb=>h2.wmB b hb) h1 rfl rfl⟩,zSW (g:=⟨wm',g.tb,g.fr⟩) (RV.fr Fr.no g.fr h3)⟩
theorem zAv {n:FuncId} (h:zZ P n=true) (args:Array Value):(callFunc n args).run P w = .ok (.enter n args) w:=by
 unfold zZ at h;cases hf:P.funcs[n]? with
 | none=>simp [hf] at h
 | some fn=>
  simp only [hf,Bool.and_eq_true,bne_iff_ne,ne_eq] at h;have hb:fn.body.isNone=false:=by cases hq:fn.body <;> simp [hq] at h ⊢
  have hb':fn.body≠none:=by intro e; rw [e] at hb; cases hb
  simp [callFunc,hf,h.1,hb']
theorem zO1 {c:Call} {f:Operand} (hop:o.op = .call c) (hc:c.callee = .value f) (hr:Rel X g e st a w) {kb:List Nat} (h:zCL P L kb (e.ev f) (c.args.toList.map e.ev) st K KP) :
 o.wp P a w (zHy X g w o a K) (zH8 X g w a KP):=by
 unfold zCL at h;split at h
 . rename_i n caps hfe;obtain ⟨hcode,hargs0,hcap,h⟩:=h;have hargs:∀ x ∈ c.args.toList.map e.ev,zH x.flat:=fun x hx=>List.all_eq_true.1 hargs0 x hx;have hf:=hr.ev f;rw [hfe] at hf;obtain ⟨ds,hds,hfv⟩:=zQS hf;have hrun:(execOp a.eval o).run P w = .ok (.enter n ((c.args.toList.map a.eval++ds).toArray)) w:=by
    unfold execOp;rw [hop];simp only [resolve,hc,hfv,Deferred.ofValue,Sem.run_bind,Sem.run_pure,Result.andThen_ok,invoke];rw [zAv hcode];congr 2;apply Array.ext';simp
   have hav:=zJ4 hr c.args.toList hargs;unfold Oper.wp Oper.upon;rw [hrun];simp only;split at h
   . obtain ⟨rfl,r,hp,hk⟩:=h;simp only [RCs] at hds;subst hds;rw [List.append_nil];refine (zPl hr hp hav).mono ?_;rintro en w' ⟨v,g',rfl,h1,h2⟩;exact ⟨v,r,g',st,rfl,h1,h2,hk⟩
   split at h
   . obtain ⟨as,r,hsub,h,hk⟩:=h;have hvs:RVs g w (as++caps) (c.args.toList.map a.eval++ds):=by
      exact zHo (zNV hsub (zGr hr c.args.toList hargs) hav) (zBM hcap (kv g w _ _ hds))
     refine (h X.B g w _ hr.inv hr.gl hvs).mono ?_;rintro en w' ⟨g',st',h1,h2,h3⟩;cases en with
     | returned v=>
      obtain ⟨r',h4,h5,rfl⟩:=h3;injection h5 with h5
      subst h5;exact ⟨v,r',g',st',rfl,⟨h1,h2⟩,h4,hk⟩
     | panicked ch=>cases h3.1
     | outgrown=>exact h3.elim
   . obtain ⟨as,hsub,h⟩:=h;have hvs:RVs g w (as++caps) (c.args.toList.map a.eval++ds):=by
      exact zHo (zNV hsub (zGr hr c.args.toList hargs) hav) (zBM hcap (kv g w _ _ hds))
     refine (h X.B g w _ hr.inv hr.gl hvs).mono ?_;rintro en w' ⟨g',st',h1,h2,h3⟩;cases en with
     | returned v=>obtain ⟨r,h4,_,h5⟩:=h3; exact ⟨v,r,g',st',rfl,⟨h1,h2⟩,h4,h5⟩
     | panicked ch=>exact ⟨ch,g',st',rfl,rfl,⟨h1,h2⟩,h3⟩
     | outgrown=>exact h3.elim
 . cases h
theorem zG6 (hr:Rel X g e st a w):∀ (ps:List (Nat×Operand)),Parts g w (ps.map fun p=>(p.1,e.ev p.2)) (ps.map fun p=>(p.1,a.eval p.2))
 | []=>.nil
 | p::ps=>.cons (hr.ev p.2) (zG6 hr ps)
theorem zRB (h:aop P L e st o K KP) (hr:Rel X g e st a w):o.wp P a w (zHy X g w o a K) (zH8 X g w a KP):=by
 unfold aop at h;split at h
 . rename_i x hop;exact yk hr.inv (by unfold execOp; rw [hop]; rfl) (hr.ev x) h
 . rename_i x hop;exact yk hr.inv (by unfold execOp; rw [hop]; rfl) (hr.ev x) h
 . rename_i c x y hop;obtain ⟨v,t,hk,hc,hv⟩:=zOu h (hr.ev c) (hr.ev x) (hr.ev y);exact yk hr.inv (u:=if t then a.eval x else a.eval y) (by unfold execOp; rw [hop]; simp [hc,asBool]) hv hk
 . rename_i op t x y yt hop;obtain ⟨v,hk,h1,hrun⟩:=zPL (P:=P) (ox:=x) (oy:=y) h (hr.ev x) (hr.ev y);exact yk hr.inv (by unfold execOp; rw [hop]; exact y7 hrun) (RV_at_mk h1) hk
 . rename_i op t x hop;obtain ⟨v,hk,h1,hrun⟩:=zRk (P:=P) h (hr.ev x);exact yk hr.inv (by unfold execOp; rw [hop]; exact y7 hrun) (RV_at_mk h1) hk
 . rename_i x i hop;obtain ⟨v,u,hk,hv,hrun⟩:=zKC (P:=P) h (hr.ev x);exact yk hr.inv (by unfold execOp; rw [hop]; exact y7 hrun) hv hk
 . rename_i t x f hop;obtain ⟨v,u,hk,hv,hrun⟩:=zH9 h (hr.ev x);exact yk hr.inv (by unfold execOp; rw [hop]; exact y7 hrun) hv hk
 . rename_i t x i hop;obtain ⟨v,u,hk,hv,hrun⟩:=zIO h (hr.ev x) (hr.ev i);exact yk hr.inv (by unfold execOp; rw [hop]; exact y7 hrun) hv hk
 . rename_i t x i hop;obtain ⟨v,u,hk,hv,hrun⟩:=zM6 h (hr.ev x) (hr.ev i);exact yk hr.inv (by unfold execOp; rw [hop]; exact y7 hrun) hv hk
 . rename_i t x hop;obtain ⟨v,u,hk,hv,hrun⟩:=zEK h.2 hr.inv (hr.ev x);exact yk hr.inv (by unfold execOp; rw [hop]; exact y7 hrun) hv hk
 . rename_i t x y hop;obtain ⟨st',w',hk,ho,hrun⟩:=zM0 h.2 hr.inv (hr.ev x) (hr.ev y);exact zHr (by unfold execOp; rw [hop]; exact zKS hrun) ⟨undef,.any,g,st',rfl,ho,trivial,hk⟩
 . rename_i t hop;obtain ⟨v,u,g',st',w',hk,ho,hv,hrun⟩:=zNA h hr.inv (.tuple #[]);exact jF (by unfold execOp; rw [hop]; exact y7 hrun) ⟨u,v,g',st',rfl,ho,hv,hk⟩
 . rename_i t x hop;obtain ⟨v,u,g',st',w',hk,ho,hv,hrun⟩:=zRC (P:=P) (t:=t) h hr.inv (hr.ev x);exact jF (by unfold execOp; rw [hop]; exact y7 hrun) ⟨u,v,g',st',rfl,ho,hv,hk⟩
 . rename_i t parts hop;obtain ⟨v,u,hk,hv,hrun⟩:=zKr h (zG6 hr parts.toList);refine yk hr.inv ?_ hv hk;unfold execOp; rw [hop];refine y7 ?_;have:(parts.map fun x=>(x.1,a.eval x.2))=(parts.toList.map fun p=>(p.1,a.eval p.2)).toArray:=by apply Array.ext'; simp
   rw [<- hrun,<- this]
 . rename_i t n parts hop;obtain ⟨v,u,g',st',w',hk,ho,hv,hrun⟩:=zHM h hr.inv (zG6 hr parts.toList);refine jF ?_ ⟨u,v,g',st',rfl,ho,hv,hk⟩;unfold execOp; rw [hop];refine y7 ?_;have:(parts.map fun x=>(x.1,a.eval x.2))=(parts.toList.map fun p=>(p.1,a.eval p.2)).toArray:=by apply Array.ext'; simp
   rw [<- hrun,<- this]
 . rename_i x hop;obtain ⟨hk,ad,hu⟩:=zJR h (hr.ev x);refine yk hr.inv (u:=a.eval x) ?_ (hr.ev x) hk;unfold execOp; rw [hop]; simp [hu]
 . rename_i t x lo hi mx hop;obtain ⟨hmx,h⟩:=h;have hmx':mx=none:=by simpa using hmx
   subst hmx';obtain ⟨v,u,hk,hv,hrun⟩:=zM8 h (hr.ev x) (zJp hr lo) (zJp hr hi);exact yk hr.inv (by unfold execOp; rw [hop]; exact y7 hrun) hv hk
 . rename_i c hop;split at h
   . rename_i f hc;exact zO1 hop hc hr h
   . rename_i b hc;unfold jd at h;have hex:∀ {u w'},(builtin b c.argTypes o.type (c.args.map fun | .const _=>true | _=>false) (c.args.toList.map a.eval).toArray).run P w = .ok (.value u) w'->(execOp a.eval o).run P w = .ok (.value u) w':=by
      intro u w' hh;unfold execOp; rw [hop];simp only [resolve,hc,Sem.run_bind,Sem.run_pure,Result.andThen_ok,invoke];rw [<- hh];congr 2;apply Array.ext'; simp
     split at h
     . rename_i t ts x hts hargs;have ha:∃ ox,c.args.toList=[ox]/\e.ev ox=x:=by
        cases hq:c.args.toList with
        | nil=>simp [hq] at hargs
        | cons ox rest=>cases rest with
         | nil=>simp [hq] at hargs; exact ⟨ox,rfl,hargs⟩
         | cons _ _=>simp [hq] at hargs
       obtain ⟨ox,hox,rfl⟩:=ha;obtain ⟨v,hk,h1,hrun⟩:=zRQ (P:=P) h (hr.ev ox) ts o.type;refine yk hr.inv (hex ?_) (RV_at_mk h1) hk;have e1:c.argTypes=(t::ts).toArray:=by apply Array.ext'; simpa using hts
       rw [hox,e1];exact y7 hrun
     . rename_i t t2 x y hts hargs;have ha:∃ ox oy,c.args.toList=[ox,oy]/\e.ev ox=x/\e.ev oy=y:=by
        cases hq:c.args.toList with
        | nil=>simp [hq] at hargs
        | cons ox rest=>cases rest with
         | nil=>simp [hq] at hargs
         | cons oy rest=>cases rest with
          | nil=>simp [hq] at hargs; exact ⟨ox,oy,rfl,hargs.1,hargs.2⟩
          | cons _ _=>simp [hq] at hargs
       obtain ⟨ox,oy,hox,rfl,rfl⟩:=ha;obtain ⟨v,u,g',st',w',hk,ho,hv,hrun⟩:=zLL (P:=P) h hr.inv (hr.ev ox) (hr.ev oy) o.type;refine jF (hex ?_) ⟨u,v,g',st',rfl,ho,hv,hk⟩;have e1:c.argTypes = #[t,t2]:=by apply Array.ext'; simpa using hts
       have e2:t2=t:=by
        unfold xE at h;split at h
        . exact h.1
        . exact h.1
        . cases h
       subst e2;rw [hox,e1];exact y7 hrun
     . rename_i t ts x hts hargs;have ha:∃ ox,c.args.toList=[ox]/\e.ev ox=x:=by
        cases hq:c.args.toList with
        | nil=>simp [hq] at hargs
        | cons ox rest=>cases rest with
         | nil=>simp [hq] at hargs; exact ⟨ox,rfl,hargs⟩
         | cons _ _=>simp [hq] at hargs
       obtain ⟨ox,hox,rfl⟩:=ha;obtain ⟨st',w',hk,ho,hrun⟩:=zMr (P:=P) h hr.inv (hr.ev ox) ts o.type;refine jF (hex ?_) ⟨.tuple #[],.tup [],g,st',rfl,ho,⟨[],.nil,rfl⟩,hk⟩;have e1:c.argTypes=(t::ts).toArray:=by apply Array.ext'; simpa using hts
       rw [hox,e1];exact y7 hrun
     . cases h
   . exact h.elim
 . rename_i f t x hop;obtain ⟨v,hk,h1,hrun⟩:=zPX (P:=P) h (hr.ev x);exact yk hr.inv (by unfold execOp; rw [hop]; exact y7 hrun) (RV_at_mk h1) hk
 . rename_i t r hop;obtain ⟨hr0,h⟩:=h;have hr1:r=none:=by simpa using hr0
   subst hr1;obtain ⟨v,u,g',st',w',hk,ho,hv,hrun⟩:=zKG (P:=P) h hr.inv t;exact jF (by unfold execOp; rw [hop]; exact y7 hrun) ⟨u,v,g',st',rfl,ho,hv,hk⟩
 . rename_i t x i c hop;obtain ⟨v,u,hk,hv,hrun⟩:=zMi h hr.inv (hr.ev x) (hr.ev i);exact yk hr.inv (by unfold execOp; rw [hop]; exact y7 hrun) hv hk
 . rename_i t m k y hop;obtain ⟨st',w',hk,ho,hrun⟩:=zIM h hr.inv (hr.ev m) (hr.ev k) (hr.ev y);exact zHr (by unfold execOp; rw [hop]; exact zKS hrun) ⟨undef,.any,g,st',rfl,ho,trivial,hk⟩
 . rename_i t x hop;obtain ⟨v,u,hk,hv,hrun⟩:=zKL h (hr.ev x);exact yk hr.inv (by unfold execOp; rw [hop]; exact y7 hrun) hv hk
 . rename_i fn first caps hop;obtain ⟨hf,v,hk,hv⟩:=zOY (first:=first.toList) (caps:=caps.toList) h hr.ev;have e1:first = #[]:=by apply Array.ext'; simpa using hf
   subst e1;refine yk hr.inv (u:=.func fn #[] (caps.toList.map a.eval).toArray) ?_ hv hk;unfold execOp; rw [hop];have e2:(caps.toList.map a.eval).toArray=caps.map a.eval:=by apply Array.ext'; simp
   rw [e2];simp [Instr.makeFunc]
 . rename_i x hop;obtain ⟨v,hk,hrun⟩:=zM1 (P:=P) h (hr.ev x);refine zNB (v:=v) (by unfold execOp; rw [hop]; simp [hrun,Sem.run_bind,Result.andThen]) ⟨_,g,st,rfl,rfl,Out.refl hr.inv,hk⟩
 . cases h
end
open Go.RowKit
section
variable {P:Program} {L:Pol} {X:Cx} {g:Gh} {w:World} {a:Act} {o:Oper} {e:Env} {st:S} {KP:List PanicEntry->S->Prop}
def qq (ds:List (Option Nat)) (e:Env) (gd:Option (Nat×Bool)):Option Bool:=
 match gd with
 | none=>some true
 | some (j,b)=>
  match ds.getD j none with
  | none=>none
  | some d=>match e.get d with
   | .at (.bool t)=>some (t == b)
   | .tup []=>some false
   | _=>none
def zi (P:Program) (L:Pol) (ds:List (Option Nat)) (KP:List PanicEntry->S->Prop) (o:Oper) (K:Env->S->Prop) (e:Env) (st:S):Prop:=
 match qq ds e o.guard with
 | none=>False
 | some c=>if c=true then aop P L e st o (fun v st'=>K (e.putO o.dst v) st') KP else K (e.putO o.dst (.tup [])) st
def AL (P:Program) (L:Pol) (ds:List (Option Nat)) (KP:List PanicEntry->S->Prop):List Oper->(Env->S->Prop)->Env->S->Prop
 | [],K,e,st=>K e st
 | o::os,K,e,st=>zi P L ds KP o (AL P L ds KP os K) e st
def zNQ (o:Oper):Bool:=match o.op with | .defer _=>false | _=>true
def zDZ (N:NF) (l:List Oper):Bool:=l.all fun o=>(match o.dst with | some d=>N.ok d | none=>true) && zNQ o
theorem zOn {ops:Array Oper} {ds:List (Option Nat)} (hds:ds=ops.toList.map (·.dst)) (hr:Rel X g e st a w) {c:Bool} (h:qq ds e o.guard=some c):Region.wanted o (yielded ops a.tmps)=c:=by
 unfold qq at h;unfold Region.wanted;cases hg:o.guard with
 | none=>rw [hg] at h; injection h with h; 
 | some p=>
  obtain ⟨j,b⟩:=p;rw [hg] at h;simp only at h ⊢;cases hd:ds.getD j none with
  | none=>rw [hd] at h; cases h
  | some d=>
   rw [hd] at h;simp only at h;split at h
   . rename_i t ht;injection h with h
     have hj:(ops[j]?).bind (·.dst)=some d:=by
      subst hds;simp only [List.getD_eq_getElem?_getD,List.getElem?_map,Array.getElem?_toList] at hd;cases hq:ops[j]? with
      | none=>simp [hq] at hd
      | some oj=>simpa [hq] using hd
     have h1:=hr.env d;rw [ht] at h1;have h2:=zh h1;have h3:a.tmps[d]? = some (.bool t):=by
      rw [Array.getD_eq_getD_getElem?] at h2;cases hq:a.tmps[d]? with
      | none=>rw [hq] at h2; simp [undef] at h2
      | some v=>rw [hq] at h2; simpa using h2
     have:yielded ops a.tmps j=some t:=by unfold yielded; rw [hj]; simp [h3]
     rw [this,<- h];cases t <;> cases b <;> rfl
   . rename_i ht;injection h with h
     have hj:(ops[j]?).bind (·.dst)=some d:=by
      subst hds;simp only [List.getD_eq_getElem?_getD,List.getElem?_map,Array.getElem?_toList] at hd;cases hq:ops[j]? with
      | none=>simp [hq] at hd
      | some oj=>simpa [hq] using hd
     have h1:=hr.env d;rw [ht] at h1;obtain ⟨us,h2,h3⟩:=h1;cases h2;have:yielded ops a.tmps j=none:=by
      unfold yielded;rw [hj];rw [Array.getD_eq_getD_getElem?] at h3;cases hq:a.tmps[d]? with
      | none=>simp [hq]
      | some v=>rw [hq] at h3; simp at h3; simp [hq,h3]
     rw [this,<- h];rfl
   . cases h
theorem zQl {N:NF} {l:List Oper} (h:zDZ N l=true) (ho:o ∈ l):∀ t,o.dst=some t->N.ok t=true:=by
 intro t ht;have:=(Bool.and_eq_true _ _ ▸ List.all_eq_true.1 h o ho).1;rw [ht] at this;simpa using this
theorem zFN {N:NF} {l:List Oper} (h:zDZ N l=true) (ho:o ∈ l):∀ c,o.op≠.defer c:=by
 intro c e;have:=(Bool.and_eq_true _ _ ▸ List.all_eq_true.1 h o ho).2;unfold zNQ at this;rw [e] at this;cases this
def Goes (X:Cx) (g:Gh) (w:World) (Q:Exit->Env->S->Prop):Exit->Act->World->Prop:=
 fun ex a' w'=>∃ g' e' st',Step X.B g w g' w'/\Rel X g' e' st' a' w'/\Q ex e' st'
theorem zGl {ops:Array Oper} {ds:List (Option Nat)} (hds:ds=ops.toList.map (·.dst)) {Q:Exit->Env->S->Prop} (hQ:∀ c s,KP c s->Q (.panic c) [] s)
 {i:Nat} (ho:ops[i]? = some o) (hdst:∀ t,o.dst=some t->X.N.ok t=true) {K:Env->S->Prop} (h:zi P L ds KP o K e st) {g0:Gh} {w0:World} (hs:Step X.B g0 w0 g w) (hr:Rel X g e st a w) :
 wpOp P ops (Goes X g0 w0 Q) i (fun a' w'=>∃ g' e' st',Step X.B g0 w0 g' w'/\Rel X g' e' st' a' w'/\K e' st') a w:=by
 unfold zi at h;unfold wpOp;simp only [ho];cases hw:qq ds e o.guard with
 | none=>rw [hw] at h; exact h.elim
 | some c=>
  rw [hw] at h;simp only at h;rw [zOn hds hr hw];cases c with
  | false=>
   simp only [Bool.false_eq_true,if_false] at h ⊢;exact ⟨g,_,st,hs,hr.put (x:=.tup []) (u:=undef) (Later.refl _ _) (Below.refl _ _) hr.inv ⟨[],.nil,rfl⟩ _ hdst,h⟩
  | true=>
   simp only [if_true] at h ⊢;have h1:=zRB h hr;refine .inl ?_;have key:∀ (r:Result Next),o.upon P a (zHy X g w o a fun v st'=>K (e.putO o.dst v) st') (zH8 X g w a KP) r ->
    o.upon P a (fun a' w'=>∃ g' e' st',Step X.B g0 w0 g' w'/\Rel X g' e' st' a' w'/\K e' st') (Goes X g0 w0 Q) r:=by
    have hk:∀ a' w',zHy X g w o a (fun v st'=>K (e.putO o.dst v) st') a' w'->∃ g' e' st',Step X.B g0 w0 g' w'/\Rel X g' e' st' a' w'/\K e' st':=by
     rintro a' w' ⟨u,v,g',st',rfl,k1,k2,k3⟩;exact ⟨g',_,st',hs.trans k1.step,hr.put k1.step.later k1.step.below k1.inv k2 _ hdst,k3⟩
    have hp:∀ ex a' w',zH8 X g w a KP ex a' w'->Goes X g0 w0 Q ex a' w':=by
     rintro ex a' w' ⟨c,g',st',rfl,rfl,k1,k2⟩;exact ⟨g',[],st',hs.trans k1.step,⟨k1.inv,fun k=>trivial,hr.size,hr.df,hr.gl.below k1.step.below k1.step.later.wm⟩,hQ c st' k2⟩
    intro r hh;cases r with
    | ok n w'=>
     cases n <;> simp only [Oper.upon] at hh ⊢ <;>
      first
       | exact hk _ _ hh
       | exact hh.elim
       | exact Calls.mono hh (fun (en:Ending) w'' he=>by
        cases en with
        | returned v=>exact hk _ _ he
        | panicked ch=>exact hp _ _ _ he
        | outgrown=>obtain ⟨a1,w1,h2⟩:=he; exact ⟨a1,w1,hp _ _ _ h2⟩)
       | exact Rows.mono hh (fun _ _ he=>hk _ _ he)
    | halt x w'=>cases x <;> simp only [Oper.upon] at hh ⊢ <;> first | exact hp _ _ _ hh | exact hh.elim
   exact key _ h1
theorem zKs {ops:Array Oper} {ds:List (Option Nat)} (hds:ds=ops.toList.map (·.dst)) {Q:Exit->Env->S->Prop} (hQ:∀ c s,KP c s->Q (.panic c) [] s) {K:Env->S->Prop} (hK:∀ e s,K e s->Q .normal e s) {g0:Gh} {w0:World} :
 ∀ (l:List Oper) (k:Nat) (_:∀ j,l[j]? = ops[k+j]?) (_:∀ o ∈ l,∀ t,o.dst=some t->X.N.ok t=true) {e:Env} {st:S} {g:Gh} {a:Act} {w:World},
  AL P L ds KP l K e st->Step X.B g0 w0 g w->Rel X g e st a w->wpList P ops (Goes X g0 w0 Q) l a w
 | [],k,_,_,e,st,g,a,w,h,hs,hr=>⟨g,e,st,hs,hr,hK e st h⟩
 | o::l,k,hl,hd,e,st,g,a,w,h,hs,hr=>by
  have h0:ops[k]? = some o:=by simpa using (hl 0).symm
  have h1:=zGl hds hQ h0 (hd o (by simp)) h hs hr;unfold wpOp at h1;simp only [h0] at h1;unfold wpList;have hnext:∀ a' w',(∃ g' e' st',Step X.B g0 w0 g' w'/\Rel X g' e' st' a' w'/\AL P L ds KP l K e' st')->wpList P ops (Goes X g0 w0 Q) l a' w':=by
   rintro a' w' ⟨g',e',st',k1,k2,k3⟩;exact zKs hds hQ hK l (k+1) (fun j=>by have:=hl (j+1); simpa [Nat.add_assoc,Nat.add_comm 1 j] using this) (fun o ho=>hd o (by simp [ho])) k3 k1 k2
  split
  . rename_i hw;simp only [hw,if_true] at h1;exact h1.imp (Oper.wp_mono hnext) id
  . rename_i hw;simp only [hw] at h1;exact hnext _ _ h1
theorem zTk {P:Program} {o:Oper} {a:Act} {w:World} {ro:Option Nat} {n:Nat} {next:Act->World->Prop} {Q:Exit->Act->World->Prop} (hd:∀ c,o.op≠.defer c) (h:o.wp P a w next Q):o.wpIn (fen ro) n P a w next Q:=by
 refine ⟨fun _ _=>trivial,?_⟩;rw [Oper.semAt_eq _ _ _ hd];unfold Oper.wp at h;generalize (execOp a.eval o).run P w=r at h;have hrd:∀ {row:String} {args:Array Value} {w':World} {R:Value->World->Prop},Rows P row args w' R->RowsIn (fen ro) (n - 1) P row args w' R:=fun hc c cs _=>let ⟨v,w2,r,st⟩:=hc c cs; ⟨v,w2,r,stepsIn_wide.2 st⟩
 have hwd:∀ {f:FuncId} {args:Array Value} {w':World} {R:Ending->World->Prop},Calls P f args w' R->CallsIn (fen ro) (n - 1) P f args w' R:=fun hc=>(callsIn_wide (n:=n - 1)).2 hc;cases r with
 | ok x w'=>
  cases x <;> simp only [Oper.upon,Oper.uponIn] at h ⊢ <;>
   first
    | exact h
    | exact ⟨fun e=>(by cases e),hwd h⟩
    | exact ⟨fun e=>(by cases e),hrd h⟩
    | exact h.elim
 | halt x w'=>cases x <;> simp only [Oper.upon,Oper.uponIn] at h ⊢ <;> exact h
theorem zCt {P:Program} {ops:Array Oper} {ro:Option Nat} {n:Nat} {Q:Exit->Act->World->Prop} (hd:∀ o ∈ ops.toList,∀ c,o.op≠.defer c) (hQ:¬ LetsOut Q):∀ (l:List Nat) (a:Act) (w:World),wpOps P ops Q l a w->wpOpsIn (fen ro) n P ops Q l a w
 | [],a,w,h=>h
 | i::rest,a,w,h=>by
  unfold wpOps at h;unfold wpOpsIn;cases ho:ops[i]? with
  | none=>rw [ho] at h; exact zCt hd hQ rest a w h
  | some o=>
   rw [ho] at h;simp only at h ⊢;have hm:o ∈ ops.toList:=by simpa using Array.mem_of_getElem? ho
   split
   . rename_i hw;rw [if_pos hw] at h;rcases h with h | h
     . exact zTk (hd o hm) (Oper.wp_mono (fun a' w' k=>zCt hd hQ rest a' w' k) h)
     . exact absurd h.2 hQ
   . rename_i hw;rw [if_neg hw] at h;exact ⟨fun _ _=>trivial,zCt hd hQ rest _ w h⟩
theorem zJg {X:Cx} {g:Gh} {w:World} {Q:Exit->Env->S->Prop} (hQ:∀ e s,¬ Q .outgrown e s):¬ LetsOut (Goes X g w Q):=fun ⟨_,_,_,_,_,_,_,h⟩=>hQ _ _ h
def inQ (Q:Exit->Env->S->Prop):Exit->Env->S->Prop
 | .normal,e,s=>Q .normal e s
 | .panic c,e,s=>Q (.panic c) e s
 | _,_,_=>False
theorem zLn {X:Cx} {g:Gh} {w:World} {Q:Exit->Env->S->Prop}:∀ ex a' w',Goes X g w (inQ Q) ex a' w'->Goes X g w Q ex a' w':=by
 rintro ex a' w' ⟨g',e',st',k1,k2,k3⟩;refine ⟨g',e',st',k1,k2,?_⟩;cases ex <;> first | exact k3 | exact k3.elim
theorem zPV {Q:Exit->Env->S->Prop} {id:Nat} {l:List Oper} (ds:List (Option Nat)) (hds:l.map (·.dst)=ds) (hd:zDZ X.N l=true)
 (h:AL P L ds (fun c s=>Q (.panic c) [] s) l (fun e' s'=>Q .normal e' s') e st):awp P X (.region id l.toArray false) Q e st:=by
 intro g a w hr;have hnd:∀ o ∈ l.toArray.toList,∀ c,o.op≠.defer c:=fun o ho=>zFN hd (by simpa using ho);have h1:wpList P l.toArray (Goes X g w (inQ Q)) l a w:=zKs (ops:=l.toArray) (ds:=ds) (by simpa using hds.symm) (fun _ _ k=>k) (fun _ _ k=>k) l 0 (fun j=>by simp) (fun o ho=>zQl hd ho) h (Step.refl _ _ _) hr;refine wpIn_mono (wpIn_region (zCt hnd (zJg fun _ _ k=>k) _ a w ?_)) zLn;have e1:=wpOps_eq_wpList (P:=P) (ops:=l.toArray) (Q:=Goes X g w (inQ Q)) l 0 (fun j=>by simp);rw [List.range_eq_range'];rw [show l.toArray.size=l.length from by simp,e1];exact h1
end
open Go.RowKit
def yb (P:Program):List ResultVar->Env->S->(List V->Prop)->Prop
 | [],_,_,K=>K []
 | .tmp t::rs,e,st,K=>zH (e.get t).flat/\yb P rs e st fun xs=>K ((e.get t).untag::xs)
 | .cell p t::rs,e,st,K=>y6 P st t (e.get p) fun v=>zH v.flat/\yb P rs e st fun xs=>K (v.untag::xs)
def finV:List V->V
 | [x]=>x
 | xs=>.tup xs
def jT:Nat->List V->Env
 | _,[]=>[]
 | n,x::xs=>(n,x)::jT (n+1) xs
def retE (P:Program) (rs:List ResultVar) (Q:Outc->S->Prop):Exit->Env->S->Prop
 | .normal,e,st | .ret,e,st=>yb P rs e st fun xs=>Q (.ret (finV xs)) st
 | .panic c,_,st=>Q (.pan c) st
 | _,_,_=>False
def xY (P:Program):List ResultVar->Env->S->(List V->Prop)->Prop
 | [],_,_,K=>K []
 | .tmp t::rs,e,st,K=>zH (e.get t).flat/\xY P rs e st fun xs=>K (e.get t::xs)
 | .cell p t::rs,e,st,K=>y6 P st t (e.get p) fun v=>zH v.flat/\xY P rs e st fun xs=>K (v::xs)
def retER (P:Program) (rs:List ResultVar) (Q:Outc->S->Prop):Exit->Env->S->Prop
 | .normal,e,st | .ret,e,st=>xY P rs e st fun xs=>∃ s0,st.sub s0/\Q (.ret (finV xs)) s0
 | .panic c,_,st=>Q (.pan c) st
 | _,_,_=>False
section
variable {P:Program} {X:Cx} {g:Gh} {w:World} {a:Act} {e:Env} {st:S}
theorem zJ7:∀ (xs:List V) (n k:Nat),(jT n xs).get k=if n<=k/\k < n+xs.length then xs.getD (k - n) .any else .any
 | [],n,k=>by simp [jT,Env.get]
 | x::xs,n,k=>by
  simp only [jT,Env.get];by_cases h:n=k
  . subst h; simp
  . rw [if_neg h,zJ7 xs (n+1) k];by_cases h1:n+1<=k/\k < n+1+xs.length
    . rw [if_pos h1,if_pos (by simp; omega)];have:k - n=(k - (n+1))+1:=by omega
      rw [this]; simp
    . rw [if_neg h1,if_neg (by simp; omega)]
theorem zDL {B N:Nat} {args:List V} {vs:List Value} (hi:Inv B g st w) (hgl:GlobOk B g.wm w) (hv:RVs g w args vs) (hN:args.length<=N) :
 Rel ⟨B,⟨N,[]⟩,none,[]⟩ g (jT 0 args) st { tmps:=vs.toArray++Array.replicate (N - vs.toArray.size) undef,defers:=[] } w:=by
 have hl:=hv.length;refine ⟨hi,fun k=>?_,by simp; omega,rfl,hgl⟩;rw [zJ7];split
 . rename_i h;have hk:k < args.length:=by omega
   obtain ⟨u,hu,hr⟩:=hv.get k args[k] (List.getElem?_eq_getElem hk);have hk2:k < vs.length:=by omega
   have e1:args.getD (k - 0) .any=args[k]:=by simp [hk]
   rw [e1];have e2:(vs.toArray++Array.replicate (N - vs.toArray.size) undef).getD k undef=u:=by
    rw [List.getElem?_eq_getElem hk2] at hu;injection hu with hu
    rw [Array.getD_eq_getD_getElem?,Array.getElem?_append_left (by simpa using hk2)];simp [hk2,hu]
   rw [e2];exact RV.of_RV1 hr
 . trivial
theorem zBi {x:V} {u:Value} (h:RV g w x u) (h1:zH x.flat):RV1 g.bare w x.untag u:=by
 obtain ⟨us,h2,_,h4⟩:=zCm h h1;exact ⟨us,zAY h2 h1,by rw [h4,zCM]⟩
def qH (tmps:Array Value):ResultVar->Sem Value
 | .tmp t=>pure (tmps.getD t undef)
 | .cell p t=>do loadVar t (<- asAddr (tmps.getD p undef))
theorem jt:∀ {rs:List ResultVar} {K:List V->Prop} (_:yb P rs e st K) (_:Rel X g e st a w),∃ xs us,K xs/\RVs g.bare w xs us /\
 (rs.mapM (qH a.tmps)).run P w = .ok us w
 | [],K,h,hr=>⟨[],[],h,.nil,by simp⟩
 | .tmp t::rs,K,h,hr=>by
  obtain ⟨h1,h2⟩:=h;obtain ⟨xs,us,k1,k2,k3⟩:=jt h2 hr;refine ⟨_,a.tmps.getD t undef::us,k1,.cons (zBi (hr.env t) h1) k2,?_⟩;simp only [List.mapM_cons,Sem.run_bind,qH,Sem.run_pure,Result.andThen_ok];rw [k3]; rfl
 | .cell p t::rs,K,h,hr=>by
  obtain ⟨v,u,⟨h1,h2⟩,hv,hrun⟩:=zEK h hr.inv (hr.env p);obtain ⟨xs,us,k1,k2,k3⟩:=jt h2 hr;have hptr:∃ ad,a.tmps.getD p undef = .pointer (some ad):=by
   have hp:=hr.env p;replace h:y6 P st t (e.get p) (fun v=>zH v.flat/\yb P rs e st fun xs=>K (v.untag::xs)):=h;unfold y6 at h;split at h
   . rename_i y hy; rw [hy] at hp; obtain ⟨b,o,ds,e1,_⟩:=zCZ hp; exact ⟨_,e1⟩
   . rename_i b o hy; rw [hy] at hp; exact ⟨_,zh hp⟩
   . cases h
  obtain ⟨ad,had⟩:=hptr;refine ⟨_,u::us,k1,.cons (zBi hv h1) k2,?_⟩;rw [had] at hrun;simp only [Instr.loadAt,Instr.sureAddr,Sem.run_bind,Sem.run_pure,Result.andThen_ok] at hrun;simp only [List.mapM_cons,Sem.run_bind,qH,had,asAddr,Sem.run_pure,Result.andThen_ok,hrun];rw [k3]; rfl
theorem zFc {xs:List V} {us:List Value} (h:RVs g w xs us):RV g w (finV xs) (if h:us.toArray.size=1 then us.toArray[0] else .tuple us.toArray):=by
 cases h with
 | nil=>simp [finV]; exact ⟨[],.nil,rfl⟩
 | cons h hs=>
  cases hs with
  | nil=>simp [finV]; exact RV.of_RV1 h
  | cons h2 hs=>
   simp [finV];exact ⟨_,.cons h (.cons h2 hs),rfl⟩
theorem jK {fn:Func} {us:List Value} (h:(fn.results.toList.mapM (qH a.tmps)).run P w = .ok us w) :
 (results fn a.tmps).run P w = .ok (if h:us.toArray.size=1 then us.toArray[0] else .tuple us.toArray) w:=by
 have e:results fn a.tmps=(do let vs <- fn.results.mapM (qH a.tmps); pure (if h:vs.size=1 then vs[0] else .tuple vs)):=by
  unfold results;congr 1
 rw [e,Array.mapM_eq_mapM_toList];have:(Functor.map List.toArray (fn.results.toList.mapM (qH a.tmps))).run P w = .ok us.toArray w:=by
  rw [<- bind_pure_comp,Sem.run_bind,h]; rfl
 rw [Sem.run_bind,this];rfl
theorem zIF {x:V} {u:Value} (h:RV g w x u) (h1:zH x.flat):RV1 g w x u:=by
 obtain ⟨us,h2,_,h4⟩:=zCm h h1;exact ⟨us,h2,h4⟩
theorem zBT:∀ {rs:List ResultVar} {K:List V->Prop} (_:xY P rs e st K) (_:Rel X g e st a w),∃ xs us,K xs/\RVs g w xs us /\
 (rs.mapM (qH a.tmps)).run P w = .ok us w
 | [],K,h,hr=>⟨[],[],h,.nil,by simp⟩
 | .tmp t::rs,K,h,hr=>by
  obtain ⟨h1,h2⟩:=h;obtain ⟨xs,us,k1,k2,k3⟩:=zBT h2 hr;refine ⟨_,a.tmps.getD t undef::us,k1,.cons (zIF (hr.env t) h1) k2,?_⟩;simp only [List.mapM_cons,Sem.run_bind,qH,Sem.run_pure,Result.andThen_ok];rw [k3]; rfl
 | .cell p t::rs,K,h,hr=>by
  obtain ⟨v,u,⟨h1,h2⟩,hv,hrun⟩:=zEK h hr.inv (hr.env p);obtain ⟨xs,us,k1,k2,k3⟩:=zBT h2 hr;have hptr:∃ ad,a.tmps.getD p undef = .pointer (some ad):=by
   have hp:=hr.env p;replace h:y6 P st t (e.get p) (fun v=>zH v.flat/\xY P rs e st fun xs=>K (v::xs)):=h;unfold y6 at h;split at h
   . rename_i y hy; rw [hy] at hp; obtain ⟨b,o,ds,e1,_⟩:=zCZ hp; exact ⟨_,e1⟩
   . rename_i b o hy; rw [hy] at hp; exact ⟨_,zh hp⟩
   . cases h
  obtain ⟨ad,had⟩:=hptr;refine ⟨_,u::us,k1,.cons (zIF hv h1) k2,?_⟩;rw [had] at hrun;simp only [Instr.loadAt,Instr.sureAddr,Sem.run_bind,Sem.run_pure,Result.andThen_ok] at hrun;simp only [List.mapM_cons,Sem.run_bind,qH,had,asAddr,Sem.run_pure,Result.andThen_ok,hrun];rw [k3]; rfl
theorem zJo {f:FuncId} {fn:Func} {c:Code} {args:List V} {Q:Outc->S->Prop} {N:Nat} {rs:List ResultVar} (hf:P.funcs[f]? = some fn) (hb:fn.body=some c) (hn:fn.ntmps=N) (hrs:fn.results=rs.toArray) (hN:args.length<=N)
 (h:∀ B,awp P ⟨B,⟨N,[]⟩,none,[]⟩ c (retER P rs Q) (jT 0 args) st):FnC P f args st Q:=by
 intro B g w vs hi hgl hv;refine calls_of_wp hf hb ?_;have hr:=zDL (N:=N) hi hgl hv hN;rw [hn];refine wpIn_wide.1 (wpIn_mono (h B g _ w hr) ?_);rintro ex a' w' ⟨g',e',st',h1,h2,h3⟩;have hrs':fn.results.toList=rs:=by rw [hrs]
 subst hrs';have hret:xY P fn.results.toList e' st' (fun xs=>∃ s0,st'.sub s0/\Q (.ret (finV xs)) s0)->a'.defers=[]/\∃ v,(results fn a'.tmps).run P w' = .ok v w' /\
  ∃ g' st',Step B g w g' w'/\Inv B g' st' w'/\∃ r,RV g' w' r v/\Q (.ret r) st':=by
  intro h3;obtain ⟨xs,us,⟨s0,k0,k1⟩,k2,k3⟩:=zBT h3 h2;exact ⟨h2.df,_,jK k3,g',s0,h1,h2.inv.weaken k0,_,zFc k2,k1⟩
 cases ex with
 | normal=>exact hret h3
 | ret=>exact hret h3
 | panic c=>exact ⟨h2.df,g',st',h1,h2.inv,h3⟩
 | exit id=>exact h3.elim
 | goto l=>exact h3.elim
 | outgrown=>exact h3.elim
theorem zM5 {f:FuncId} {fn:Func} {c:Code} {args:List V} {r:V} {N:Nat} {rs:List ResultVar} (hf:P.funcs[f]? = some fn) (hb:fn.body=some c) (hn:fn.ntmps=N) (hrs:fn.results=rs.toArray) (hN:args.length<=N)
 (h:∀ B,awp P ⟨B,⟨N,[]⟩,none,[]⟩ c (retE P rs fun oc _=>oc = .ret r) (jT 0 args) ⟨[],[],0,[]⟩):PureF P f args r:=by
 intro wm w vs hwm hgl hv;refine calls_of_wp hf hb ?_;have hi:Inv w.heap.size ⟨wm,fun _=>none,Fr.no⟩ ⟨[],[],0,[]⟩ w:=
  ⟨Nat.le_refl _,(fun b cs k hl=>(by cases hl)),(fun t ht=>(by cases ht)),(fun t ht=>(by cases ht)),(fun t ht=>(by cases ht)),List.nodup_nil,hwm,fun _ _=>rfl,⟨(fun b hb=>by cases hb),(fun b o fp hl=>(by cases hl)),(fun b o fp b' o' fp' j hl=>(by cases hl)),(fun t ht=>by cases ht)⟩⟩
 have hr:=zDL (N:=N) hi hgl hv hN;rw [hn];refine wpIn_wide.1 (wpIn_mono (h _ _ _ w hr) ?_);rintro ex a' w' ⟨g',e',st',h1,h2,h3⟩;have hrs':fn.results.toList=rs:=by rw [hrs]
 subst hrs';have hret:yb P fn.results.toList e' st' (fun xs=>(Outc.ret (finV xs)) = .ret r)->a'.defers=[]/\∃ v,(results fn a'.tmps).run P w' = .ok v w' /\
  ∃ v_1 wm',Ending.returned v = .returned v_1/\(∀ b,w'.heap.size<=b->wm' b=0)/\Step w.heap.size ⟨wm,fun _=>none,Fr.no⟩ w ⟨wm',fun _=>none,Fr.no⟩ w'/\RV ⟨wm',fun _=>none,Fr.no⟩ w' r v_1:=by
  intro h3;obtain ⟨xs,us,k1,k2,k3⟩:=jt h3 h2;injection k1 with k1
  subst k1;exact ⟨h2.df,_,jK k3,_,g'.wm,rfl,h2.inv.fresh,⟨⟨h1.later.wm,(fun _ _ e=>(by cases e)),h1.later.cell⟩,h1.below,(fun b hb=>by cases hb),h1.wmB,rfl⟩,RV.fr _ _ (zFc k2)⟩
 cases ex with
 | normal=>exact hret h3
 | ret=>exact hret h3
 | panic c=>cases h3
 | exit id=>exact h3.elim
 | goto l=>exact h3.elim
 | outgrown=>exact h3.elim
end
section
variable {P:Program} {L:Pol} {ds:List (Option Nat)} {KP:List PanicEntry->S->Prop} {os:List Oper} {K:Env->S->Prop} {e:Env} {st:S}
variable {d:Option Nat} {ty:TypeId} {pos:String} {af:Array Edge}
theorem zu:AL P L ds KP [] K e st=K e st:=rfl
theorem xP (x:Operand):AL P L ds KP (⟨d,.move x,ty,pos,af,none⟩::os) K e st=AL P L ds KP os K (e.putO d (e.ev x)) st:=rfl
theorem kq (x:Operand):AL P L ds KP (⟨d,.assign x,ty,pos,af,none⟩::os) K e st=AL P L ds KP os K (e.putO d (e.ev x)) st:=rfl
theorem qr (c x y:Operand):AL P L ds KP (⟨d,.pick c x y,ty,pos,af,none⟩::os) K e st=zBk (e.ev c) (e.ev x) (e.ev y) fun v=>AL P L ds KP os K (e.putO d v) st:=rfl
theorem zHP (op:BinOp) (t:TypeId) (x y:Operand) (t2:TypeId):AL P L ds KP (⟨d,.binOp op t x y t2,ty,pos,af,none⟩::os) K e st=zBj P op t (zGB y) (e.ev x) (e.ev y) fun v=>AL P L ds KP os K (e.putO d v) st:=rfl
theorem zGb (op:UnOp) (t:TypeId) (x:Operand):AL P L ds KP (⟨d,.unOp op t x,ty,pos,af,none⟩::os) K e st=aUn op (e.ev x) fun v=>AL P L ds KP os K (e.putO d v) st:=rfl
theorem xp (t:TypeId) (x:Operand) (f:Nat):AL P L ds KP (⟨d,.fieldAddr t x f,ty,pos,af,none⟩::os) K e st=yP P t (e.ev x) f fun v=>AL P L ds KP os K (e.putO d v) st:=rfl
theorem zSj (t:TypeId) (x i:Operand):AL P L ds KP (⟨d,.index t x i,ty,pos,af,none⟩::os) K e st=kn P t (e.ev x) (e.ev i) fun v=>AL P L ds KP os K (e.putO d v) st:=rfl
theorem zUH {pf rf:FuncId->Bool} {wr own:Nat->Bool} {kb:Nat->List Nat} (x:Operand) (v:V):ldK ⟨pf,wr,own,rf,[],kb⟩ x v:=by
 cases x <;> first | trivial | (intro p hp; cases hp)
theorem yi {pf rf:FuncId->Bool} {wr own:Nat->Bool} {kb:Nat->List Nat} (t:TypeId) (x:Operand):AL P ⟨pf,wr,own,rf,[],kb⟩ ds KP (⟨d,.load t x,ty,pos,af,none⟩::os) K e st=y6 P st t (e.ev x) fun v=>AL P ⟨pf,wr,own,rf,[],kb⟩ ds KP os K (e.putO d v) st:=
 propext ⟨fun h=>h.2,fun h=>⟨zUH x _,h⟩⟩
theorem zUz {pf rf:FuncId->Bool} {wr own:Nat->Bool} {kl:List (Nat×Nat)} (x:Operand) (v:V):stK ⟨pf,wr,own,rf,kl,fun _=>[]⟩ x v:=by
 cases x <;> first | trivial | (intro b o _ h; cases h)
theorem qk {pf rf:FuncId->Bool} {wr own:Nat->Bool} (t:TypeId) (x y:Operand):AL P ⟨pf,wr,own,rf,[],fun _=>[]⟩ ds KP (⟨d,.store t x y,ty,pos,af,none⟩::os) K e st=qF P st t (e.ev x) (e.ev y) fun st'=>AL P ⟨pf,wr,own,rf,[],fun _=>[]⟩ ds KP os K (e.putO d .any) st':=
 propext ⟨fun h=>h.2,fun h=>⟨zUz x _,h⟩⟩
theorem zL4 (t:TypeId):AL P L ds KP (⟨d,.alloc t,ty,pos,af,none⟩::os) K e st=jZ P st t fun v st'=>AL P L ds KP os K (e.putO d v) st':=rfl
theorem zPY (t:TypeId) (x:Operand):AL P L ds KP (⟨d,.box t x,ty,pos,af,none⟩::os) K e st=aNew st (e.ev x).flat fun v st'=>AL P L ds KP os K (e.putO d v) st':=rfl
theorem zLH (t:TypeId) (ps:List (Nat×Operand)):AL P L ds KP (⟨d,.build t ps.toArray,ty,pos,af,none⟩::os) K e st=zCc P t (ps.map fun p=>(p.1,e.ev p.2)) fun v=>AL P L ds KP os K (e.putO d v) st:=rfl
theorem zEz (t:TypeId) (n:Nat) (ps:List (Nat×Operand)):AL P L ds KP (⟨d,.buildSlice t n ps.toArray,ty,pos,af,none⟩::os) K e st=yJ P L d st t n (ps.map fun p=>(p.1,e.ev p.2)) fun v st'=>AL P L ds KP os K (e.putO d v) st':=rfl
theorem qK (x:Operand):AL P L ds KP (⟨d,.nilCheck x,ty,pos,af,none⟩::os) K e st=xF (e.ev x) fun v=>AL P L ds KP os K (e.putO d v) st:=rfl
theorem AL_len (t:TypeId) (x:Operand):AL P L ds KP (⟨d,.call ⟨.builtin .len,#[x],#[t]⟩,ty,pos,af,none⟩::os) K e st=aLen P t (e.ev x) fun v=>AL P L ds KP os K (e.putO d v) st:=rfl
theorem zJw (t t2:TypeId) (x y:Operand):AL P L ds KP (⟨d,.call ⟨.builtin .append,#[x,y],#[t,t2]⟩,ty,pos,af,none⟩::os) K e st=xE P L d st t t2 (e.ev x) (e.ev y) fun v st'=>AL P L ds KP os K (e.putO d v) st':=rfl
def kX:V->Bool->Prop->Prop->Prop
 | .at (.bool t),b,A,B=>if t=b then A else B
 | .tup [],_,_,B=>B
 | _,_,_,_=>False
theorem zSA (op:Op) (j:Nat) (b:Bool) (t:Nat) (hj:ds.getD j none=some t):AL P L ds KP (⟨d,op,ty,pos,af,some (j,b)⟩::os) K e st =
 kX (e.get t) b (AL P L ds KP (⟨d,op,ty,pos,af,none⟩::os) K e st) (AL P L ds KP os K (e.putO d (.tup [])) st):=by
 show zi P L ds KP ⟨d,op,ty,pos,af,some (j,b)⟩ (AL P L ds KP os K) e st=kX (e.get t) b (zi P L ds KP ⟨d,op,ty,pos,af,none⟩ (AL P L ds KP os K) e st) _;unfold zi kX qq;simp only [hj];cases hv:e.get t with
 | tup vs=>cases vs <;> rfl
 | any=>rfl
 | agg fs=>rfl
 | lst tg es=>rfl
 | rptr x=>rfl
 | ifx=>rfl
 | clo fn caps=>rfl
 | _=>
  rename_i v;cases v with
  | bool c=>cases c <;> cases b <;> rfl
  | _=>rfl
theorem qL (b:Bool) (A B:Prop):kX (.at (.bool b)) b A B=A:=by simp [kX]
theorem zPk (A B:Prop):kX (.at (.bool true)) false A B=B:=rfl
theorem zDH (A B:Prop):kX (.at (.bool false)) true A B=B:=rfl
theorem zUS {f:FuncId} {xs:List Operand} {ts:Array TypeId} (r:V) (hL:L.pf f=true) (hc:zZ P f=true) (ha:((xs.map e.ev).all fun x=>x.flat.all V.isOne)=true) (hp:PureF P f ((xs.map e.ev).map V.untag) r)
 (h:AL P L ds KP os K (e.putO d r) st):AL P L ds KP (⟨d,.call ⟨.value (.func f),xs.toArray,ts⟩,ty,pos,af,none⟩::os) K e st:=by
 show zZ P f=true/\_/\_/\_;refine ⟨hc,ha,rfl,?_⟩;rw [if_pos hL];exact ⟨rfl,r,hp,h⟩
theorem zx {f:FuncId} {xs:List Operand} {ts:Array TypeId} {Q:Outc->S->Prop} (as:List V) (hL:L.pf f=false) (hR:L.rf f=false) (hk:klb L d=[]) (hc:zZ P f=true) (ha:((xs.map e.ev).all fun x=>x.flat.all V.isOne)=true) (hsub:Sub (xs.map e.ev) as) (hp:FnC P f as st Q)
 (h:∀ r s,Q (.ret r) s->AL P L ds KP os K (e.putO d r) s) (hpn:∀ c s,Q (.pan c) s->KP c s):AL P L ds KP (⟨d,.call ⟨.value (.func f),xs.toArray,ts⟩,ty,pos,af,none⟩::os) K e st:=by
 show zZ P f=true/\_/\_/\_;refine ⟨hc,ha,rfl,?_⟩;rw [if_neg (by simp [hL]),if_neg (by simp [hR])];refine ⟨as,hsub,?_⟩;intro B g w vs hi hgl hv;rw [List.append_nil] at hv;refine (hp B g w vs hi hgl hv).mono ?_;rintro en w' ⟨g',st',h1,h2,h3⟩;refine ⟨g',st',h1,h2,?_⟩;cases en with
 | returned v=>obtain ⟨r,h4,h5⟩:=h3; exact ⟨r,h4,(fun b hb=>by replace hb:b ∈ klb L d:=hb; rw [hk] at hb; cases hb),h r st' h5⟩
 | panicked c=>exact hpn c st' h3
 | outgrown=>exact h3.elim
theorem qj {x x':V} (h:x=x') (b:Bool) (A B:Prop):kX x b A B=kX x' b A B:=by rw [h]
theorem jN {c c' x x' y y':V} (h:c=c') (h2:x=x') (h3:y=y') (K:V->Prop):zBk c x y K=zBk c' x' y' K:=by rw [h,h2,h3]
theorem jm (P:Program) (op:BinOp) (t:TypeId) {x x' y y':V} (h2:x=x') (h3:y=y') (K:V->Prop):aBin P op t x y K=aBin P op t x' y' K:=by rw [h2,h3]
theorem ke (op:UnOp) {x x':V} (h:x=x') (K:V->Prop):aUn op x K=aUn op x' K:=by rw [h]
theorem xg {x x':V} (h:x=x') (i:Nat) (K:V->Prop):kO x i K=kO x' i K:=by rw [h]
theorem qX (P:Program) (t:TypeId) {x x':V} (h:x=x') (f:Nat) (K:V->Prop):zRH P t x f K=zRH P t x' f K:=by rw [h]
theorem xD (P:Program) (t:TypeId) {x x':V} (h:x=x') (f:Nat) (K:V->Prop):yP P t x f K=yP P t x' f K:=by rw [h]
theorem xB (P:Program) (t:TypeId) {x x' i i':V} (h:x=x') (h2:i=i') (K:V->Prop):yZ P t x i K=yZ P t x' i' K:=by rw [h,h2]
theorem qd (P:Program) (t:TypeId) {x x' i i':V} (h:x=x') (h2:i=i') (K:V->Prop):kn P t x i K=kn P t x' i' K:=by rw [h,h2]
theorem jM (P:Program) {st st':S} (hs:st=st') (t:TypeId) {x x':V} (h:x=x') (K:V->Prop):y6 P st t x K=y6 P st' t x' K:=by rw [h,hs]
theorem qW (P:Program) {st st':S} (hs:st=st') (t:TypeId) {x x' y y':V} (h:x=x') (h2:y=y') (K:S->Prop):qF P st t x y K=qF P st' t x' y' K:=by rw [h,hs,h2]
theorem jj {st st':S} (hs:st=st') {c c':List V} (h:c=c') (K:V->S->Prop):aNew st c K=aNew st' c' K:=by rw [h,hs]
theorem qi (P:Program) {st st':S} (hs:st=st') (t:TypeId) (K:V->S->Prop):jZ P st t K=jZ P st' t K:=by rw [hs]
theorem qU (P:Program) (t:TypeId) {ps ps':List (Nat×V)} (h:ps=ps') (K:V->Prop):zEB P t ps K=zEB P t ps' K:=by rw [h]
theorem yz (P:Program) (L:Pol) (d:Option Nat) {st st':S} (hs:st=st') (t:TypeId) (n:Nat) {ps ps':List (Nat×V)} (h:ps=ps') (K:V->S->Prop):yJ P L d st t n ps K=yJ P L d st' t n ps' K:=by rw [h,hs]
theorem xJ {x x':V} (h:x=x') (K:V->Prop):xF x K=xF x' K:=by rw [h]
theorem qc (P:Program) (t:TypeId) {x x':V} {lo lo' hi hi':Option V} (h:x=x') (h2:lo=lo') (h3:hi=hi') (K:V->Prop):jU P t x lo hi K=jU P t x' lo' hi' K:=by rw [h,h2,h3]
theorem je (P:Program) (t:TypeId) {x x':V} (h:x=x') (K:V->Prop):aLen P t x K=aLen P t x' K:=by rw [h]
theorem ji {x x' y y':V} (h:x=x') (h2:y=y') (K:V->Prop):aMax x y K=aMax x' y' K:=by rw [h,h2]
theorem xy (P:Program) (L:Pol) (d:Option Nat) {st st':S} (hs:st=st') (t t2:TypeId) {x x' y y':V} (h:x=x') (h2:y=y') (K:V->S->Prop):xE P L d st t t2 x y K=xE P L d st' t t2 x' y' K:=by rw [h,hs,h2]
end
open Go.RowKit
def Pt (h:(V->Prop)->Prop):Prop:=∀ K,h K->∃ v,K v/\∀ K',K' v->h K'
section
variable {P:Program} {L:Pol} {X:Cx} {e:Env} {st:S} {KP:List PanicEntry->S->Prop}
theorem zR7 (c x y:V):Pt (zBk c x y):=fun K h=>by
 unfold zBk at *;split at h
 . exact ⟨_,h,fun _ k=>k⟩
 . cases h
theorem zTu (op:BinOp) (k:IntKind) (x y:Int):Pt (aInt op k x y):=fun K h=>by
 cases op <;> simp only [aInt] at h ⊢
 case quo=>exact ⟨_,h.2,fun _ q=>⟨h.1,q⟩⟩
 case rem=>exact ⟨_,h.2,fun _ q=>⟨h.1,q⟩⟩
 case shl=>exact ⟨_,h.2,fun _ q=>⟨h.1,q⟩⟩
 case shr=>exact ⟨_,h.2,fun _ q=>⟨h.1,q⟩⟩
 all_goals exact ⟨_,h,fun _ q=>q⟩
theorem zUO (op:BinOp) (x y:ByteArray):Pt (aStr op x y):=fun K h=>by
 cases op <;> simp only [aStr] at h ⊢
 case add=>exact ⟨_,h.2,fun _ q=>⟨h.1,q⟩⟩
 all_goals exact ⟨_,h,fun _ q=>q⟩
theorem zBW (op:BinOp) (x y:Bool):Pt (j9 op x y):=fun K h=>by
 cases op <;> simp only [j9] at h ⊢
 all_goals exact ⟨_,h,fun _ q=>q⟩
theorem zUQ (op:BinOp) (t:TypeId) (x y:V):Pt (aBin P op t x y):=fun K h=>by
 unfold aBin at *;split at h
 . obtain ⟨v,h1,h2⟩:=zTu _ _ _ _ K h.2; exact ⟨v,h1,fun K' k=>⟨h.1,h2 K' k⟩⟩
 . obtain ⟨v,h1,h2⟩:=zBW _ _ _ K h.2; exact ⟨v,h1,fun K' k=>⟨h.1,h2 K' k⟩⟩
 . obtain ⟨v,h1,h2⟩:=zUO _ _ _ K h; exact ⟨v,h1,fun K' k=>h2 K' k⟩
 . obtain ⟨v,h1,h2⟩:=zBW _ _ _ K h.2; exact ⟨v,h1,fun K' k=>⟨h.1,h2 K' k⟩⟩
 . obtain ⟨v,h1,h2⟩:=zBW _ _ _ K h.2; exact ⟨v,h1,fun K' k=>⟨h.1,h2 K' k⟩⟩
 . cases h
theorem zSu (op:BinOp) (t:TypeId) (c:Bool) (x y:V):Pt (zBj P op t c x y):=fun K h=>by
 unfold zBj at *;split at h
 . obtain ⟨v,h1,h2⟩:=zBW _ _ _ K h.2; exact ⟨v,h1,fun K' k=>⟨h.1,h2 K' k⟩⟩
 . obtain ⟨v,h1,h2⟩:=zBW _ _ _ K h.2.2; exact ⟨v,h1,fun K' k=>⟨h.1,h.2.1,h2 K' k⟩⟩
 . obtain ⟨us,vs,q1,q2,q3,h⟩:=h;obtain ⟨v,h1,h2⟩:=zBW _ _ _ K h; exact ⟨v,h1,fun K' k=>⟨us,vs,q1,q2,q3,h2 K' k⟩⟩
 . exact zUQ op t x y K h
theorem zS6 (f t:TypeId) (x:V):Pt (zEg P f t x):=fun K h=>by
 unfold zEg at *;split at h
 . obtain ⟨h1,h2,h⟩:=h;split at h
   . exact ⟨_,h,fun _ k=>⟨h1,h2,k⟩⟩
   . cases h
 . split at h
   . exact ⟨_,h.2,fun _ k=>⟨h.1,k⟩⟩
   . cases h
 . exact ⟨_,h.2.2,fun _ k=>⟨h.1,h.2.1,k⟩⟩
 . cases h
theorem pt_aUn (op:UnOp) (x:V):Pt (aUn op x):=fun K h=>by
 unfold aUn at *;split at h
 . split at h
   . exact ⟨_,h,fun _ k=>k⟩
   . cases h
 . split at h
   . exact ⟨_,h,fun _ k=>k⟩
   . exact ⟨_,h,fun _ k=>k⟩
   . cases h
 . cases h
theorem zNE (x:V) (i:Nat):Pt (kO x i):=fun K h=>by
 unfold kO at *;split at h
 . exact ⟨_,h.2,fun _ k=>⟨h.1,k⟩⟩
 . cases h
theorem zKJ (t:TypeId) (x:V) (f:Nat):Pt (yP P t x f):=fun K h=>by
 unfold yP at *;split at h
 . exact ⟨_,h.2.2.2,fun _ k=>⟨h.1,h.2.1,h.2.2.1,k⟩⟩
 . exact ⟨_,h.2.2,fun _ k=>⟨h.1,h.2.1,k⟩⟩
 . cases h
theorem zKD (t:TypeId) (x i:V):Pt (yZ P t x i):=fun K h=>by
 unfold yZ at *;split at h
 . exact ⟨_,h.2.2.2,fun _ k=>⟨h.1,h.2.1,h.2.2.1,k⟩⟩
 . exact ⟨_,h.2.2,fun _ k=>⟨h.1,h.2.1,k⟩⟩
 . cases h
theorem zRV (t:TypeId) (x i:V):Pt (kn P t x i):=fun K h=>by
 unfold kn at *;split at h
 . exact ⟨_,h.2.2,fun _ k=>⟨h.1,h.2.1,k⟩⟩
 . exact ⟨_,h.2.2.2,fun _ k=>⟨h.1,h.2.1,h.2.2.1,k⟩⟩
 . cases h
theorem zK8 (x:V):Pt (xF x):=fun K h=>by
 unfold xF at *;split at h
 . exact ⟨_,h,fun _ k=>k⟩
 . exact ⟨_,h,fun _ k=>k⟩
 . cases h
theorem zP8 (t:TypeId) (ps:List (Nat×V)):Pt (zEB P t ps):=fun K h=>by
 unfold zEB at *;obtain ⟨h1,h⟩:=h;split at h
 . split at h
   . exact ⟨_,h,fun _ k=>⟨h1,k⟩⟩
   . cases h
 . cases h
theorem zOi (t:TypeId) (ps:List (Nat×V)):Pt (zCc P t ps):=fun K h=>by
 rcases h with h | h
 . obtain ⟨v,h1,h2⟩:=zP8 t ps K h;exact ⟨v,h1,fun K' k=>.inl (h2 K' k)⟩
 . unfold zJA at h;obtain ⟨h0,h1,h⟩:=h;split at h
   . rename_i cs hz;split at h
     . rename_i cs' hf;exact ⟨_,h,fun K' k=>.inr ⟨h0,h1,by rw [hz]; simp only [hf]; exact k⟩⟩
     . cases h
   . cases h
theorem zNl (t:TypeId) (x:V):Pt (aLen P t x):=fun K h=>by
 unfold aLen at *;split at h
 . exact ⟨_,h.2,fun _ k=>⟨h.1,k⟩⟩
 . exact ⟨_,h.2,fun _ k=>⟨h.1,k⟩⟩
 . exact ⟨_,h.2,fun _ k=>⟨h.1,k⟩⟩
 . cases h
theorem zAh {x:Option V} {d:Int} {K:Int->Prop} (h:jB x d K):∃ n,K n/\∀ K',K' n->jB x d K':=by
 unfold jB at *;split at h
 . exact ⟨_,h,fun _ k=>k⟩
 . exact ⟨_,h,fun _ k=>k⟩
 . cases h
theorem zRU (t:TypeId) (x:V) (lo hi:Option V):Pt (jU P t x lo hi):=fun K h=>by
 unfold jU at *;split at h
 . split at h
   . cases h
   . obtain ⟨h1,h2,h⟩:=h;obtain ⟨l,h,hl⟩:=zAh h;obtain ⟨m,h,hm⟩:=zAh h;exact ⟨_,h.2,fun _ k=>⟨h1,h2,hl _ (hm _ ⟨h.1,k⟩)⟩⟩
 . split at h
   . cases h
   . obtain ⟨h1,h⟩:=h;obtain ⟨l,h,hl⟩:=zAh h;obtain ⟨m,h,hm⟩:=zAh h;exact ⟨_,h.2,fun _ k=>⟨h1,hl _ (hm _ ⟨h.1,k⟩)⟩⟩
 . obtain ⟨h1,h⟩:=h;obtain ⟨l,h,hl⟩:=zAh h;obtain ⟨m,h,hm⟩:=zAh h;exact ⟨_,h.2,fun _ k=>⟨h1,hl _ (hm _ ⟨h.1,k⟩)⟩⟩
 . exact ⟨_,h.2.2.2.2.2,fun _ k=>⟨h.1,h.2.1,h.2.2.1,h.2.2.2.1,h.2.2.2.2.1,k⟩⟩
 . cases h
theorem zHA (st:S) (t:TypeId) (x:V):Pt (y6 P st t x):=fun K h=>by
 unfold y6 at *;split at h
 . exact ⟨_,h.2,fun _ k=>⟨h.1,k⟩⟩
 . split at h
   . exact ⟨_,h.2,fun _ k=>⟨h.1,k⟩⟩
   . cases h
 . cases h
def cls (L:Pol) (o:Oper):Nat:=
 match o.op with
 | .move _ | .assign _=>if o.guard.isNone=true then 0 else 1
 | .pick .. | .binOp .. | .convert .. | .unOp .. | .extract .. | .field .. | .fieldAddr .. | .indexAddr .. | .index .. | .build .. | .nilCheck _ | .slice ..=>1
 | .load ..=>3
 | .buildSlice ..=>if (o.dst.map L.wr).getD false=true then 5 else if (o.dst.map L.own).getD false=true then 4 else 1
 | .call c=>(match c.callee with
  | .builtin .len | .builtin .max=>1
  | .builtin .append=>if (o.dst.map L.wr).getD false=true then 5 else 4
  | .value (.func n)=>if L.pf n=true then 2 else 5
  | _=>5)
 | _=>5
def zRL (ci cj:Nat):Bool:=
 decide (ci<=2) || cj == 0 || (ci == 3 && decide (cj<=4)) || (ci == 4 && decide (cj<=3))
theorem zEZ {o:Oper} (hc:cls L o<=2) {K:V->S->Prop} (h:aop P L e st o K KP):∃ v,K v st/\∀ st' K' KP',K' v st'->aop P L e st' o K' KP':=by
 obtain ⟨dst,op,ty,pos,af,gd⟩:=o;have low:∀ (hh:(V->Prop)->Prop),Pt hh->(hh fun v=>K v st)->∃ v,K v st/\∀ (st':S) (K':V->S->Prop) (_:List PanicEntry->S->Prop),K' v st'->hh fun v=>K' v st':=by
  intro hh hp h;obtain ⟨v,h1,h2⟩:=hp _ h;exact ⟨v,h1,fun st' K' _ k=>h2 (fun v=>K' v st') k⟩
 cases op <;> simp only [cls] at hc <;> simp only [aop] at h ⊢ <;>
  first
   | (refine ⟨_,h,fun _ _ _ k=>k⟩)
   | exact low _ (zR7 _ _ _) h
   | exact low _ (zSu _ _ _ _ _) h
   | exact low _ (zS6 _ _ _) h
   | exact low _ (pt_aUn _ _) h
   | exact low _ (zNE _ _) h
   | exact low _ (zKJ _ _ _) h
   | exact low _ (zKD _ _ _) h
   | exact low _ (zRV _ _ _) h
   | exact low _ (zOi _ _) h
   | exact low _ (zK8 _) h
   | (omega)
   | skip
 case slice t x lo hi mx=>
  obtain ⟨v,h1,h2⟩:=zRU _ _ _ _ _ h.2;exact ⟨v,h1,fun st' K' _ k=>⟨h.1,h2 _ k⟩⟩
 case buildSlice t n ps=>
  split at hc
  . omega
  . split at hc
    . omega
    . rename_i h1 h2;unfold yJ at h ⊢;split at h
      . cases h
      . obtain ⟨q1,q2,q3,q4,q5,q6,q7,q8,q9,q10⟩:=h;rw [if_neg h1,if_neg h2] at q10;exact ⟨_,q10,fun st' K' _ k=>⟨q1,q2,q3,q4,q5,q6,q7,q8,q9,by rw [if_neg h1,if_neg h2]; exact k⟩⟩
 case call c=>
  obtain ⟨callee,args,ts⟩:=c;cases callee with
  | invoke r m=>simp at hc
  | value f=>
   simp only at h hc ⊢;cases f with
   | func n=>
    simp only at hc;split at hc
    . rename_i hp;simp only [Env.ev] at h ⊢;unfold zCL at h ⊢;simp only [if_pos hp] at h ⊢;obtain ⟨q1,q2,q3,q4,r,q5,q6⟩:=h;exact ⟨r,q6,fun st' K' _ k=>⟨q1,q2,q3,q4,r,q5,k⟩⟩
    . omega
   | tmp t=>simp at hc
   | const v=>simp at hc
   | global g=>simp at hc
  | builtin b=>
   simp only at h hc ⊢;unfold jd at h ⊢;split at h
   . exact low _ (zNl _ _) h
   . simp only at hc;split at hc <;> omega
   . simp at hc
   . cases h
def More (st st':S):Prop:=∀ b c,Go.Al.look st.box b=some c->Go.Al.look st'.box b=some c
theorem More.of_eq {st st':S} (h:st'.box=st.box):More st st':=fun b c hl=>by rw [h]; exact hl
theorem zOa {st st':S} (h:More st st') (t:TypeId) (x:V) (K:V->Prop) (hh:y6 P st t x K):y6 P st' t x K:=by
 unfold y6 at *;split at hh
 . exact hh
 . split at hh
   . rename_i cs k hl;simp only [h _ _ hl];exact hh
   . cases hh
 . cases hh
def newB (L:Pol) (o:Oper):Bool:=
 match o.op with
 | .alloc _ | .box .. | .lookup ..=>true
 | .buildSlice ..=>(o.dst.map L.wr).getD false
 | _=>false
def wrB (L:Pol) (o:Oper):Bool:=
 match o.op with
 | .alloc _ | .box .. | .store ..=>true
 | .buildSlice ..=>(o.dst.map L.wr).getD false
 | .call ⟨.builtin .append,_,_⟩=>(o.dst.map L.wr).getD false
 | _=>false
def adr (o:Oper):Bool:=
 match o.op with
 | .nilCheck _ | .fieldAddr ..=>true
 | _=>false
def rdB (L:Pol) (o:Oper):Bool:=
 match o.op with
 | .call c=>(match c.callee with | .value (.func n)=>!L.pf n && L.rf n | _=>false)
 | _=>false
def kpB (L:Pol) (oi oj:Oper):Bool:=
 match oi.op with
 | .load _ x=>(match x with
  | .tmp u=>(match oj.op with
   | .call c=>(match c.callee with | .value _=>(match oj.dst with | some d=>L.kl.contains (d,u) | none=>false) | _=>false)
   | .store _ y _=>(match y with | .tmp a=>L.kl.contains (1000000+a,u) | _=>false)
   | _=>false)
  | _=>false)
 | _=>false
def kkey (o:Oper):Option Nat:=
 match o.op with
 | .store _ y _=>(match y with | .tmp a=>some (1000000+a) | _=>none)
 | _=>o.dst
def lkB (o:Oper):Bool:=
 match o.op with
 | .lookup ..=>true
 | _=>false
def obB (o:Oper):Bool:=
 match o.op with
 | .alloc _ | .box ..=>true
 | _=>false
def zCb (L:Pol) (oi oj:Oper):Bool:=
 (lkB oi && obB oj) || zRL (cls L oi) (cls L oj) || (cls L oi == 3 && newB L oj) || (wrB L oi && adr oj) || (rdB L oi && decide (cls L oj<=3)) || kpB L oi oj
theorem zTg {o:Oper} (hc:rdB L o=true) {K:V->S->Prop} (h:aop P L e st o K KP):∃ v,K v st/\∀ K',K' v st->aop P L e st o K' KP:=by
 obtain ⟨dst,op,ty,pos,af,gd⟩:=o;cases op <;> simp only [rdB] at hc <;> try (simp at hc; done)
 rename_i c;obtain ⟨callee,args,ts⟩:=c;cases callee with
 | invoke r m=>simp at hc
 | builtin b=>simp at hc
 | value f=>
  cases f with
  | func n=>
   simp only [Bool.and_eq_true,Bool.not_eq_true'] at hc;simp only [aop,Env.ev] at h ⊢;unfold zCL at h ⊢;have h1:¬ L.pf n=true:=by rw [hc.1]; simp
   simp only [if_neg h1,if_pos hc.2] at h ⊢;obtain ⟨q1,q2,q3,as,r,q4,q5,q6⟩:=h;exact ⟨r,q6,fun K' k=>⟨q1,q2,q3,as,r,q4,q5,k⟩⟩
  | tmp t=>simp at hc
  | const v=>simp at hc
  | global g=>simp at hc
theorem zSM {oi oj:Oper} (hc:kpB L oi oj=true) {K:V->S->Prop} (h:aop P L e st oi K KP):∃ v,K v st/\∀ s' K',(∀ b ∈ klb L (kkey oj),Go.Al.look s'.box b=Go.Al.look st.box b)->K' v s'->aop P L e s' oi K' KP:=by
 obtain ⟨dst,op,ty,pos,af,gd⟩:=oi;unfold kpB at hc;split at hc
 . rename_i t x hop;simp only at hop;subst hop;split at hc
   . rename_i u;split at hc
     . rename_i c hopj;split at hc
       . split at hc
         . rename_i d hd;obtain ⟨h0,h⟩:=h;obtain ⟨v,h1,h2⟩:=zHA _ _ _ _ h;refine ⟨v,h1,fun s' K' hb k=>⟨h0,?_⟩⟩;have hm:(d,u) ∈ L.kl:=by simpa using hc
           have h3:=h2 (fun v=>K' v s') k;have hkk:kkey oj=some d:=by unfold kkey; rw [hopj]; exact hd
           unfold y6 at h3 ⊢;split at h3
           . exact h3
           . rename_i b o hv;rw [hb b (by rw [hkk]; exact h0 (d,u) hm rfl b o hv)];exact h3
           . cases h3
         . cases hc
       . cases hc
     . rename_i t2 y z hop2;split at hc
       . rename_i a;obtain ⟨h0,h⟩:=h;obtain ⟨v,h1,h2⟩:=zHA _ _ _ _ h;refine ⟨v,h1,fun s' K' hb k=>⟨h0,?_⟩⟩;have hm:(1000000+a,u) ∈ L.kl:=by simpa using hc
         have h3:=h2 (fun v=>K' v s') k;have hkk:kkey oj=some (1000000+a):=by unfold kkey; rw [hop2]
         unfold y6 at h3 ⊢;split at h3
         . exact h3
         . rename_i b o hv;rw [hb b (by rw [hkk]; exact h0 (1000000+a,u) hm rfl b o hv)];exact h3
         . cases h3
       . cases hc
     . cases hc
   . cases hc
 . cases hc
theorem zOR {oi oj:Oper} (hc:kpB L oi oj=true) {K:V->S->Prop} (h:aop P L e st oj K KP):aop P L e st oj (fun v s=>(∀ b ∈ klb L (kkey oj),Go.Al.look s.box b=Go.Al.look st.box b)/\K v s) KP:=by
 unfold kpB at hc;split at hc
 . split at hc
   . split at hc
     . rename_i c hop;split at hc
       . rename_i f hcal;obtain ⟨dst,op,ty,pos,af,gd⟩:=oj;simp only at hop;subst hop;simp only [aop,hcal] at h ⊢;unfold zCL at h ⊢;split at h
         . obtain ⟨q1,q2,q3,q4⟩:=h;refine ⟨q1,q2,q3,?_⟩;split at q4
           . rename_i hp; rw [if_pos hp];obtain ⟨r1,r,r2,r3⟩:=q4;exact ⟨r1,r,r2,fun _ _=>rfl,r3⟩
           . rename_i hp; rw [if_neg hp];split at q4
             . rename_i hp2; rw [if_pos hp2];obtain ⟨as,r,r1,r2,r3⟩:=q4;exact ⟨as,r,r1,r2,fun _ _=>rfl,r3⟩
             . rename_i hp2; rw [if_neg hp2];obtain ⟨as,r1,r2⟩:=q4;refine ⟨as,r1,fun B g w vs hi hgl hv=>(r2 B g w vs hi hgl hv).mono ?_⟩;rintro en w' ⟨g',st',k1,k2,k3⟩;refine ⟨g',st',k1,k2,?_⟩;cases en with
               | returned v=>obtain ⟨r,k4,k5,k6⟩:=k3; exact ⟨r,k4,k5,k5,k6⟩
               | panicked ch=>exact k3
               | outgrown=>exact k3
         . cases h
       . cases hc
     . rename_i t2 y z hop;split at hc
       . rename_i a;obtain ⟨dst,op,ty,pos,af,gd⟩:=oj;simp only at hop;subst hop;simp only [aop] at h ⊢;obtain ⟨h0,h⟩:=h;refine ⟨h0,?_⟩;unfold qF at *;split at h
         . rename_i b o hv;split at h
           . obtain ⟨q1,q2,q3,q4,q5⟩:=h;refine ⟨q1,q2,q3,q4,fun b2 hb2=>?_,q5⟩;rw [zO,if_neg (fun e1=>by subst e1; exact h0 b o hv hb2)]
           . cases h
         . cases h
       . cases hc
     . cases hc
   . cases hc
 . cases hc
theorem zDM {o:Oper} (hc:cls L o=3) {K:V->S->Prop} (h:aop P L e st o K KP):∃ v,K v st/\∀ st' K' KP',More st st'->K' v st'->aop P L e st' o K' KP':=by
 obtain ⟨dst,op,ty,pos,af,gd⟩:=o;cases op <;> simp only [cls] at hc <;> try (first | omega | (split at hc <;> first | omega | (split at hc <;> omega)))
 case load t x=>
  simp only [aop] at h ⊢;obtain ⟨h0,h⟩:=h;obtain ⟨v,h1,h2⟩:=zHA _ _ _ _ h;exact ⟨v,h1,fun st' K' _ hb k=>⟨h0,zOa hb _ _ _ (h2 (fun v=>K' v st') k)⟩⟩
end
end Go.Al
end
